/- The reference's notes: Uses, Sum, Good. -/
import Derived.Test.YtdclgmffgidcmaaNoteWalk
import Derived.Test.YtdclgmffgidcmaaWriteWalk
namespace Go.Proofs.Ytdclgmffgidcmaa
set_option linter.unusedSimpArgs false
set_option linter.unusedVariables false
open Go.RowKit

set_option maxHeartbeats 4000000 in
theorem ruses_any (k : Int) (w : World) : Calls Try.prog 51 #[.int .i64 k] w fun e w' => e = .returned (.int .i64 (usesZ k)) ∧ Below w.heap.size w w' := by
  by_cases h : k < 0 ∨ 8 < k
  · have hu : Hid (usesZ k = -1) := by unfold Hid usesZ; repeat (first | rw [if_neg (by omega)] | rfl)
    rcases h with h | h
    · go_enter Try.func51, Try.ntmps51
      go_wp2
      go_ret
      rw [hu.out]
      exact ⟨rfl, Below.alloc1 w _⟩
    · have h' : ¬ k < 0 := by omega
      go_enter Try.func51, Try.ntmps51
      go_wp2
      go_ret
      rw [hu.out]
      exact ⟨rfl, Below.alloc1 w _⟩
  · obtain ⟨n, rfl, hn⟩ : ∃ n : Nat, k = n ∧ n < 9 := ⟨k.toNat, by omega, by omega⟩
    match n, hn with
    | 0, _ => go_enter Try.func51, Try.ntmps51; go_wp2; go_ret; exact ⟨by rfl, Below.alloc1 w _⟩
    | 1, _ => go_enter Try.func51, Try.ntmps51; go_wp2; go_ret; exact ⟨by rfl, Below.alloc1 w _⟩
    | 2, _ => go_enter Try.func51, Try.ntmps51; go_wp2; go_ret; exact ⟨by rfl, Below.alloc1 w _⟩
    | 3, _ => go_enter Try.func51, Try.ntmps51; go_wp2; go_ret; exact ⟨by rfl, Below.alloc1 w _⟩
    | 4, _ => go_enter Try.func51, Try.ntmps51; go_wp2; go_ret; exact ⟨by rfl, Below.alloc1 w _⟩
    | 5, _ => go_enter Try.func51, Try.ntmps51; go_wp2; go_ret; exact ⟨by rfl, Below.alloc1 w _⟩
    | 6, _ => go_enter Try.func51, Try.ntmps51; go_wp2; go_ret; exact ⟨by rfl, Below.alloc1 w _⟩
    | 7, _ => go_enter Try.func51, Try.ntmps51; go_wp2; go_ret; exact ⟨by rfl, Below.alloc1 w _⟩
    | 8, _ => go_enter Try.func51, Try.ntmps51; go_wp2; go_ret; exact ⟨by rfl, Below.alloc1 w _⟩

theorem rsum_any (v : Value) (l : List UInt8) (w : World) (hv : Rd w 1 l.length v (l.map bv)) :
    Calls Try.prog 52 #[v] w fun e w' => e = .returned (.int .u16 (sumN l : Nat)) ∧ w = w' := by
  obtain ⟨_, hm, hv⟩ := hv
  unfold maxLen at hm
  rcases hv with ⟨rfl, h0⟩ | ⟨b, off, cap, rfl, hle, hcm, hc⟩
  · obtain rfl : l = [] := List.eq_nil_of_length_eq_zero h0
    go_enter Try.func52, Try.ntmps52
    go_wp2
    go_loop [3, 4] (fun c i => c = .int .u16 (65535 : Nat) ∧ i = .int .i64 0) (fun _ _ => 0)
    case atStart => exact ⟨rfl, rfl⟩
    case round =>
      obtain ⟨rfl, rfl⟩ := hrel
      go_wp2
      go_ret
      exact ⟨rfl, rfl⟩
  · have H := Lib.hid hc
    clear hc
    go_enter Try.func52, Try.ntmps52
    go_wp2
    go_loop [3, 4] (fun c i => ∃ k : Nat, k ≤ l.length ∧ i = .int .i64 k ∧ c = .int .u16 (sumFrom 65535 (l.take k) : Nat)) (fun _ i => l.length - (intOf i).toNat)
    case atStart => exact ⟨0, Nat.zero_le _, rfl, rfl⟩
    case round =>
      obtain ⟨k, hk, rfl, rfl⟩ := hrel
      by_cases hlt : k < l.length
      · have hcell : w.cell? ⟨b, off + k, none⟩ = some (.int .u8 ((l[k]).toNat : Int)) := by
          have := H.out k (by omega)
          rw [List.getElem?_map, List.getElem?_eq_getElem hlt] at this
          simpa [bv] using this
        have hs := Lib.hid (sumFrom_snoc 65535 (l.take k) l[k])
        have ht : Hid (l.take (k + 1) = l.take k ++ [l[k]]) := List.take_succ_eq_append_getElem hlt
        have hb := UInt8.toNat_lt l[k]
        have hsl := sumFrom_lt (l.take k) 65535 (by omega)
        go_wp2_with (go_at_call 54; refine (rstep_any _ _ hsl hb _).mono ?_; rintro e w' ⟨rfl, rfl⟩)
        go_round
        case rel => exact ⟨k + 1, by omega, by go_num, by rw [ht.out, hs.out]⟩
        case measure => simp [intOf]; omega
      · obtain rfl : k = l.length := by omega
        go_wp2
        go_ret
        exact ⟨ret_int (by first | rfl | (rw [List.take_length]; rfl)), rfl⟩
end Go.Proofs.Ytdclgmffgidcmaa
