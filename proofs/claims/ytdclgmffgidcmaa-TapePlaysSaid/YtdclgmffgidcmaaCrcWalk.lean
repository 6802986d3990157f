/- The program's and the reference's sum of bytes come to one plain function; conditions: the slice that comes in reads as bytes. -/
import Derived.Test.YtdclgmffgidcmaaProg
import Derived.Test.YtdclgmffgidcmaaNotePure
import Derived.Outline
namespace Go.Proofs.Ytdclgmffgidcmaa
set_option linter.unusedSimpArgs false
set_option linter.unusedVariables false
open Go.RowKit

theorem bits_xor16 (a b : Nat) (ha : a < 65536) (hb : b < 65536) : bits .xor .u16 (a : Int) (b : Int) = ((a ^^^ b : Nat) : Int) := by
  have h := xor_lt16 ha hb
  simp only [bits, BitVec.ofInt_natCast, BitVec.toNat_xor, BitVec.toNat_ofNat]
  rw [Nat.mod_eq_of_lt (show a < 2 ^ IntKind.u16.bits from ha), Nat.mod_eq_of_lt (show b < 2 ^ IntKind.u16.bits from hb)]
  simp [IntKind.wrap, IntKind.bits, IntKind.signed]
  omega

theorem wrap_u16 (n : Int) : IntKind.u16.wrap n = n % 65536 := by simp [IntKind.wrap, IntKind.bits, IntKind.signed]

theorem step_fin (c b : Nat) (hc : c < 65536) (hb : b < 256) :
    bits .xor .u16 (bits .xor .u16 (bits .xor .u16 (IntKind.u16.wrap ((c : Int) * 256)) (IntKind.u16.wrap (bits .xor .u16 (bits .xor .u16 ((c : Int) / 256) b) (bits .xor .u16 ((c : Int) / 256) b / 16) * 4096)))
        (IntKind.u16.wrap (bits .xor .u16 (bits .xor .u16 ((c : Int) / 256) b) (bits .xor .u16 ((c : Int) / 256) b / 16) * 32)))
      (bits .xor .u16 (bits .xor .u16 ((c : Int) / 256) b) (bits .xor .u16 ((c : Int) / 256) b / 16)) = ((stepN c b : Nat) : Int) := by
  have h0 : (c / 256) ^^^ b < 256 := Nat.xor_lt_two_pow (n := 8) (by omega) (by omega)
  have h1 : ((c / 256) ^^^ b) ^^^ (((c / 256) ^^^ b) / 16) < 256 := Nat.xor_lt_two_pow (n := 8) h0 (by omega)
  rw [show ((c : Int) / 256) = ((c / 256 : Nat) : Int) from by omega, bits_xor16 _ _ (by omega) (by omega)]
  rw [show (((c / 256 ^^^ b : Nat) : Int) / 16) = ((((c / 256) ^^^ b) / 16 : Nat) : Int) from by omega, bits_xor16 _ _ (by omega) (by omega)]
  unfold stepN
  simp only [wrap_u16]
  generalize (c / 256 ^^^ b) ^^^ (c / 256 ^^^ b) / 16 = u at *
  rw [show ((c : Int) * 256 % 65536) = ((c * 256 % 65536 : Nat) : Int) from by omega, show ((u : Int) * 4096 % 65536) = ((u * 4096 % 65536 : Nat) : Int) from by omega, show ((u : Int) * 32 % 65536) = ((u * 32 % 65536 : Nat) : Int) from by omega]
  rw [bits_xor16 _ _ (by omega) (by omega), bits_xor16 _ _ (xor_lt16 (by omega) (by omega)) (by omega), bits_xor16 _ _ (xor_lt16 (xor_lt16 (by omega) (by omega)) (by omega)) (by omega)]

theorem step_any (c b : Nat) (hc : c < 65536) (hb : b < 256) (w : World) :
    Calls Try.prog 53 #[.int .u16 c, .int .u8 b] w fun e w' => e = .returned (.int .u16 (stepN c b : Nat)) ∧ w = w' := by
  have hf := Lib.hid (step_fin c b hc hb)
  go_enter Try.func53, Try.ntmps53
  go_wp2
  go_ret
  exact ⟨ret_int hf.out, rfl⟩

/-- crc.Sum. -/
theorem sum_any (v : Value) (l : List UInt8) (w : World) (hv : Rd w 1 l.length v (l.map bv)) :
    Calls Try.prog 50 #[v] w fun e w' => e = .returned (.int .u16 (sumN l : Nat)) ∧ w = w' := by
  obtain ⟨_, hm, hv⟩ := hv
  unfold maxLen at hm
  rcases hv with ⟨rfl, h0⟩ | ⟨b, off, cap, rfl, hle, hcm, hc⟩
  · obtain rfl : l = [] := List.eq_nil_of_length_eq_zero h0
    go_enter Try.func50, Try.ntmps50
    go_wp2
    go_loop [3, 8] (fun c i => c = .int .u16 (65535 : Nat) ∧ i = .int .i64 0) (fun _ _ => 0)
    case atStart => exact ⟨rfl, rfl⟩
    case round =>
      obtain ⟨rfl, rfl⟩ := hrel
      go_wp2
      go_ret
      exact ⟨rfl, rfl⟩
  · have H := Lib.hid hc
    clear hc
    go_enter Try.func50, Try.ntmps50
    go_wp2
    go_loop [3, 8] (fun c i => ∃ k : Nat, k ≤ l.length ∧ i = .int .i64 k ∧ c = .int .u16 (sumFrom 65535 (l.take k) : Nat)) (fun _ i => l.length - (intOf i).toNat)
    case atStart => exact ⟨0, Nat.zero_le _, rfl, rfl⟩
    case round =>
      obtain ⟨k, hk, rfl, rfl⟩ := hrel
      by_cases hlt : k < l.length
      · have hcell : w.cell? ⟨b, off + k, none⟩ = some (.int .u8 ((l[k]).toNat : Int)) := by
          have := H.out k (by omega)
          rw [List.getElem?_map, List.getElem?_eq_getElem hlt] at this
          simpa [bv] using this
        have hs := Lib.hid (sumFrom_snoc 65535 (l.take k) l[k])
        have ht : Hid (l.take (k + 1) = l.take k ++ [l[k]]) := List.take_succ_eq_append_getElem hlt
        have hb := UInt8.toNat_lt l[k]
        have hsl := sumFrom_lt (l.take k) 65535 (by omega)
        go_wp2_with (go_at_call 53; refine (step_any _ _ hsl hb _).mono ?_; rintro e w' ⟨rfl, rfl⟩)
        go_round
        case rel => exact ⟨k + 1, by omega, by go_num, by rw [ht.out, hs.out]⟩
        case measure => simp [intOf]; omega
      · obtain rfl : k = l.length := by omega
        go_wp2
        go_ret
        exact ⟨ret_int (by first | rfl | (rw [List.take_length]; rfl)), rfl⟩

theorem xor_in (c b : Nat) (hc : c < 65536) (hb : b < 256) : bits .xor .u16 (c : Int) ((b : Int) * 256) = ((c ^^^ (b * 256) : Nat) : Int) := by
  rw [show ((b : Int) * 256) = ((b * 256 : Nat) : Int) from by omega]
  exact bits_xor16 c (b * 256) hc (by omega)
theorem rs_hi (x : Nat) (_hx : x < 65536) (h : 32768 ≤ x) : bits .xor .u16 (IntKind.u16.wrap ((x : Int) * 2)) 4129 = ((rs x : Nat) : Int) := by
  rw [wrap_u16, show ((x : Int) * 2 % 65536) = ((x * 2 % 65536 : Nat) : Int) from by omega]
  have e := bits_xor16 (x * 2 % 65536) 4129 (by omega) (by omega)
  have e2 : rs x = (x * 2 % 65536) ^^^ 4129 := by unfold rs; rw [if_pos h]
  rw [e2]; exact e
theorem rs_lo (x : Nat) (h : ¬ 32768 ≤ x) : ((x : Int) * 2) = ((rs x : Nat) : Int) := by
  have e2 : rs x = x * 2 % 65536 := by unfold rs; rw [if_neg h]
  rw [e2]; omega
theorem rsN_lt : ∀ k x : Nat, x < 65536 → rsN k x < 65536 := by
  intro k; induction k with
  | zero => intro x hx; exact hx
  | succ k ih => intro x hx; exact ih _ (rs_lt x)
theorem rsN_snoc : ∀ k x : Nat, rsN (k + 1) x = rs (rsN k x) := by
  intro k; induction k with
  | zero => intro x; rfl
  | succ k ih => intro x; exact ih (rs x)

theorem rstep_any (c b : Nat) (hc : c < 65536) (hb : b < 256) (w : World) :
    Calls Try.prog 54 #[.int .u16 c, .int .u8 b] w fun e w' => e = .returned (.int .u16 (stepN c b : Nat)) ∧ w = w' := by
  have hx := Lib.hid (xor_in c b hc hb)
  have hxl := xor_lt16 hc (show b * 256 < 65536 by omega)
  go_enter Try.func54, Try.ntmps54
  go_wp2
  go_loop [0, 5] (fun c' i => ∃ k x : Nat, k ≤ 8 ∧ (x : Int) < 65536 ∧ i = .int .i64 k ∧ c' = .int .u16 (x : Int) ∧ Hid (x = rsN k (c ^^^ (b * 256)))) (fun _ i => 8 - (intOf i).toNat)
  case atStart => exact ⟨0, c ^^^ (b * 256), by omega, by omega, rfl, by rw [hx.out], rfl⟩
  case round =>
    rename_i hw
    clear hw
    obtain ⟨k, x, hk, hl, rfl, rfl, hn⟩ := hrel
    clear hx hxl
    by_cases hlt : (k : Int) < 8
    · by_cases hh : (32768 : Int) ≤ x
      · go_wp2
        go_round
        case rel => exact ⟨k + 1, rs x, by omega, by have := rs_lt x; omega, by go_num, by rw [rs_hi x (by omega) (by omega)], by unfold Hid; rw [rsN_snoc, hn.out]⟩
        case measure => simp [intOf]; omega
      · go_wp2
        go_round
        case rel => exact ⟨k + 1, rs x, by omega, by have := rs_lt x; omega, by go_num, by rw [rs_lo x (by omega)], by unfold Hid; rw [rsN_snoc, hn.out]⟩
        case measure => simp [intOf]; omega
    · obtain rfl : k = 8 := by omega
      go_wp2
      go_ret
      exact ⟨ret_int (by rw [hn.out]; exact congrArg _ (stepR_eq c b hc hb)), rfl⟩
end Go.Proofs.Ytdclgmffgidcmaa
