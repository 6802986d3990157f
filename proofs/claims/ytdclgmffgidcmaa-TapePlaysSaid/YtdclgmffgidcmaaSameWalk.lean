/- Same of stillageref18: two lists of notes are the same. -/
import Derived.Test.YtdclgmffgidcmaaWriteWalk
import Derived.Deep.QuietTactic
import Derived.BigQuiet
import Derived.Laws.StructEq
import Derived.Outline
namespace Go.Proofs.Ytdclgmffgidcmaa
set_option linter.unusedSimpArgs false
set_option linter.unusedVariables false
open Go.RowKit

theorem run_neq_note (n m : Nt) (w : World) : (binOp .neq 37 (.agg #[.int .i64 n.k, .int .i64 n.a, .int .i64 n.b, .int .i64 n.c]) (.agg #[.int .i64 m.k, .int .i64 m.a, .int .i64 m.b, .int .i64 m.c])).run Try.prog w = .ok (.bool (decide (n ≠ m))) w := by
  rw [run_neq_struct, show (10000 : Nat) = 9999 + 1 from rfl, run_equalIn_agg w 9999 37 _ _ (by kernel_rfl) (by kernel_rfl)]
  have hF : Try.prog.fieldsOf 37 = #[⟨"Kind", 3, 0, false, "", "", 0⟩, ⟨"A", 3, 1, false, "", "", 8⟩, ⟨"B", 3, 2, false, "", "", 16⟩, ⟨"C", 3, 3, false, "", "", 24⟩] := by kernel_rfl
  rw [hF]
  have hi := Try.underlying3
  go_simp
  obtain ⟨a, b, c, d⟩ := n
  obtain ⟨a', b', c', d'⟩ := m
  simp only [Nt.mk.injEq]
  repeat' split
  all_goals simp_all

/-- The cells of a note in a slice. -/
theorem note_cells' {w : World} {b off : Nat} {ns : List Nt} (hc : ∀ j, j < ns.length * 4 → w.cell? ⟨b, off + j, none⟩ = (cellsL ns)[j]?) (k : Nat) (n : Nt) (hk : ns[k]? = some n) :
    w.cell? ⟨b, off + k * 4, none⟩ = some (.int .i64 n.k) ∧ w.cell? ⟨b, off + k * 4 + 1, none⟩ = some (.int .i64 n.a) ∧ w.cell? ⟨b, off + k * 4 + 2, none⟩ = some (.int .i64 n.b) ∧ w.cell? ⟨b, off + k * 4 + 3, none⟩ = some (.int .i64 n.c) := by
  obtain ⟨hk', rfl⟩ := List.getElem?_eq_some_iff.1 hk
  exact note_cells hc k hk'

/-- What Same's loop holds. -/
def SameRel (w : World) (l1 l2 : List Nt) (iv : Value) (wr : World) : Prop := ∃ k : Nat, iv = .int .i64 k ∧ k ≤ l1.length ∧ l1.take k = l2.take k ∧ ∃ q, wr = w.drewN q

theorem same_quiet (v1 v2 : Value) (l1 l2 : List Nt) (w : World) (h1 : Ns w v1 l1) (h2 : Ns w v2 l2) :
    Calls Try.prog 15 #[v1, v2] w fun e w' => e = .returned (.bool (decide (l1 = l2))) ∧ ∃ q, w' = w.drewN q := by
  obtain ⟨p1, c1, rfl, hn1, hc1⟩ := h1.slice
  obtain ⟨p2, c2, rfl, hn2, hc2⟩ := h2.slice
  unfold maxLen at hc1 hc2
  by_cases hlen : l1.length = l2.length
  · have hd : ((l1.length : Int) != (l2.length : Int)) = false := by simp [hlen]
    rcases Nat.eq_zero_or_pos l1.length with h0 | hpos
    · obtain rfl : l1 = [] := List.eq_nil_of_length_eq_zero h0
      obtain rfl : l2 = [] := List.eq_nil_of_length_eq_zero (by rw [← hlen]; rfl)
      clear h1 h2 hlen h0
      go_enter Try.func15, Try.ntmps15
      go_wp2
      go_loopw [13] (fun iv wr => iv = .int .i64 0 ∧ wr = w) (fun iv _ => 0)
      case atStart => exact ⟨rfl, rfl⟩
      case round =>
        obtain ⟨rfl, rfl⟩ := hrel
        go_wp2
        go_ret
        exact ⟨rfl, 0, rfl⟩
    · obtain ⟨b1, o1, hp1, H1⟩ : ∃ b o, p1 = some ⟨b, o, none⟩ ∧ ∀ j, j < l1.length * 4 → w.cell? ⟨b, o + j, none⟩ = (cellsL l1)[j]? := by
        rcases h1.2 with ⟨rfl, _⟩ | ⟨b, o, c, hv, _, _, hc⟩
        · simp at hpos
        · cases hv; exact ⟨b, o, rfl, hc⟩
      obtain ⟨b2, o2, hp2, H2⟩ : ∃ b o, p2 = some ⟨b, o, none⟩ ∧ ∀ j, j < l2.length * 4 → w.cell? ⟨b, o + j, none⟩ = (cellsL l2)[j]? := by
        rcases h2.2 with ⟨rfl, _⟩ | ⟨b, o, c, hv, _, _, hc⟩
        · simp at hlen; simp [hlen] at hpos
        · cases hv; exact ⟨b, o, rfl, hc⟩
      subst hp1 hp2
      have HH1 := Lib.hid (note_cells' H1)
      have HH2 := Lib.hid (note_cells' H2)
      have HL := Lib.hid hlen
      have hL1 : l1.length ≤ l2.length := by omega
      clear H1 H2 h1 h2 hlen
      generalize hm1 : l1.length = m1 at *
      generalize hm2 : l2.length = m2 at *
      have HM1 := Lib.hid hm1
      have HM2 := Lib.hid hm2
      clear hm1 hm2
      go_enter Try.func15, Try.ntmps15
      go_wp2
      go_loopw [13] (fun iv wr => SameRel w l1 l2 iv wr) (fun iv _ => m1 - (intOf iv).toNat)
      case atStart => exact ⟨0, rfl, Nat.zero_le _, rfl, 0, rfl⟩
      case round =>
        obtain ⟨k, rfl, hk, ht, q, rfl⟩ := hrel
        by_cases hlt : k < m1
        · obtain ⟨n1, hn1⟩ : ∃ n, l1[k]? = some n := ⟨l1[k]'(by rw [HM1.out]; exact hlt), List.getElem?_eq_getElem _⟩
          obtain ⟨n2, hn2⟩ : ∃ n, l2[k]? = some n := ⟨l2[k]'(by rw [HM2.out]; omega), List.getElem?_eq_getElem _⟩
          obtain ⟨a0, a1, a2, a3⟩ := HH1.out k n1 hn1
          obtain ⟨b0, b1', b2', b3⟩ := HH2.out k n2 hn2
          have la := lt_of_cell a0
          have lb := lt_of_cell b0
          have hlt2 : k < m2 := by omega
          have HN1 := Lib.hid hn1
          have HN2 := Lib.hid hn2
          have HT := Lib.hid ht
          clear ht hn1 hn2
          have hr := run_neq_note n1 n2
          by_cases hne : n1 = n2
          · have hr' : ∀ w, (binOp .neq 37 (.agg #[.int .i64 n1.k, .int .i64 n1.a, .int .i64 n1.b, .int .i64 n1.c]) (.agg #[.int .i64 n2.k, .int .i64 n2.a, .int .i64 n2.b, .int .i64 n2.c])).run Try.prog w = .ok (.bool false) w := fun w => by rw [hr w]; simp [hne]
            have HR : Hid (l1.take (k + 1) = l2.take (k + 1)) := by unfold Hid; rw [List.take_add_one, List.take_add_one, HT.out, HN1.out, HN2.out, hne]
            clear hr hne
            go_wp2_with fail
            go_quiet (fail)
            go_wp2
            go_roundw
            case rel => exact ⟨k + 1, rfl, by rw [HM1.out]; exact hlt, HR.out, _, rfl⟩
            case measure => simp [intOf]; omega
          · have hr' : ∀ w, (binOp .neq 37 (.agg #[.int .i64 n1.k, .int .i64 n1.a, .int .i64 n1.b, .int .i64 n1.c]) (.agg #[.int .i64 n2.k, .int .i64 n2.a, .int .i64 n2.b, .int .i64 n2.c])).run Try.prog w = .ok (.bool true) w := fun w => by rw [hr w]; simp [hne]
            have HR : Hid (decide (l1 = l2) = false) := decide_eq_false (fun h => hne (by subst h; exact Option.some.inj (HN1.out.symm.trans HN2.out)))
            clear hr hne
            go_wp2_with fail
            go_quiet (fail)
            go_wp2
            go_ret
            rw [HR.out]
            exact ⟨rfl, _, World.drewN_drewN _ _ _⟩
        · have HR : Hid (decide (l1 = l2) = true) := decide_eq_true (by rw [← List.take_of_length_le (show l1.length ≤ k by rw [HM1.out]; omega), ht, List.take_of_length_le (by rw [HM2.out, ← HL.out]; omega)])
          clear ht
          go_wp2
          go_ret
          rw [HR.out]
          exact ⟨rfl, _, rfl⟩
  · have hd : ((l1.length : Int) != (l2.length : Int)) = true := by rw [bne_iff_ne]; omega
    have HX : Hid (decide (l1 = l2) = false) := decide_eq_false (fun h => hlen (by rw [h]))
    clear h1 h2 hlen
    generalize l1.length = m1 at *
    generalize l2.length = m2 at *
    go_enter Try.func15, Try.ntmps15
    go_wp2
    go_ret
    rw [HX.out]
    exact ⟨rfl, 0, rfl⟩

theorem same_any (v1 v2 : Value) (l1 l2 : List Nt) (w : World) (h1 : Ns w v1 l1) (h2 : Ns w v2 l2) :
    Calls Try.prog 15 #[v1, v2] w fun e w' => e = .returned (.bool (decide (l1 = l2))) ∧ Below w.heap.size w w' :=
  (same_quiet v1 v2 l1 l2 w h1 h2).mono fun e w' ⟨h, q, hq⟩ => ⟨h, by subst hq; exact below_draws (Below.refl _ _) q⟩
end Go.Proofs.Ytdclgmffgidcmaa
