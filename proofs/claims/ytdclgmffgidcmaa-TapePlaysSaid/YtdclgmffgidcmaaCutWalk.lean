/- The tape: cut, Repair. -/
import Derived.Test.YtdclgmffgidcmaaMethWalk
namespace Go.Proofs.Ytdclgmffgidcmaa
set_option linter.unusedSimpArgs false
set_option linter.unusedVariables false
open Go.RowKit

/-- A drawing changes nothing of a tape. -/
theorem TapeAt.drewN {w : World} {b : Nat} {F : Nat → Prop} {s : TS} (h : TapeAt w b F s) (q : Nat) : TapeAt (w.drewN q) b F s := h.kept (S := fun _ => False) ⟨rfl, rfl, rfl, Nat.le_refl _, fun _ _ _ => rfl⟩ (fun _ _ f => f)

theorem cut_any (w : World) (b ar n : Nat) (F : Nat → Prop) (s : TS) (hT : TapeAt w b F s) (har : ar = 0 ∨ ar = 1) :
    Calls Try.prog 32 #[.pointer (some ⟨b, 0, none⟩), .int .i64 (ar : Int), .int .i64 (n : Int)] w
      fun e w' => e = .returned (.tuple #[]) ∧ TapeAt w' b (Wider F w w') (s.cut ar n) ∧ Keep F w w' := by
  obtain ⟨v, hv, ho, -⟩ := hT.area har
  obtain ⟨p, cap, rfl⟩ := own_slice ho
  have lb := lt_of_cell hv
  have HT := Lib.hid hT
  clear ho hT
  have q1 : (b = w.heap.size) = False := by simp; omega
  have q2 : (b = w.heap.size + 1) = False := by simp; omega
  have q3 : (b = w.heap.size + 2) = False := by simp; omega
  have r1 : (b < w.heap.size + 1) = True := by simp; omega
  have r2 : (b < w.heap.size + 2) = True := by simp; omega
  by_cases hn : n < (s.area ar).length
  · have HU : Hid (∀ w4, Below w.heap.size w w4 → w.heap.size + 3 ≤ w4.heap.size → w4.cell? ⟨w.heap.size, 0, none⟩ = some (.pointer (some ⟨b, 0, none⟩)) → w4.cell? ⟨w.heap.size + 1, 0, none⟩ = some (.int .i64 (ar : Int)) → w4.cell? ⟨w.heap.size + 2, 0, none⟩ = some (.int .i64 (n : Int)) → Calls Try.prog 37 #[.pointer (some ⟨b, 0, none⟩), .func (.func 43) #[] #[.pointer (some ⟨w.heap.size, 0, none⟩), .pointer (some ⟨w.heap.size + 1, 0, none⟩), .pointer (some ⟨w.heap.size + 2, 0, none⟩)]] w4 fun e w' => e = .returned (.tuple #[]) ∧ TapeAt w' b (Wider F w4 w') (s.cut ar n) ∧ Keep F w4 w') := by
      intro w4 hb4 hs4 h3 h4 h5
      exact cut_unit w4 b w.heap.size (w.heap.size + 1) (w.heap.size + 2) ar n F s (HT.out.below hb4) har h3 h4 h5 (fun h => absurd (HT.out.lt _ h) (by omega)) (fun h => absurd (HT.out.lt _ h) (by omega)) (fun h => absurd (HT.out.lt _ h) (by omega)) hn
    have hin : ((n : Int) < ((s.area ar).length : Int)) := by omega
    generalize hlen : (s.area ar).length = m at *
    have hlen' := Lib.hid hlen
    clear hlen hn
    rcases har with rfl | rfl
    all_goals
      go_enter Try.func32, Try.ntmps32
      go_wp2_with fail
      go_quiet (fail)
      go_wp2_with fail
    · have hB := below_draws (((((Below.refl w.heap.size w).alloc (Nat.le_refl _) (.cells #[.pointer (some ⟨b, 0, none⟩)] 23)).alloc (by simp) (.cells #[.int .i64 0] 3)).alloc (by simp; omega) (.cells #[.int .i64 (n : Int)] 3))) nq
      refine (HU.out _ hB (by simp) (by simp [go_sem]) (by simp [go_sem]) (by simp [go_sem])).mono ?_
      rintro e w5 ⟨rfl, t5, k5⟩
      have hF : TapeAt w5 b (Wider F w w5) (s.cut 0 n) ∧ Keep F w w5 := ⟨t5.mono (fun k h => h.imp id fun h => ⟨Nat.le_trans hB.size h.1, h.2⟩) (fun k h => h.elim (fun h => t5.lt k (.inl h)) And.right), (Keep.ofBelow hB).trans k5 fun _ _ h => h⟩
      have HF := Lib.hid hF
      clear hF t5 k5 hB HU
      go_wp2
      go_end0
      exact ⟨rfl, HF.out.1, HF.out.2⟩
    · have hB := below_draws (((((Below.refl w.heap.size w).alloc (Nat.le_refl _) (.cells #[.pointer (some ⟨b, 0, none⟩)] 23)).alloc (by simp) (.cells #[.int .i64 1] 3)).alloc (by simp; omega) (.cells #[.int .i64 (n : Int)] 3))) nq
      refine (HU.out _ hB (by simp) (by simp [go_sem]) (by simp [go_sem]) (by simp [go_sem])).mono ?_
      rintro e w5 ⟨rfl, t5, k5⟩
      have hF : TapeAt w5 b (Wider F w w5) (s.cut 1 n) ∧ Keep F w w5 := ⟨t5.mono (fun k h => h.imp id fun h => ⟨Nat.le_trans hB.size h.1, h.2⟩) (fun k h => h.elim (fun h => t5.lt k (.inl h)) And.right), (Keep.ofBelow hB).trans k5 fun _ _ h => h⟩
      have HF := Lib.hid hF
      clear hF t5 k5 hB HU
      go_wp2
      go_end0
      exact ⟨rfl, HF.out.1, HF.out.2⟩
  · have hX : Hid (s.cut ar n = s) := by unfold Hid TS.cut; rw [if_neg hn]
    have hin : ¬ ((n : Int) < ((s.area ar).length : Int)) := by omega
    generalize (s.area ar).length = m at *
    clear hn
    rcases har with rfl | rfl
    all_goals
      go_enter Try.func32, Try.ntmps32
      go_wp2_with fail
      go_quiet (fail)
      go_wp2_with fail
    · go_end0
      rw [hX.out]
      have hB := below_draws (((((Below.refl w.heap.size w).alloc (Nat.le_refl _) (.cells #[.pointer (some ⟨b, 0, none⟩)] 23)).alloc (by simp) (.cells #[.int .i64 0] 3)).alloc (by simp; omega) (.cells #[.int .i64 (n : Int)] 3))) nq
      exact ⟨rfl, (HT.out.below hB).wider hB.size, Keep.ofBelow hB⟩
    · go_end0
      rw [hX.out]
      have hB := below_draws (((((Below.refl w.heap.size w).alloc (Nat.le_refl _) (.cells #[.pointer (some ⟨b, 0, none⟩)] 23)).alloc (by simp) (.cells #[.int .i64 1] 3)).alloc (by simp; omega) (.cells #[.int .i64 (n : Int)] 3))) nq
      exact ⟨rfl, (HT.out.below hB).wider hB.size, Keep.ofBelow hB⟩

end Go.Proofs.Ytdclgmffgidcmaa
