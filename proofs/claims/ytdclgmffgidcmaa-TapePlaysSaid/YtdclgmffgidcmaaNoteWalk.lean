/- The program's notes: what uses, Check, number, Encode come to; conditions: numbers are of their kinds, slices read as told. -/
import Derived.Test.YtdclgmffgidcmaaCrcWalk
import Derived.Deep.LoopGhost
namespace Go.Proofs.Ytdclgmffgidcmaa
set_option linter.unusedSimpArgs false
set_option linter.unusedVariables false
open Go.RowKit

theorem uses_any (k : Int) (w : World) : Calls Try.prog 48 #[.int .i64 k] w fun e w' => e = .returned (.int .i64 (usesZ k)) ∧ w = w' := by
  go_enter Try.func48, Try.ntmps48
  go_wp2
  all_goals
    go_ret
    refine ⟨ret_int ?_, rfl⟩
    simp only [beq_iff_eq, beq_eq_false_iff_ne, ne_eq] at *
    unfold usesZ
    simp_all

theorem okNum_yes {k i x : Int} (h : okNum k i x = true) : 0 ≤ x ∧ x ≤ 2147483647 ∧ (i < usesZ k ∨ (usesZ k ≤ i ∧ x = 0)) := by
  unfold okNum at h
  simp at h
  omega
theorem okNum_no {k i x : Int} (h : okNum k i x = false) : x < 0 ∨ (0 ≤ x ∧ 2147483647 < x) ∨ (0 ≤ x ∧ x ≤ 2147483647 ∧ usesZ k ≤ i ∧ (x != 0) = true) := by
  unfold okNum at h
  simp at h
  simp
  omega
theorem usesZ_ne (k : Int) : usesZ k < 0 ∨ 0 < usesZ k := by unfold usesZ; repeat (first | split | omega)

/-- So many of the three numbers are as they must be. -/
def chk (n : Nt) (k : Nat) : Prop := (0 < k → okNum n.k 0 n.a = true) ∧ (1 < k → okNum n.k 1 n.b = true) ∧ (2 < k → okNum n.k 2 n.c = true)

theorem chk_bad {n : Nt} (h : okNum n.k 0 n.a = false ∨ okNum n.k 1 n.b = false ∨ okNum n.k 2 n.c = false) : goodB n = false := by
  unfold goodB
  rcases h with h | h | h <;> simp [h]

/-- What Check answers. -/
def checkZ (n : Nt) : Int := if goodB n then 0 else 180

set_option maxHeartbeats 1000000 in
theorem check_any (n : Nt) (w : World) : Calls Try.prog 47 #[n.val] w fun e w' => e = .returned (.int .i64 (checkZ n)) ∧ Below w.heap.size w w' := by
  obtain ⟨k, a, b, c⟩ := n
  have i0 : ∀ w, (Instr.index 81 (.agg #[.int .i64 a, .int .i64 b, .int .i64 c]) (.int .i64 0)).run Try.prog w = .ok (.int .i64 a) w := fun _ => by kernel_rfl
  have i1 : ∀ w, (Instr.index 81 (.agg #[.int .i64 a, .int .i64 b, .int .i64 c]) (.int .i64 1)).run Try.prog w = .ok (.int .i64 b) w := fun _ => by kernel_rfl
  have i2 : ∀ w, (Instr.index 81 (.agg #[.int .i64 a, .int .i64 b, .int .i64 c]) (.int .i64 2)).run Try.prog w = .ok (.int .i64 c) w := fun _ => by kernel_rfl
  unfold Nt.val
  go_enter Try.func47, Try.ntmps47
  go_wp2_with (go_at_call 48; refine (uses_any _ _).mono ?_; rintro e w' ⟨rfl, rfl⟩)
  go_loop [16] (fun i => ∃ j : Nat, j ≤ 3 ∧ i = .int .i64 j ∧ chk ⟨k, a, b, c⟩ j) (fun i => 3 - (intOf i).toNat)
  case atStart => exact ⟨0, by omega, rfl, by unfold chk; simp⟩
  case round =>
    obtain ⟨j, hj, rfl, hchk⟩ := hrel
    have h4 : j = 0 ∨ j = 1 ∨ j = 2 ∨ j = 3 := by omega
    rcases h4 with rfl | rfl | rfl | rfl
    · cases hok : okNum k 0 a
      · have hf := Lib.hid (chk_bad (n := ⟨k, a, b, c⟩) (.inl hok))
        have hok' := okNum_no hok
        clear hok hchk
        rcases hok' with h1 | ⟨h1, h2⟩ | ⟨h1, h2, h3, h4⟩
        all_goals
          go_wp2
          go_ret
          exact ⟨ret_int (by unfold checkZ; rw [hf.out]; rfl), (Below.refl _ _).alloc (Nat.le_refl _) _⟩
      · have hc' : Hid (chk ⟨k, a, b, c⟩ 1) := ⟨fun _ => hok, fun h => by omega, fun h => by omega⟩
        obtain ⟨h1, h2, h3⟩ := okNum_yes hok
        clear hok hchk
        rcases h3 with h3 | ⟨h3, rfl⟩
        all_goals
          go_wp2
          go_round
          case rel => exact ⟨1, by omega, by go_num, hc'.out⟩
          case measure => simp [intOf]
    · cases hok : okNum k 1 b
      · have hf := Lib.hid (chk_bad (n := ⟨k, a, b, c⟩) (.inr (.inl hok)))
        have hok' := okNum_no hok
        clear hok hchk
        rcases hok' with h1 | ⟨h1, h2⟩ | ⟨h1, h2, h3, h4⟩
        all_goals
          go_wp2
          go_ret
          exact ⟨ret_int (by unfold checkZ; rw [hf.out]; rfl), (Below.refl _ _).alloc (Nat.le_refl _) _⟩
      · have hc' : Hid (chk ⟨k, a, b, c⟩ 2) := ⟨fun _ => hchk.1 (by omega), fun _ => hok, fun h => by omega⟩
        obtain ⟨h1, h2, h3⟩ := okNum_yes hok
        clear hok hchk
        rcases h3 with h3 | ⟨h3, rfl⟩
        all_goals
          go_wp2
          go_round
          case rel => exact ⟨2, by omega, by go_num, hc'.out⟩
          case measure => simp [intOf]
    · cases hok : okNum k 2 c
      · have hf := Lib.hid (chk_bad (n := ⟨k, a, b, c⟩) (.inr (.inr hok)))
        have hok' := okNum_no hok
        clear hok hchk
        rcases hok' with h1 | ⟨h1, h2⟩ | ⟨h1, h2, h3, h4⟩
        all_goals
          go_wp2
          go_ret
          exact ⟨ret_int (by unfold checkZ; rw [hf.out]; rfl), (Below.refl _ _).alloc (Nat.le_refl _) _⟩
      · have hc' : Hid (chk ⟨k, a, b, c⟩ 3) := ⟨fun _ => hchk.1 (by omega), fun _ => hchk.2.1 (by omega), fun _ => hok⟩
        obtain ⟨h1, h2, h3⟩ := okNum_yes hok
        clear hok hchk
        rcases h3 with h3 | ⟨h3, rfl⟩
        all_goals
          go_wp2
          go_round
          case rel => exact ⟨3, by omega, by go_num, hc'.out⟩
          case measure => simp [intOf]
    · have hg : Hid (goodB ⟨k, a, b, c⟩ = (decide (0 < usesZ k) && (decide (k ≠ 8) || decide (b ≤ 1)))) := by
        unfold Hid goodB
        simp [hchk.1 (by omega), hchk.2.1 (by omega), hchk.2.2 (by omega)]
      clear hchk i0 i1 i2
      rcases usesZ_ne k with hu | hu
      · go_wp2
        go_ret
        exact ⟨ret_int (by unfold checkZ; rw [hg.out]; simp; omega), (Below.refl _ _).alloc (Nat.le_refl _) _⟩
      · by_cases h8 : k = 8
        · subst h8
          by_cases hb : b ≤ 1
          · go_wp2
            go_ret
            exact ⟨ret_int (by unfold checkZ; rw [hg.out]; simp [hb]; unfold usesZ; simp), (Below.refl _ _).alloc (Nat.le_refl _) _⟩
          · go_wp2
            go_ret
            exact ⟨ret_int (by unfold checkZ; rw [hg.out]; simp [hb]), (Below.refl _ _).alloc (Nat.le_refl _) _⟩
        · have hk8 : (k == 8) = false := by simpa using h8
          go_wp2
          go_ret
          exact ⟨ret_int (by unfold checkZ; rw [hg.out]; simp [h8, hu]), (Below.refl _ _).alloc (Nat.le_refl _) _⟩
end Go.Proofs.Ytdclgmffgidcmaa
