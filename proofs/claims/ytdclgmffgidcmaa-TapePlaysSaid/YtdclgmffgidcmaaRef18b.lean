/- The reference's notes: Good. -/
import Derived.Test.YtdclgmffgidcmaaRef18a
namespace Go.Proofs.Ytdclgmffgidcmaa
set_option linter.unusedSimpArgs false
set_option linter.unusedVariables false
open Go.RowKit

set_option maxHeartbeats 4000000 in
theorem rgood_any (n : Nt) (w : World) : Calls Try.prog 44 #[n.val] w fun e w' => e = .returned (.bool (goodB n)) ∧ Below w.heap.size w w' := by
  obtain ⟨k, a, b, c⟩ := n
  unfold Nt.val
  have HU := Lib.hid (fun q => ruses_any k (w.alloc q))
  go_enter Try.func44, Try.ntmps44
  go_wp2_with fail
  refine (HU.out _).mono ?_
  rintro e w1 ⟨rfl, hb⟩
  obtain ⟨hbc, hbf⟩ := bcell hb
  have hsz : w.heap.size < w1.heap.size := by have := hb.size; simp at this; omega
  have HB := Lib.hid ((Below.alloc1 w (.cells #[.int .i64 k, .int .i64 a, .int .i64 b, .int .i64 c] 37)).trans (hb.mono (by simp)))
  have q0 : w1.cell? ⟨w.heap.size, 0, none⟩ = some (.int .i64 k) := (hbc _ _ (by simp)).trans (by simp [go_sem])
  have q1 : w1.cell? ⟨w.heap.size, 1, none⟩ = some (.int .i64 a) := (hbc _ _ (by simp)).trans (by simp [go_sem])
  have q2 : w1.cell? ⟨w.heap.size, 2, none⟩ = some (.int .i64 b) := (hbc _ _ (by simp)).trans (by simp [go_sem])
  have q3 : w1.cell? ⟨w.heap.size, 3, none⟩ = some (.int .i64 c) := (hbc _ _ (by simp)).trans (by simp [go_sem])
  clear hb hbc hbf HU
  go_wp2_with fail
  go_loop [5] (fun i => ∃ j : Nat, j ≤ 3 ∧ i = .int .i64 j ∧ chk ⟨k, a, b, c⟩ j) (fun i => 3 - (intOf i).toNat)
  case atStart => exact ⟨0, by omega, rfl, by unfold chk; simp⟩
  case round =>
    obtain ⟨j, hj, rfl, hchk⟩ := hrel
    have h4 : j = 0 ∨ j = 1 ∨ j = 2 ∨ j = 3 := by omega
    rcases h4 with rfl | rfl | rfl | rfl
    · cases hok : okNum k 0 a
      · have hf := Lib.hid (chk_bad (n := ⟨k, a, b, c⟩) (.inl hok))
        have hok' := okNum_no hok
        clear hok hchk
        rcases hok' with h1 | ⟨h1, h2⟩ | ⟨h1, h2, h3, h4⟩
        all_goals
          go_wp2
          go_ret
          rw [hf.out]
          exact ⟨rfl, HB.out.alloc HB.out.size _⟩
      · have hc' : Hid (chk ⟨k, a, b, c⟩ 1) := ⟨fun _ => hok, fun h => by omega, fun h => by omega⟩
        obtain ⟨h1, h2, h3⟩ := okNum_yes hok
        clear hok hchk
        rcases h3 with h3 | ⟨h3, rfl⟩
        all_goals
          go_wp2
          go_round
          case rel => exact ⟨1, by omega, by go_num, hc'.out⟩
          case measure => simp [intOf]
    · cases hok : okNum k 1 b
      · have hf := Lib.hid (chk_bad (n := ⟨k, a, b, c⟩) (.inr (.inl hok)))
        have hok' := okNum_no hok
        clear hok hchk
        rcases hok' with h1 | ⟨h1, h2⟩ | ⟨h1, h2, h3, h4⟩
        all_goals
          go_wp2
          go_ret
          rw [hf.out]
          exact ⟨rfl, HB.out.alloc HB.out.size _⟩
      · have hc' : Hid (chk ⟨k, a, b, c⟩ 2) := ⟨fun _ => hchk.1 (by omega), fun _ => hok, fun h => by omega⟩
        obtain ⟨h1, h2, h3⟩ := okNum_yes hok
        clear hok hchk
        rcases h3 with h3 | ⟨h3, rfl⟩
        all_goals
          go_wp2
          go_round
          case rel => exact ⟨2, by omega, by go_num, hc'.out⟩
          case measure => simp [intOf]
    · cases hok : okNum k 2 c
      · have hf := Lib.hid (chk_bad (n := ⟨k, a, b, c⟩) (.inr (.inr hok)))
        have hok' := okNum_no hok
        clear hok hchk
        rcases hok' with h1 | ⟨h1, h2⟩ | ⟨h1, h2, h3, h4⟩
        all_goals
          go_wp2
          go_ret
          rw [hf.out]
          exact ⟨rfl, HB.out.alloc HB.out.size _⟩
      · have hc' : Hid (chk ⟨k, a, b, c⟩ 3) := ⟨fun _ => hchk.1 (by omega), fun _ => hchk.2.1 (by omega), fun _ => hok⟩
        obtain ⟨h1, h2, h3⟩ := okNum_yes hok
        clear hok hchk
        rcases h3 with h3 | ⟨h3, rfl⟩
        all_goals
          go_wp2
          go_round
          case rel => exact ⟨3, by omega, by go_num, hc'.out⟩
          case measure => simp [intOf]
    · have hg : Hid (goodB ⟨k, a, b, c⟩ = (decide (0 < usesZ k) && (decide (k ≠ 8) || decide (b ≤ 1)))) := by
        unfold Hid goodB
        simp [hchk.1 (by omega), hchk.2.1 (by omega), hchk.2.2 (by omega)]
      clear hchk
      rcases usesZ_ne k with hu | hu
      · go_wp2
        go_ret
        refine ⟨?_, HB.out.alloc HB.out.size _⟩
        rw [hg.out]; simp; omega
      · by_cases h8 : k = 8
        · subst h8
          by_cases hb : b ≤ 1
          · go_wp2
            go_ret
            refine ⟨?_, HB.out.alloc HB.out.size _⟩
            rw [hg.out]; simp [hb]; unfold usesZ; simp
          · go_wp2
            go_ret
            refine ⟨?_, HB.out.alloc HB.out.size _⟩
            rw [hg.out]; simp [hb]
        · have hk8 : (k != 8) = true := by simpa using h8
          go_wp2
          go_ret
          refine ⟨?_, HB.out.alloc HB.out.size _⟩
          rw [hg.out]; simp [h8, hu]
end Go.Proofs.Ytdclgmffgidcmaa
