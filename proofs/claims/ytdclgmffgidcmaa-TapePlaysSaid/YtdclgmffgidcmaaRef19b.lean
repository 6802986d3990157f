/- The reference's tape in plain Lean, and its small functions walked. -/
import Derived.Test.YtdclgmffgidcmaaRef19a
namespace Go.Proofs.Ytdclgmffgidcmaa
set_option linter.unusedSimpArgs false
set_option linter.unusedVariables false
open Go.RowKit

structure RT where
  now : List UInt8
  other : List UInt8
  budget : Int
  dead : Bool
def RT.val (r : RT) : Value := .agg #[.string (str r.now), .string (str r.other), .int .i64 r.budget, .bool r.dead]
/-- some: so many units, or as many as the budget lets. -/
def RT.some (r : RT) (n : Nat) : RT × Nat :=
  if r.budget < 0 ∨ (n : Int) ≤ r.budget then ({ r with budget := if 0 ≤ r.budget then r.budget - n else r.budget }, n) else ({ r with budget := 0, dead := true }, r.budget.toNat)
def RT.code (r : RT) : Int := if r.dead then 190 else 0
def RT.arm (r : RT) (n : Int) : RT × Int := if r.dead then (r, 190) else if n < 0 ∨ 1099511627776 < n then (r, 1) else ({ r with budget := n }, 0)
def RT.crash (r : RT) : RT := ⟨r.now, r.other, -1, false⟩
def RT.repair (r : RT) : RT × Int × Int :=
  if r.dead then (r, 0, 190) else
    if (readL r.now).2 < r.now.length then
      (if (r.some 1).1.dead then ((r.some 1).1, 0, 190) else ({ (r.some 1).1 with now := r.now.take (readL r.now).2 }, (r.now.length : Int) - ((readL r.now).2 : Int), 0))
    else (r, (r.now.length : Int) - ((readL r.now).2 : Int), 0)

theorem rnew_any (w : World) : Calls Try.prog 18 #[] w fun e w' => e = .returned (⟨[], [], -1, false⟩ : RT).val ∧ Below w.heap.size w w' := by
  go_enter Try.func18, Try.ntmps18
  go_wp2
  refine bodyPost_ret (v := (⟨[], [], -1, false⟩ : RT).val) (by simp [results, Try.results18, go_sem, RT.val, str]) rfl ⟨rfl, ?_⟩
  first | exact Below.alloc1 w _ | exact (Below.alloc1 w _).setCell (Nat.le_refl _) _

theorem rcode_any (r : RT) (w : World) : Calls Try.prog 36 #[r.val] w fun e w' => e = .returned (.int .i64 r.code) ∧ Below w.heap.size w w' := by
  obtain ⟨now, other, bu, de⟩ := r
  unfold RT.val RT.code
  dsimp only
  generalize str now = sn
  generalize str other = so
  cases de
  all_goals
    go_enter Try.func36, Try.ntmps36
    go_wp2
    go_ret
    exact ⟨rfl, Below.alloc1 w _⟩

theorem rsome_any (r : RT) (n : Nat) (w : World) (hb : r.budget ≤ 2 ^ 40) (hn : n ≤ 2 ^ 20) : Calls Try.prog 35 #[r.val, .int .i64 (n : Int)] w
    fun e w' => e = .returned (.tuple #[(r.some n).1.val, .int .i64 ((r.some n).2 : Int)]) ∧ Below w.heap.size w w' := by
  obtain ⟨now, other, bu, de⟩ := r
  dsimp only at hb
  by_cases h1 : bu < 0
  · have hX : Hid (RT.some ⟨now, other, bu, de⟩ n = (⟨now, other, bu, de⟩, n)) := by unfold Hid RT.some; rw [if_pos (.inl h1), if_neg (by simp only; omega)]
    have h2 : ¬ 0 ≤ bu := by omega
    rw [hX.out]
    unfold RT.val
    dsimp only
    generalize str now = sn
    generalize str other = so
    go_enter Try.func35, Try.ntmps35
    go_wp2
    refine bodyPost_ret (v := .tuple #[.agg #[.string sn, .string so, .int .i64 bu, .bool de], .int .i64 (n : Int)]) (by simp [results, Try.results35, go_sem]) rfl ⟨rfl, ?_⟩
    repeat (first | exact Below.refl _ _ | (refine below_draws ?_ _) | (refine Below.setCell ?_ (by simp <;> omega) _) | (refine Below.alloc ?_ (by simp <;> omega) _))
  · have h1' : 0 ≤ bu := by omega
    by_cases h2 : (n : Int) ≤ bu
    · have hX : Hid (RT.some ⟨now, other, bu, de⟩ n = (⟨now, other, bu - n, de⟩, n)) := by unfold Hid RT.some; rw [if_pos (.inr h2), if_pos h1']
      rw [hX.out]
      unfold RT.val
      dsimp only
      generalize str now = sn
      generalize str other = so
      go_enter Try.func35, Try.ntmps35
      go_wp2
      refine bodyPost_ret (v := .tuple #[.agg #[.string sn, .string so, .int .i64 (bu - n), .bool de], .int .i64 (n : Int)]) (by simp [results, Try.results35, go_sem]) rfl ⟨rfl, ?_⟩
      repeat (first | exact Below.refl _ _ | (refine below_draws ?_ _) | (refine Below.setCell ?_ (by simp <;> omega) _) | (refine Below.alloc ?_ (by simp <;> omega) _))
    · have hX : Hid (RT.some ⟨now, other, bu, de⟩ n = (⟨now, other, 0, true⟩, bu.toNat)) := by unfold Hid RT.some; rw [if_neg (by simp only; omega)]
      have hbu : Hid ((bu.toNat : Int) = bu) := Int.toNat_of_nonneg h1'
      rw [hX.out]
      unfold RT.val
      dsimp only
      rw [hbu.out]
      generalize str now = sn
      generalize str other = so
      go_enter Try.func35, Try.ntmps35
      go_wp2
      refine bodyPost_ret (v := .tuple #[.agg #[.string sn, .string so, .int .i64 0, .bool true], .int .i64 bu]) (by simp [results, Try.results35, go_sem]) rfl ⟨rfl, ?_⟩
      repeat (first | exact Below.refl _ _ | (refine below_draws ?_ _) | (refine Below.setCell ?_ (by simp <;> omega) _) | (refine Below.alloc ?_ (by simp <;> omega) _))

theorem rarm_any (r : RT) (n : Int) (w : World) : Calls Try.prog 19 #[r.val, .int .i64 n] w
    fun e w' => e = .returned (.tuple #[(r.arm n).1.val, .int .i64 (r.arm n).2]) ∧ Below w.heap.size w w' := by
  obtain ⟨now, other, bu, de⟩ := r
  cases de
  · by_cases h1 : n < 0
    · have hX : Hid (RT.arm ⟨now, other, bu, false⟩ n = (⟨now, other, bu, false⟩, 1)) := by unfold Hid RT.arm; rw [if_neg (by simp), if_pos (.inl h1)]
      rw [hX.out]
      unfold RT.val
      dsimp only
      generalize str now = sn
      generalize str other = so
      go_enter Try.func19, Try.ntmps19
      go_wp2
      refine bodyPost_ret (v := .tuple #[.agg #[.string sn, .string so, .int .i64 bu, .bool false], .int .i64 1]) (by simp [results, Try.results19, go_sem]) rfl ⟨rfl, ?_⟩
      repeat (first | exact Below.refl _ _ | (refine below_draws ?_ _) | (refine Below.setCell ?_ (by simp <;> omega) _) | (refine Below.alloc ?_ (by simp <;> omega) _))
    · by_cases h2 : 1099511627776 < n
      · have hX : Hid (RT.arm ⟨now, other, bu, false⟩ n = (⟨now, other, bu, false⟩, 1)) := by unfold Hid RT.arm; rw [if_neg (by simp), if_pos (.inr h2)]
        rw [hX.out]
        unfold RT.val
        dsimp only
        generalize str now = sn
        generalize str other = so
        go_enter Try.func19, Try.ntmps19
        go_wp2
        refine bodyPost_ret (v := .tuple #[.agg #[.string sn, .string so, .int .i64 bu, .bool false], .int .i64 1]) (by simp [results, Try.results19, go_sem]) rfl ⟨rfl, ?_⟩
        repeat (first | exact Below.refl _ _ | (refine below_draws ?_ _) | (refine Below.setCell ?_ (by simp <;> omega) _) | (refine Below.alloc ?_ (by simp <;> omega) _))
      · have hX : Hid (RT.arm ⟨now, other, bu, false⟩ n = (⟨now, other, n, false⟩, 0)) := by unfold Hid RT.arm; rw [if_neg (by simp), if_neg (by omega)]
        rw [hX.out]
        unfold RT.val
        dsimp only
        generalize str now = sn
        generalize str other = so
        go_enter Try.func19, Try.ntmps19
        go_wp2
        refine bodyPost_ret (v := .tuple #[.agg #[.string sn, .string so, .int .i64 n, .bool false], .int .i64 0]) (by simp [results, Try.results19, go_sem]) rfl ⟨rfl, ?_⟩
        repeat (first | exact Below.refl _ _ | (refine below_draws ?_ _) | (refine Below.setCell ?_ (by simp <;> omega) _) | (refine Below.alloc ?_ (by simp <;> omega) _))
  · have hX : Hid (RT.arm ⟨now, other, bu, true⟩ n = (⟨now, other, bu, true⟩, 190)) := by unfold Hid RT.arm; rw [if_pos rfl]
    rw [hX.out]
    unfold RT.val
    dsimp only
    generalize str now = sn
    generalize str other = so
    go_enter Try.func19, Try.ntmps19
    go_wp2
    refine bodyPost_ret (v := .tuple #[.agg #[.string sn, .string so, .int .i64 bu, .bool true], .int .i64 190]) (by simp [results, Try.results19, go_sem]) rfl ⟨rfl, ?_⟩
    repeat (first | exact Below.refl _ _ | (refine below_draws ?_ _) | (refine Below.setCell ?_ (by simp <;> omega) _) | (refine Below.alloc ?_ (by simp <;> omega) _))

theorem rcrash_any (r : RT) (w : World) : Calls Try.prog 24 #[r.val] w fun e w' => e = .returned r.crash.val ∧ Below w.heap.size w w' := by
  obtain ⟨now, other, bu, de⟩ := r
  unfold RT.crash RT.val
  dsimp only
  generalize str now = sn
  generalize str other = so
  go_enter Try.func24, Try.ntmps24
  go_wp2
  refine bodyPost_ret (v := .agg #[.string sn, .string so, .int .i64 (-1), .bool false]) (by simp [results, Try.results24, go_sem]) rfl ⟨rfl, ?_⟩
  repeat (first | exact Below.refl _ _ | (refine below_draws ?_ _) | (refine Below.setCell ?_ (by simp <;> omega) _) | (refine Below.alloc ?_ (by simp <;> omega) _))
end Go.Proofs.Ytdclgmffgidcmaa
