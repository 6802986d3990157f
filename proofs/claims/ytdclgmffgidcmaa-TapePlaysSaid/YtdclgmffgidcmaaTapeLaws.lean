/- The tape's operations, in plain Lean: what they leave. -/
import Derived.Test.YtdclgmffgidcmaaCompactWalk
namespace Go.Proofs.Ytdclgmffgidcmaa
set_option linter.unusedSimpArgs false
set_option linter.unusedVariables false
open Go.RowKit

theorem no_tf {a : Bool} {P : Prop} (h : a = true) (h' : a = false) : P := by rw [h] at h'; cases h'

namespace TS
theorem area_set (s : TS) (k : Nat) (l : List UInt8) (hk : k = 0 ∨ k = 1) : (s.set k l).area k = l := by
  rcases hk with rfl | rfl <;> simp [set, area]
theorem area_set_ne (s : TS) (k j : Nat) (l : List UInt8) (hk : k = 0 ∨ k = 1) (hj : j = 0 ∨ j = 1) (h : j ≠ k) : (s.set k l).area j = s.area j := by
  rcases hk with rfl | rfl <;> rcases hj with rfl | rfl <;> simp_all [set, area]
theorem set_c (s : TS) (k : Nat) (l : List UInt8) : (s.set k l).c = s.c ∧ (s.set k l).dead = s.dead ∧ (s.set k l).armed = s.armed ∧ (s.set k l).budget = s.budget := by
  unfold set; split <;> simp

/-- What a unit of work may come to. -/
theorem unit_cases (s : TS) (f : TS → TS) : (s.dead = true ∧ s.unit f = s) ∨ (s.dead = false ∧ s.armed = true ∧ s.budget = 0 ∧ s.unit f = { s with dead := true }) ∨
    (s.dead = false ∧ (s.armed = false ∨ s.budget ≠ 0) ∧ s.unit f = f { s with budget := wrap64 (s.budget - 1) }) := by
  unfold unit
  cases hd : s.dead
  · right
    by_cases hz : s.armed = true ∧ s.budget = 0
    · left; simp [hz]
    · right
      have : (s.armed && s.budget == 0) = false := by
        cases ha : s.armed
        · rfl
        · simp [ha] at hz; simp [hz]
      rw [this]
      refine ⟨rfl, ?_, rfl⟩
      cases ha : s.armed
      · exact .inl rfl
      · exact .inr (fun h => hz ⟨ha, h⟩)
  · left; simp

/-- What is kept of a tape by work at area k. -/
structure Step (s t : TS) (k : Nat) : Prop where
  c : t.c = s.c
  armed : t.armed = s.armed
  other : ∀ j, j = 0 ∨ j = 1 → j ≠ k → t.area j = s.area j
  dead : s.dead = true → t = s
  free : s.dead = false → s.armed = false → t.dead = false

theorem Step.refl (s : TS) (k : Nat) : Step s s k := ⟨rfl, rfl, fun _ _ _ => rfl, fun _ => rfl, fun h _ => h⟩
theorem Step.trans {s t u : TS} {k : Nat} (h : Step s t k) (g : Step t u k) : Step s u k :=
  ⟨g.c.trans h.c, g.armed.trans h.armed, fun j h1 h2 => (g.other j h1 h2).trans (h.other j h1 h2), fun hd => by have e := h.dead hd; subst e; exact g.dead hd, fun hd ha => g.free (h.free hd ha) (h.armed.trans ha)⟩
theorem Step.alive {s t : TS} {k : Nat} (h : Step s t k) (ht : t.dead = false) : s.dead = false := by
  cases hd : s.dead
  · rfl
  · rw [h.dead hd, hd] at ht; cases ht

theorem unit_step (s : TS) (k : Nat) (hk : k = 0 ∨ k = 1) (g : List UInt8 → List UInt8) : Step s (s.unit fun s => s.set k (g (s.area k))) k ∧
    ((s.unit fun s => s.set k (g (s.area k))).dead = false → (s.unit fun s => s.set k (g (s.area k))).area k = g (s.area k)) := by
  rcases unit_cases s (fun s => s.set k (g (s.area k))) with ⟨h1, h2⟩ | ⟨h1, h2, h3, h4⟩ | ⟨h1, h2, h3⟩
  · rw [h2]; exact ⟨Step.refl _ _, fun h => no_tf h1 h⟩
  · rw [h4]; exact ⟨⟨rfl, rfl, fun _ _ _ => rfl, fun h => no_tf h h1, fun _ h => no_tf h2 h⟩, fun h => by cases h⟩
  · rw [h3]
    obtain ⟨a, b, c, d⟩ := set_c { s with budget := wrap64 (s.budget - 1) } k (g (area { s with budget := wrap64 (s.budget - 1) } k))
    exact ⟨⟨a, c, fun j hj hjk => (area_set_ne _ _ _ _ hk hj hjk).trans rfl, fun h => no_tf h h1, fun _ _ => b.trans h1⟩, fun _ => area_set _ _ _ hk⟩

theorem cut_step (s : TS) (k n : Nat) (hk : k = 0 ∨ k = 1) : Step s (s.cut k n) k ∧ ((s.cut k n).dead = false → (s.cut k n).area k = (s.area k).take n) := by
  unfold cut
  split
  · exact unit_step s k hk (fun l => l.take n)
  · exact ⟨Step.refl _ _, fun _ => (List.take_of_length_le (by omega)).symm⟩

theorem put1_step (s : TS) (k : Nat) (x : UInt8) (hk : k = 0 ∨ k = 1) : Step s (s.put1 k x) k ∧ ((s.put1 k x).dead = false → (s.put1 k x).area k = s.area k ++ [x]) := unit_step s k hk (fun l => l ++ [x])

theorem put_step (k : Nat) (hk : k = 0 ∨ k = 1) (l : List UInt8) : ∀ s : TS, Step s (s.put k l) k ∧ ((s.put k l).dead = false → (s.put k l).area k = s.area k ++ l) := by
  induction l with
  | nil => intro s; exact ⟨Step.refl _ _, fun _ => by simp [put]⟩
  | cons x l ih =>
    intro s
    obtain ⟨a, b⟩ := put1_step s k x hk
    obtain ⟨c, d⟩ := ih (s.put1 k x)
    refine ⟨a.trans c, fun h => ?_⟩
    have h1 := d h
    have h2 := b (c.alive h)
    show ((s.put1 k x).put k l).area k = _
    rw [h1, h2]; simp

/-- Compact's work: the tape turns, or is dead as it was. -/
theorem turned_spec (s : TS) (ns : List Nt) (hc : s.c = 0 ∨ s.c = 1) :
    (s.turned ns).area s.c = s.area s.c ∧ ((s.turned ns).dead = true → (s.turned ns).c = s.c) ∧ ((s.turned ns).dead = false → s.dead = false ∧ (s.turned ns).c = 1 - s.c ∧ (s.turned ns).area (1 - s.c) = encL ns) ∧
    (s.dead = false → s.armed = false → (s.turned ns).dead = false) ∧ (s.turned ns).armed = s.armed := by
  unfold turned
  have hk : 1 - s.c = 0 ∨ 1 - s.c = 1 := by omega
  have hne : s.c ≠ 1 - s.c := by omega
  obtain ⟨a, b⟩ := cut_step s (1 - s.c) 0 hk
  obtain ⟨c, d⟩ := put_step (1 - s.c) hk (encL ns) (s.cut (1 - s.c) 0)
  generalize hs1 : s.cut (1 - s.c) 0 = s1 at *
  generalize hs2 : s1.put (1 - s.c) (encL ns) = s2 at *
  have e := a.trans c
  unfold flip
  rcases unit_cases s2 (fun s' => { s' with c := 1 - s.c }) with ⟨h1, h2⟩ | ⟨h1, h2, h3, h4⟩ | ⟨h1, h2, h3⟩
  · rw [h2]
    exact ⟨e.other _ hc hne, fun _ => e.c, fun h => no_tf h1 h, fun x y => e.free x y, e.armed⟩
  · rw [h4]
    refine ⟨?_, fun _ => e.c, fun h => no_tf rfl h, fun x y => ?_, e.armed⟩
    · exact (e.other _ hc hne)
    · rw [e.armed, y] at h2; cases h2
  · rw [h3]
    refine ⟨e.other _ hc hne, fun h => ?_, fun _ => ⟨e.alive h1, rfl, ?_⟩, fun _ _ => h1, e.armed⟩
    · have h : s2.dead = true := h
      rw [h1] at h; cases h
    · have := d h1
      rw [b (c.alive h1)] at this
      exact this.trans (by simp)

end TS
end Go.Proofs.Ytdclgmffgidcmaa
