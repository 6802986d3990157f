/- What the laws of the tape use: a tape of the law's own, compacted, armed, read. -/
import Derived.Test.YtdclgmffgidcmaaTapeLaws
import Derived.Test.YtdclgmffgidcmaaSameWalk
import Derived.Test.YtdclgmffgidcmaaAwakeWalk
namespace Go.Proofs.Ytdclgmffgidcmaa
set_option linter.unusedSimpArgs false
set_option linter.unusedVariables false
open Go.RowKit

theorem arm_dead (w : World) (b : Nat) (n : Int) (F : Nat → Prop) (s : TS) (hT : TapeAt w b F s) (hd : s.dead = true) :
    Calls Try.prog 11 #[.pointer (some ⟨b, 0, none⟩), .int .i64 n] w fun e w' => e = .returned (.int .i64 190) ∧ w' = w := by
  have h5 := hT.isDead
  rw [hd] at h5
  have lb := lt_of_cell h5
  clear hT hd
  go_enter Try.func11, Try.ntmps11
  go_wp2
  go_ret
  exact ⟨rfl, rfl⟩

section
variable {w : World} {B b : Nat} {s : TS} (h : Mine B w b s)
include h
theorem mine_compact (ns : List Nt) (v : Value) (hs : small s) (hv : Ns w v ns) (hL : ns.length ≤ 2 ^ 16) :
    Calls Try.prog 21 #[.pointer (some ⟨b, 0, none⟩), v] w fun e w' => e = .returned (.int .i64 (s.compact ns).2) ∧ Mine B w' b (s.compact ns).1 ∧ Below B w w' := by
  have hB := Nat.le_trans h.le.1 (Nat.le_of_lt h.le.2)
  refine (compact_any w b _ s ns v h hs hv hL).mono ?_
  rintro e w' ⟨rfl, t, k⟩
  exact ⟨rfl, mine_of t k.size hB, below_of k hB⟩
end

/-- A tape's areas have no more than 65,536 bytes. -/
def fit (s : TS) : Prop := s.a0.length ≤ 2 ^ 16 ∧ s.a1.length ≤ 2 ^ 16 ∧ (s.c = 0 ∨ s.c = 1)
theorem fit.small {s : TS} (h : fit s) : small s := ⟨by have := h.1; omega, by have := h.2.1; omega, h.2.2⟩
theorem fit_iff (s : TS) : fit s ↔ (s.area 0).length ≤ 2 ^ 16 ∧ (s.area 1).length ≤ 2 ^ 16 ∧ (s.c = 0 ∨ s.c = 1) := Iff.rfl
theorem fit.area {s : TS} (h : fit s) (k : Nat) : (s.area k).length ≤ 2 ^ 16 := by
  unfold TS.area; split
  · exact h.1
  · exact h.2.1

theorem unit_len (s : TS) (k : Nat) (hk : k = 0 ∨ k = 1) (g : List UInt8 → List UInt8) : ((s.unit fun s => s.set k (g (s.area k))).area k = s.area k) ∨ (s.unit fun s => s.set k (g (s.area k))).area k = g (s.area k) := by
  rcases TS.unit_cases s (fun s => s.set k (g (s.area k))) with ⟨h1, h2⟩ | ⟨h1, h2, h3, h4⟩ | ⟨h1, h2, h3⟩
  · rw [h2]; exact .inl rfl
  · rw [h4]; exact .inl rfl
  · rw [h3]; exact .inr (TS.area_set _ _ _ hk)

theorem put_area (k : Nat) (hk : k = 0 ∨ k = 1) (l : List UInt8) : ∀ s : TS, ∃ n, n ≤ l.length ∧ (s.put k l).area k = s.area k ++ l.take n := by
  induction l with
  | nil => intro s; exact ⟨0, Nat.le_refl _, by simp [TS.put]⟩
  | cons x l ih =>
    intro s
    by_cases hd : (s.put1 k x).dead = true
    · have e : s.put k (x :: l) = s.put1 k x := by
        show (s.put1 k x).put k l = _
        obtain ⟨a, _⟩ := TS.put_step k hk l (s.put1 k x)
        exact a.dead hd
      rw [e]
      rcases unit_len s k hk (fun l => l ++ [x]) with h | h
      · exact ⟨0, Nat.zero_le _, by rw [List.take_zero, List.append_nil]; exact h⟩
      · exact ⟨1, by simp, h⟩
    · obtain ⟨n, hn, h⟩ := ih (s.put1 k x)
      refine ⟨n + 1, by simpa using hn, ?_⟩
      show ((s.put1 k x).put k l).area k = _
      rw [h, (TS.put1_step s k x hk).2 (by simpa using hd)]
      simp

theorem turned_fit (s : TS) (ns : List Nt) (hs : fit s) (h : (encL ns).length ≤ 2 ^ 16) : fit (s.turned ns) := by
  have hc := hs.2.2
  have hk : 1 - s.c = 0 ∨ 1 - s.c = 1 := by omega
  obtain ⟨h1, h2, h3, h4, h5⟩ := TS.turned_spec s ns hc
  have hown : ((s.turned ns).area (1 - s.c)).length ≤ 2 ^ 16 := by
    unfold TS.turned
    have hfl : ∀ t : TS, (t.flip (1 - s.c)).area (1 - s.c) = t.area (1 - s.c) := by
      intro t
      unfold TS.flip TS.unit
      split
      · rfl
      · split <;> rfl
    rw [hfl]
    obtain ⟨n, hn, e⟩ := put_area (1 - s.c) hk (encL ns) (s.cut (1 - s.c) 0)
    obtain ⟨a, b⟩ := TS.cut_step s (1 - s.c) 0 hk
    cases hd : (s.cut (1 - s.c) 0).dead
    · rw [e, b hd]; simp only [List.take_zero, List.nil_append, List.length_take]; omega
    · rw [(TS.put_step (1 - s.c) hk (encL ns) _).1.dead hd]
      have := cut_len s (1 - s.c) 0
      have h0 := hs.1
      have h1 := hs.2.1
      unfold TS.area; split <;> omega
  have hother := hs.area s.c
  rw [← h1] at hother
  have hcc : (s.turned ns).c = 0 ∨ (s.turned ns).c = 1 := by
    cases hd : (s.turned ns).dead
    · rw [(h3 hd).2.1]; exact hk
    · rw [h2 hd]; exact hc
  rcases hc with hc | hc <;> rw [hc] at hown hother
  · exact ⟨hother, hown, hcc⟩
  · exact ⟨hown, hother, hcc⟩

theorem compact_fit (s : TS) (ns : List Nt) (hs : fit s) : fit (s.compact ns).1 := by
  unfold TS.compact
  repeat' split
  · exact hs
  · exact hs
  · exact hs
  all_goals exact turned_fit s ns hs (by omega)

theorem append_fit (s : TS) (ns : List Nt) (hs : fit s) : fit (s.append ns).1 := by
  have hc := hs.2.2
  unfold TS.append
  repeat' split
  · exact hs
  · exact hs
  · exact hs
  · exact hs
  all_goals
    obtain ⟨a, _⟩ := TS.put_step s.c hc (encL ns) s
    obtain ⟨n, hn, e⟩ := put_area s.c hc (encL ns) s
    have hl : ((s.put s.c (encL ns)).area s.c).length ≤ 2 ^ 16 := by rw [e, List.length_append, List.length_take]; omega
    have h0 := hs.1
    have h1 := hs.2.1
    have hcc : (s.put s.c (encL ns)).c = 0 ∨ (s.put s.c (encL ns)).c = 1 := by rw [a.c]; exact hc
    rcases hc with hc | hc <;> rw [hc] at hl a hcc ⊢
    · exact ⟨hl, by have := a.other 1 (.inr rfl) (by decide); unfold TS.area at this; simp at this; rw [this]; exact h1, hcc⟩
    · exact ⟨by have := a.other 0 (.inl rfl) (by decide); unfold TS.area at this; simp at this; rw [this]; exact h0, hl, hcc⟩

theorem cut_fit (s : TS) (k n : Nat) (hs : fit s) : fit (s.cut k n) := by
  obtain ⟨a, b, c⟩ := cut_len s k n
  exact ⟨Nat.le_trans a hs.1, Nat.le_trans b hs.2.1, by rw [c]; exact hs.2.2⟩
theorem repair_fit (s : TS) (hs : fit s) : fit s.repair.1 := by
  unfold TS.repair
  repeat' split
  · exact hs
  · exact cut_fit _ _ _ hs
  · exact cut_fit _ _ _ hs
theorem crash_fit (s : TS) (hs : fit s) : fit s.crash := hs
theorem new_fit : fit ⟨[], [], 0, false, 0, false⟩ := ⟨by simp, by simp, .inl rfl⟩

theorem int_min (a b : Nat) : ∃ m : Nat, m = min a b := ⟨_, rfl⟩
end Go.Proofs.Ytdclgmffgidcmaa
