/- Tapes without a budget that hold just notes; what is read of a part of notes' bytes. -/
import Derived.Test.YtdclgmffgidcmaaTurnsWalk
namespace Go.Proofs.Ytdclgmffgidcmaa
set_option linter.unusedSimpArgs false
set_option linter.unusedVariables false
open Go.RowKit

/-- No note is read of a part of a note's bytes. -/
theorem okB_part {m : Nt} (hm : goodB m = true) (n : Nat) (hn : n < (encB m).length) : okB ((encB m).take n) = false := by
  cases h : okB ((encB m).take n)
  · rfl
  · obtain ⟨m', hg, hp⟩ := okB_iff.1 h
    have hp' : encB m' <+: encB m := hp.trans (List.take_prefix _ _)
    have h1 := rdNote_good hg hp'
    have h2 := rdNote_good hm (List.prefix_refl _)
    have e : m' = m := h1.symm.trans h2
    subst e
    have := hp.length_le
    rw [List.length_take] at this
    omega

/-- The first bytes of notes: some first notes, and what is none. -/
theorem take_encL (ns : List Nt) : ∀ (n : Nat), (∀ m ∈ ns, goodB m = true) → ∃ k r, k ≤ ns.length ∧ (encL ns).take n = encL (ns.take k) ++ r ∧ okB r = false := by
  induction ns with
  | nil => intro n _; exact ⟨0, [], Nat.le_refl _, by simp [encL], by kernel_rfl⟩
  | cons m ns ih =>
    intro n hg
    have hm := hg m List.mem_cons_self
    rw [encL_cons]
    by_cases h : (encB m).length ≤ n
    · obtain ⟨k, r, h1, h2, h3⟩ := ih (n - (encB m).length) (fun x hx => hg x (List.mem_cons_of_mem _ hx))
      refine ⟨k + 1, r, by simpa using h1, ?_, h3⟩
      rw [List.take_append, List.take_of_length_le h, h2]
      simp [encL_cons]
    · refine ⟨0, (encB m).take n, Nat.zero_le _, ?_, okB_part hm n (by omega)⟩
      rw [List.take_append, show n - (encB m).length = 0 by omega]
      simp [encL]

theorem readL_two (ms : List Nt) (r : List UInt8) (hg : ∀ m ∈ ms, goodB m = true) (hr : okB r = false) : readL (encL ms ++ r) = (ms, (encL ms).length) := by
  rw [readL_encL ms hg r, readL_no hr]; simp
theorem readL_just (ms : List Nt) (hg : ∀ m ∈ ms, goodB m = true) : readL (encL ms) = (ms, (encL ms).length) := by
  have := readL_two ms [] hg (by kernel_rfl)
  rwa [List.append_nil] at this

/-- A tape without a budget that holds just the notes ms. -/
structure Holds (s : TS) (ms : List Nt) : Prop where
  alive : s.dead = false
  free : s.armed = false
  fits : fit s
  area : s.area s.c = encL ms
  good : ∀ m ∈ ms, goodB m = true

theorem Holds.read {s : TS} {ms : List Nt} (h : Holds s ms) : readL (s.area s.c) = (ms, (s.area s.c).length) := by rw [h.area]; exact readL_just ms h.good
theorem new_holds : Holds ⟨[], [], 0, false, 0, false⟩ [] := ⟨rfl, rfl, new_fit, rfl, fun _ h => by cases h⟩

theorem put_holds {s : TS} {ms : List Nt} (h : Holds s ms) (ns : List Nt) (hn : ∀ n ∈ ns, goodB n = true) (hf : fit (s.put s.c (encL ns))) : Holds (s.put s.c (encL ns)) (ms ++ ns) := by
  obtain ⟨a, b⟩ := TS.put_step s.c h.fits.2.2 (encL ns) s
  have hd := a.free h.alive h.free
  refine ⟨hd, a.armed.trans h.free, hf, ?_, fun m hm => (List.mem_append.1 hm).elim (h.good m) (hn m)⟩
  rw [a.c, b hd, h.area, encL_append]

theorem all_good {ns : List Nt} (hn : ∀ n ∈ ns, goodB n = true) : ns.all goodB = true := List.all_eq_true.2 hn

theorem Holds.append {s : TS} {ms : List Nt} (h : Holds s ms) (ns : List Nt) (hn : ∀ n ∈ ns, goodB n = true) (hl : (encL ms).length + (encL ns).length ≤ 2 ^ 16) :
    ∃ s', s.append ns = (s', 0) ∧ Holds s' (ms ++ ns) := by
  have hf := append_fit s ns h.fits
  have e : s.append ns = (s.put s.c (encL ns), if (s.put s.c (encL ns)).dead then 190 else 0) := by
    unfold TS.append
    have h1 : ¬ (readL (s.area s.c)).2 < (s.area s.c).length := by rw [h.read]; exact Nat.lt_irrefl _
    have h2 : ¬ 2 ^ 16 < (s.area s.c).length + (encL ns).length := by rw [h.area]; omega
    simp only [h.alive, all_good hn, h1, h2, Bool.false_eq_true, Bool.true_eq_false, if_false]
  rw [e] at hf
  have := put_holds h ns hn hf
  rw [e, this.alive]
  exact ⟨_, rfl, this⟩

theorem Holds.append_full {s : TS} {ms : List Nt} (h : Holds s ms) (ns : List Nt) (hn : ∀ n ∈ ns, goodB n = true) (hl : 2 ^ 16 < (encL ms).length + (encL ns).length) : s.append ns = (s, 5) := by
  unfold TS.append
  have h1 : ¬ (readL (s.area s.c)).2 < (s.area s.c).length := by rw [h.read]; exact Nat.lt_irrefl _
  have h2 : 2 ^ 16 < (s.area s.c).length + (encL ns).length := by rw [h.area]; omega
  simp only [h.alive, all_good hn, h1, h2, Bool.false_eq_true, Bool.true_eq_false, if_false, if_true]

theorem Holds.compact {s : TS} {ms : List Nt} (h : Holds s ms) (ns : List Nt) (hn : ∀ n ∈ ns, goodB n = true) (hl : (encL ns).length ≤ 2 ^ 16) : ∃ s', s.compact ns = (s', 0) ∧ Holds s' ns := by
  obtain ⟨a1, a2, a3, a4, a5⟩ := TS.turned_spec s ns h.fits.2.2
  have hd := a4 h.alive h.free
  obtain ⟨_, b2, b3⟩ := a3 hd
  refine ⟨s.turned ns, by rw [compact_good s ns h.alive hn hl, hd]; simp, hd, a5.trans h.free, turned_fit s ns h.fits hl, by rw [b2, b3], hn⟩

theorem Holds.compact_full {s : TS} {ms : List Nt} (h : Holds s ms) (ns : List Nt) (hn : ∀ n ∈ ns, goodB n = true) (hl : 2 ^ 16 < (encL ns).length) : s.compact ns = (s, 5) := by
  unfold TS.compact
  simp only [h.alive, all_good hn, hl, Bool.false_eq_true, Bool.true_eq_false, if_false, if_true]

theorem Holds.repair {s : TS} {ms : List Nt} (h : Holds s ms) : s.repair = (s, 0, 0) := by
  have hc : s.cut s.c (readL (s.area s.c)).2 = s := by unfold TS.cut; rw [h.read, if_neg (Nat.lt_irrefl _)]
  unfold TS.repair
  rw [hc, h.read]
  simp [h.alive]

/-- What is left of a tape, and made good. -/
theorem crash_repair (s : TS) (hf : fit s) : ∃ s', s.crash.repair = (s', ((s.area s.c).length : Int) - ((readL (s.area s.c)).2 : Int), 0) ∧ Holds s' (readL (s.area s.c)).1 := by
  obtain ⟨r1, r2, r3, r4, r5, r6⟩ := readL_spec (s.area s.c)
  have hx : s.crash.area s.crash.c = s.area s.c := rfl
  obtain ⟨a, b⟩ := TS.cut_step s.crash s.crash.c (readL (s.area s.c)).2 hf.2.2
  have hd := a.free rfl rfl
  refine ⟨s.crash.cut s.crash.c (readL (s.area s.c)).2, ?_, hd, a.armed.trans rfl, cut_fit _ _ _ (crash_fit s hf), ?_, r1⟩
  · unfold TS.repair
    rw [hx, hd]
    simp [TS.crash]
  · rw [a.c, b hd, hx]
    rw [r3]; exact (List.prefix_iff_eq_take.1 r2).symm
end Go.Proofs.Ytdclgmffgidcmaa
