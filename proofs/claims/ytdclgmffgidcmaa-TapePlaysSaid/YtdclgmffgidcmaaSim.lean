/- The tape and the reference's tape: step by step the same. -/
import Derived.Test.YtdclgmffgidcmaaLawKit
import Derived.Test.YtdclgmffgidcmaaBudgetPure
import Derived.Test.YtdclgmffgidcmaaRef19e
namespace Go.Proofs.Ytdclgmffgidcmaa
set_option linter.unusedSimpArgs false
set_option linter.unusedVariables false
open Go.RowKit

/-- The budgets fit. -/
def Bud (s : TS) (r : RT) : Prop :=
  r.dead = s.dead ∧ (s.armed = false → r.budget = -1 ∧ s.dead = false) ∧ (s.armed = true → r.budget = s.budget ∧ 0 ≤ s.budget ∧ s.budget ≤ 2 ^ 40)
structure Sim (s : TS) (r : RT) : Prop where
  now : r.now = s.area s.c
  other : r.other = s.area (1 - s.c)
  bud : Bud s r
  fit : fit s

theorem bud_le {s : TS} {r : RT} (h : Bud s r) : r.budget ≤ 2 ^ 40 := by
  rcases Bool.eq_false_or_eq_true s.armed with ha | ha
  · have := h.2.2 ha; omega
  · rw [(h.2.1 ha).1]; decide
theorem bud_set {s : TS} {r : RT} (h : Bud s r) (k : Nat) (l : List UInt8) : Bud (s.set k l) r := by
  obtain ⟨a, b, c, d⟩ := TS.set_c s k l
  unfold Bud
  rw [b, c, d]; exact h
theorem bud_rt {s : TS} {r r' : RT} (h : Bud s r) (h1 : r'.dead = r.dead) (h2 : r'.budget = r.budget) : Bud s r' := by
  unfold Bud at h ⊢
  rw [h1, h2]; exact h

theorem some_free (r : RT) (n : Nat) (h : r.budget = -1) : r.some n = (r, n) := by
  obtain ⟨a, b, c, d⟩ := r
  dsimp only at h
  subst h
  unfold RT.some
  simp
theorem some_paid (r : RT) (n b : Nat) (h : r.budget = b) : (n ≤ b → r.some n = ({ r with budget := (b : Int) - n }, n)) ∧ (b < n → r.some n = ({ r with budget := 0, dead := true }, b)) := by
  obtain ⟨a, c, d, e⟩ := r
  dsimp only at h
  subst h
  unfold RT.some
  refine ⟨fun h => ?_, fun h => ?_⟩
  · rw [if_pos (.inr (by dsimp only; omega)), if_pos (by dsimp only; omega)]
  · rw [if_neg (by dsimp only; omega)]; simp

theorem put_sim (k : Nat) (hk : k = 0 ∨ k = 1) (l : List UInt8) (s : TS) (r : RT) (h : Bud s r) (hd : s.dead = false) :
    Bud (s.put k l) (r.some l.length).1 ∧ (s.put k l).area k = s.area k ++ l.take (r.some l.length).2 := by
  rcases (Bool.eq_false_or_eq_true s.armed).symm with ha | ha
  · obtain ⟨bu, e⟩ := TS.put_free k l s ha hd
    rw [e, some_free r _ (h.2.1 ha).1, List.take_length]
    have hb := bud_set h k (s.area k ++ l)
    obtain ⟨a, b, c, d⟩ := TS.set_c s k (s.area k ++ l)
    refine ⟨⟨hb.1, hb.2.1, fun q => ?_⟩, TS.area_set _ _ _ hk⟩
    have q : (s.set k (s.area k ++ l)).armed = true := q
    rw [c, ha] at q; cases q
  · obtain ⟨h1, h2, h3⟩ := h.2.2 ha
    obtain ⟨n, hn⟩ : ∃ n : Nat, s.budget = n := ⟨s.budget.toNat, (Int.toNat_of_nonneg h2).symm⟩
    obtain ⟨p1, p2⟩ := TS.put_paid k l s n ha hd hn (by omega)
    obtain ⟨q1, q2⟩ := some_paid r l.length n (h1.trans hn)
    by_cases hl : l.length ≤ n
    · rw [p1 hl, q1 hl, List.take_length]
      obtain ⟨a, b, c, d⟩ := TS.set_c s k (s.area k ++ l)
      refine ⟨⟨?_, fun q => ?_, fun q => ⟨rfl, ?_, ?_⟩⟩, TS.area_set _ _ _ hk⟩
      · exact h.1.trans b.symm
      · have q : (s.set k (s.area k ++ l)).armed = false := q
        rw [c, ha] at q; cases q
      · dsimp only; omega
      · dsimp only; omega
    · rw [p2 (by omega), q2 (by omega)]
      obtain ⟨a, b, c, d⟩ := TS.set_c s k (s.area k ++ l.take n)
      refine ⟨⟨rfl, fun q => ?_, fun q => ⟨rfl, by simp, by simp⟩⟩, TS.area_set _ _ _ hk⟩
      have q : (s.set k (s.area k ++ l.take n)).armed = false := q
      rw [c, ha] at q; cases q

theorem unit_sim (f : TS → TS) (s : TS) (r : RT) (h : Bud s r) (hd : s.dead = false) :
    ((r.some 1).1.dead = true ∧ s.unit f = { s with dead := true } ∧ Bud { s with dead := true } (r.some 1).1) ∨
    ((r.some 1).1.dead = false ∧ ∃ bu, s.unit f = f { s with budget := bu } ∧ Bud { s with budget := bu } (r.some 1).1) := by
  rcases TS.unit_cases s f with ⟨h1, h2⟩ | ⟨h1, h2, h3, h4⟩ | ⟨h1, h2, h3⟩
  · rw [hd] at h1; cases h1
  · left
    obtain ⟨g1, g2, g3⟩ := h.2.2 h2
    rw [(some_paid r 1 0 (g1.trans h3)).2 (by decide)]
    refine ⟨rfl, h4, rfl, fun q => ?_, fun _ => ⟨h3.symm, by rw [h3]; decide, by rw [h3]; decide⟩⟩
    have q : s.armed = false := q
    rw [h2] at q; cases q
  · right
    rcases (Bool.eq_false_or_eq_true s.armed).symm with ha | ha
    · rw [some_free r _ (h.2.1 ha).1]
      refine ⟨h.1.trans hd, _, h3, h.1, fun _ => h.2.1 ha, fun q => ?_⟩
      have q : s.armed = true := q
      rw [ha] at q; cases q
    · obtain ⟨g1, g2, g3⟩ := h.2.2 ha
      obtain ⟨n, hn⟩ : ∃ n : Nat, s.budget = n := ⟨s.budget.toNat, (Int.toNat_of_nonneg g2).symm⟩
      have hz : s.budget ≠ 0 := h2.resolve_left (by rw [ha]; decide)
      rw [(some_paid r 1 n (g1.trans hn)).1 (by omega)]
      have hw : wrap64 (s.budget - 1) = (n : Int) - ((1 : Nat) : Int) := by unfold wrap64; omega
      refine ⟨h.1.trans hd, _, h3, h.1, fun q => ?_, fun _ => ⟨hw.symm, ?_, ?_⟩⟩
      · have q : s.armed = false := q
        rw [ha] at q; cases q
      · show 0 ≤ wrap64 (s.budget - 1); omega
      · show wrap64 (s.budget - 1) ≤ 2 ^ 40; omega

theorem sim_new : Sim ⟨[], [], 0, false, 0, false⟩ ⟨[], [], -1, false⟩ := ⟨rfl, rfl, ⟨rfl, fun _ => ⟨rfl, rfl⟩, fun h => by cases h⟩, new_fit⟩
theorem sim_crash {s : TS} {r : RT} (h : Sim s r) : Sim s.crash r.crash := ⟨h.now, h.other, ⟨rfl, fun _ => ⟨rfl, rfl⟩, fun h => by cases h⟩, crash_fit s h.fit⟩
/-- Arm, in plain Lean. -/
def TS.arm (s : TS) (n : Int) : TS × Int := if s.dead then (s, 190) else if n < 0 ∨ 1099511627776 < n then (s, 1) else ({ s with armed := true, budget := n }, 0)
theorem sim_arm {s : TS} {r : RT} (h : Sim s r) (n : Int) : (s.arm n).2 = (r.arm n).2 ∧ Sim (s.arm n).1 (r.arm n).1 := by
  unfold TS.arm RT.arm
  rw [h.bud.1]
  by_cases hd : s.dead = true
  · rw [if_pos hd, if_pos hd]; exact ⟨rfl, h⟩
  · rw [if_neg hd, if_neg hd]
    by_cases hn : n < 0 ∨ 1099511627776 < n
    · rw [if_pos hn, if_pos hn]; exact ⟨rfl, h⟩
    · rw [if_neg hn, if_neg hn]
      exact ⟨rfl, h.now, h.other, ⟨rfl, fun q => (by cases q), fun _ => ⟨rfl, by show 0 ≤ n; omega, by show n ≤ 2 ^ 40; omega⟩⟩, h.fit⟩

theorem code_of (a b : Bool) (h : a = b) : (if a = true then (190 : Int) else 0) = if b = true then 190 else 0 := by rw [h]

theorem sim_append {s : TS} {r : RT} (h : Sim s r) (ns : List Nt) : (s.append ns).2 = (r.append ns).2 ∧ Sim (s.append ns).1 (r.append ns).1 := by
  have hf := append_fit s ns h.fit
  have hc := h.fit.2.2
  unfold TS.append at hf ⊢
  unfold RT.append
  rw [h.bud.1, h.now]
  cases hd : s.dead
  · rw [hd] at hf
    simp only [Bool.false_eq_true, if_false] at hf ⊢
    by_cases h1 : ns.all goodB = false
    · rw [if_pos h1, if_pos h1]; exact ⟨rfl, h⟩
    · rw [if_neg h1, if_neg h1]; rw [if_neg h1] at hf
      by_cases h2 : (readL (s.area s.c)).2 < (s.area s.c).length
      · rw [if_pos h2, if_pos h2]; exact ⟨rfl, h⟩
      · rw [if_neg h2, if_neg h2]; rw [if_neg h2] at hf
        by_cases h3 : 2 ^ 16 < (s.area s.c).length + (encL ns).length
        · rw [if_pos h3, if_pos h3]; exact ⟨rfl, h⟩
        · rw [if_neg h3, if_neg h3]; rw [if_neg h3] at hf
          obtain ⟨p1, p2⟩ := put_sim s.c hc (encL ns) s r h.bud hd
          obtain ⟨st, -⟩ := TS.put_step s.c hc (encL ns) s
          refine ⟨code_of _ _ p1.1.symm, ⟨?_, ?_, bud_rt p1 rfl rfl, hf⟩⟩
          · show s.area s.c ++ _ = (s.put s.c (encL ns)).area (s.put s.c (encL ns)).c
            rw [st.c, p2]
          · show (r.some _).1.other = (s.put s.c (encL ns)).area (1 - (s.put s.c (encL ns)).c)
            rw [(some_keeps r _).2, h.other, st.c, st.other _ (by omega) (by omega)]
  · rw [if_pos rfl, if_pos rfl]; exact ⟨rfl, h⟩

/-- An area cut. -/
theorem cut_sim (k n : Nat) (hk : k = 0 ∨ k = 1) (s : TS) (r : RT) (h : Bud s r) (hd : s.dead = false) (hl : n < (s.area k).length) :
    Bud (s.cut k n) (r.some 1).1 ∧ ((r.some 1).1.dead = false → (s.cut k n).area k = (s.area k).take n) ∧ ((r.some 1).1.dead = true → (s.cut k n).area k = s.area k) := by
  unfold TS.cut
  rw [if_pos hl]
  rcases unit_sim (fun s => s.set k ((s.area k).take n)) s r h hd with ⟨a, b, c⟩ | ⟨a, bu, b, c⟩
  · rw [b]; exact ⟨c, fun q => (by rw [a] at q; cases q), fun _ => rfl⟩
  · rw [b]; exact ⟨bud_set c _ _, fun _ => TS.area_set _ _ _ hk, fun q => (by rw [a] at q; cases q)⟩

theorem sim_repair {s : TS} {r : RT} (h : Sim s r) : s.repair.2 = r.repair.2 ∧ Sim s.repair.1 r.repair.1 := by
  have hf := repair_fit s h.fit
  have hc := h.fit.2.2
  unfold TS.repair at hf ⊢
  unfold RT.repair
  rw [h.bud.1, h.now]
  cases hd : s.dead
  · rw [hd] at hf
    simp only [Bool.false_eq_true, if_false] at hf ⊢
    have hle := readL_le (s.area s.c)
    by_cases h1 : (readL (s.area s.c)).2 < (s.area s.c).length
    · rw [if_pos h1]
      obtain ⟨a, b, c⟩ := cut_sim s.c _ hc s r h.bud hd h1
      obtain ⟨st, -⟩ := TS.cut_step s s.c (readL (s.area s.c)).2 hc
      have hk := some_keeps r 1
      have e : (s.cut s.c (readL (s.area s.c)).2).dead = (r.some 1).1.dead := a.1.symm
      rw [e] at hf ⊢
      have ho : (r.some 1).1.other = (s.cut s.c (readL (s.area s.c)).2).area (1 - (s.cut s.c (readL (s.area s.c)).2).c) := by
        rw [hk.2, h.other, st.c, st.other _ (by omega) (by omega)]
      cases hq : (r.some 1).1.dead
      · rw [hq] at hf
        simp only [Bool.false_eq_true, if_false] at hf ⊢
        refine ⟨by first | trivial | rfl, ⟨?_, ho, bud_rt a (by first | exact hq.symm | rfl) rfl, hf⟩⟩
        show (s.area s.c).take _ = _
        rw [st.c, b hq]
      · rw [hq] at hf
        simp only [if_true] at hf ⊢
        exact ⟨by first | trivial | rfl, ⟨by rw [hk.1, h.now, st.c, c hq], ho, a, hf⟩⟩
    · rw [if_neg h1]
      have e : s.cut s.c (readL (s.area s.c)).2 = s := by unfold TS.cut; rw [if_neg h1]
      rw [e, hd]
      simp only [Bool.false_eq_true, if_false]
      exact ⟨by first | trivial | rfl, h⟩
  · rw [if_pos rfl, if_pos rfl]; exact ⟨rfl, h⟩

theorem flip_sim (k : Nat) (s : TS) (r : RT) (h : Bud s r) (hd : s.dead = false) :
    Bud (s.flip k) (r.some 1).1 ∧ (∀ j, (s.flip k).area j = s.area j) ∧ (s.flip k).c = if (r.some 1).1.dead then s.c else k := by
  unfold TS.flip
  rcases unit_sim (fun s => { s with c := k }) s r h hd with ⟨a, b, c⟩ | ⟨a, bu, b, c⟩
  · rw [b, a]; exact ⟨c, fun j => rfl, rfl⟩
  · rw [b, a]; exact ⟨c, fun j => rfl, rfl⟩

theorem flip_dead (k : Nat) (s : TS) (h : s.dead = true) : s.flip k = s := by unfold TS.flip TS.unit; rw [if_pos h]

theorem some_zero_other (r : RT) (n : Nat) : (r.some n).1.now = r.now ∧ (r.some n).1.other = r.other := some_keeps r n

theorem sim_compact {s : TS} {r : RT} (h : Sim s r) (ns : List Nt) : (s.compact ns).2 = (r.compact ns).2 ∧ Sim (s.compact ns).1 (r.compact ns).1 := by
  have hf := compact_fit s ns h.fit
  have hc := h.fit.2.2
  have hk : 1 - s.c = 0 ∨ 1 - s.c = 1 := by omega
  unfold TS.compact at hf ⊢
  unfold RT.compact
  rw [h.bud.1]
  by_cases hd : s.dead = true
  · rw [if_pos hd, if_pos hd]; exact ⟨rfl, h⟩
  · rw [if_neg hd, if_neg hd]; rw [if_neg hd] at hf
    have hd : s.dead = false := by simpa using hd
    by_cases h1 : ns.all goodB = false
    · rw [if_pos h1, if_pos h1]; exact ⟨rfl, h⟩
    · rw [if_neg h1, if_neg h1]; rw [if_neg h1] at hf
      by_cases h3 : 2 ^ 16 < (encL ns).length
      · rw [if_pos h3, if_pos h3]; exact ⟨rfl, h⟩
      · rw [if_neg h3, if_neg h3]; rw [if_neg h3] at hf
        clear h1 h3
        generalize hE : encL ns = E at *
        have hT : s.turned ns = ((s.cut (1 - s.c) 0).put (1 - s.c) E).flip (1 - s.c) := by unfold TS.turned; rw [hE]
        rw [hT] at hf ⊢
        clear hT hE
        -- the other area emptied
        obtain ⟨st, -⟩ := TS.cut_step s (1 - s.c) 0 hk
        have hw : Bud (s.cut (1 - s.c) 0) r.wipe ∧ r.wipe.now = r.now ∧ r.wipe.other = (s.cut (1 - s.c) 0).area (1 - s.c) ∧ (r.wipe.dead = false → (s.cut (1 - s.c) 0).area (1 - s.c) = []) := by
          unfold RT.wipe
          by_cases hl : 0 < r.other.length
          · rw [if_pos hl]
            rw [h.other] at hl
            obtain ⟨a, b, c⟩ := cut_sim (1 - s.c) 0 hk s r h.bud hd hl
            have hkk := some_keeps r 1
            by_cases hq : (r.some 1).1.dead = true
            · rw [if_pos hq]
              exact ⟨a, hkk.1, by rw [hkk.2, h.other, c hq], fun q => (by rw [hq] at q; cases q)⟩
            · rw [if_neg hq]
              have hq : (r.some 1).1.dead = false := by simpa using hq
              have hb := b hq
              rw [List.take_zero] at hb
              exact ⟨bud_rt a rfl rfl, hkk.1, hb.symm, fun _ => hb⟩
          · rw [if_neg hl]
            rw [h.other] at hl
            have e : s.cut (1 - s.c) 0 = s := by unfold TS.cut; rw [if_neg hl]
            rw [e]
            exact ⟨h.bud, rfl, h.other, fun _ => List.eq_nil_of_length_eq_zero (by omega)⟩
        obtain ⟨w1, w2, w3, w4⟩ := hw
        generalize s.cut (1 - s.c) 0 = s1 at *
        generalize r.wipe = r1 at *
        have hne : s.c ≠ 1 - s.c := by omega
        have ha1 := st.other s.c hc hne
        have hc1 := st.c
        clear st
        by_cases hd1 : s1.dead = true
        · have hr1 : r1.dead = true := w1.1.trans hd1
          rw [TS.put_dead _ _ _ hd1, flip_dead _ _ hd1] at hf ⊢
          rw [if_pos hr1, if_pos hd1]; rw [if_pos hd1] at hf
          exact ⟨rfl, ⟨by show r1.now = s1.area s1.c; rw [w2, h.now, hc1, ha1], by show r1.other = s1.area (1 - s1.c); rw [w3, hc1], w1, hf⟩⟩
        · have hd1 : s1.dead = false := by simpa using hd1
          have hr1 : ¬ r1.dead = true := by rw [w1.1, hd1]; decide
          rw [if_neg hr1]
          have w4 := w4 (by simpa using hr1)
          -- the bytes
          obtain ⟨p1, p2⟩ := put_sim (1 - s.c) hk E s1 r1 w1 hd1
          obtain ⟨st, -⟩ := TS.put_step (1 - s.c) hk E s1
          rw [w4, List.nil_append] at p2
          have hkk := some_keeps r1 E.length
          have f1 : Bud (s1.put (1 - s.c) E) (r1.fill E) := bud_rt p1 rfl rfl
          have f2 : (r1.fill E).now = s1.area s.c := by show (r1.some E.length).1.now = _; rw [hkk.1, w2, h.now, ha1]
          have f3 : (r1.fill E).other = (s1.put (1 - s.c) E).area (1 - s.c) := p2.symm
          have ha2 := st.other s.c hc hne
          have hc2 := st.c.trans hc1
          clear st p1 p2 hkk
          generalize s1.put (1 - s.c) E = s2 at *
          generalize r1.fill E = r2 at *
          by_cases hd2 : s2.dead = true
          · have hr2 : r2.dead = true := f1.1.trans hd2
            rw [flip_dead _ _ hd2] at hf ⊢
            rw [if_pos hr2, if_pos hd2]; rw [if_pos hd2] at hf
            exact ⟨rfl, ⟨by show r2.now = s2.area s2.c; rw [f2, hc2, ha2], by show r2.other = s2.area (1 - s2.c); rw [f3, hc2], f1, hf⟩⟩
          · have hd2 : s2.dead = false := by simpa using hd2
            have hr2 : ¬ r2.dead = true := by rw [f1.1, hd2]; decide
            rw [if_neg hr2]
            obtain ⟨g1, g2, g3⟩ := flip_sim (1 - s.c) s2 r2 f1 hd2
            have hkk := some_keeps r2 1
            refine ⟨?_, ⟨?_, ?_, ?_, hf⟩⟩
            · show (if (s2.flip (1 - s.c)).dead = true then (190 : Int) else 0) = if r2.swap.dead = true then 190 else 0
              refine code_of _ _ ?_
              rw [← g1.1]; unfold RT.swap; split <;> rfl
            · show r2.swap.now = (s2.flip (1 - s.c)).area (s2.flip (1 - s.c)).c
              rw [g2, g3]; unfold RT.swap
              by_cases hq : (r2.some 1).1.dead = true
              · rw [if_pos hq, if_pos hq, hkk.1, f2, hc2, ha2]
              · rw [if_neg hq, if_neg hq]; exact f3
            · show r2.swap.other = (s2.flip (1 - s.c)).area (1 - (s2.flip (1 - s.c)).c)
              rw [g2, g3]; unfold RT.swap
              by_cases hq : (r2.some 1).1.dead = true
              · rw [if_pos hq, if_pos hq, hkk.2, f3, hc2]
              · rw [if_neg hq, if_neg hq]
                show r2.now = _
                rw [f2, show 1 - (1 - s.c) = s.c by omega, ha2]
            · show Bud (s2.flip (1 - s.c)) r2.swap
              unfold RT.swap; split
              · exact g1
              · exact bud_rt g1 rfl rfl
end Go.Proofs.Ytdclgmffgidcmaa
