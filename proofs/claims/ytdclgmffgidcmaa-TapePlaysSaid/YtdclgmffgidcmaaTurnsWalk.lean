/- TapeTurns: the plain law, the walk. -/
import Derived.Test.YtdclgmffgidcmaaLawKit
import Derived.Test.YtdclgmffgidcmaaBudgetWalk
namespace Go.Proofs.Ytdclgmffgidcmaa
set_option linter.unusedSimpArgs false
set_option linter.unusedVariables false
open Go.RowKit

def ts0 : TS := ⟨[], [], 0, false, 0, false⟩
theorem compact_cases (s : TS) (ns : List Nt) (hd : s.dead = false) : (∃ e, e ≠ 0 ∧ s.compact ns = (s, e)) ∨ ((∀ n ∈ ns, goodB n = true) ∧ (encL ns).length ≤ 2 ^ 16 ∧ s.compact ns = (s.turned ns, if (s.turned ns).dead then 190 else 0)) := by
  unfold TS.compact
  rw [hd]
  simp only [Bool.false_eq_true, if_false]
  split
  · exact .inl ⟨180, by decide, rfl⟩
  · rename_i hg
    split
    · exact .inl ⟨5, by decide, rfl⟩
    · refine .inr ⟨fun n hn => ?_, by omega, rfl⟩
      have : ns.all goodB = true := by simpa using hg
      exact List.all_eq_true.1 this n hn

theorem compact_good (s : TS) (ns : List Nt) (hd : s.dead = false) (hg : ∀ n ∈ ns, goodB n = true) (hl : (encL ns).length ≤ 2 ^ 16) : s.compact ns = (s.turned ns, if (s.turned ns).dead then 190 else 0) := by
  unfold TS.compact
  have h2 : ¬ (2 ^ 16 < (encL ns).length) := by omega
  simp only [hd, List.all_eq_true.2 hg, h2, Bool.false_eq_true, Bool.true_eq_false, if_false]

theorem readL_all (ns : List Nt) (hg : ∀ n ∈ ns, goodB n = true) : (readL (encL ns)).1 = ns := by
  have := readL_encL ns hg []
  rw [List.append_nil] at this
  rw [this]
  simp [readL_no (L := []) (by kernel_rfl)]

/-- Both are good: what the three compactions come to. -/
theorem turns_pure (old next : List Nt) (N : Nat) (ho : ∀ n ∈ old, goodB n = true) (hn : ∀ n ∈ next, goodB n = true) (s2 : TS) (h2 : s2 = ((ts0.turned next).turned old)) (s3 : TS) (h3 : s3 = { s2 with armed := true, budget := (N : Int) }) :
    (ts0.turned next).dead = false ∧ s2.dead = false ∧ ((s3.turned next).dead = false → (readL ((s3.turned next).crash.area (s3.turned next).crash.c)).1 = next) ∧ ((s3.turned next).dead = true → (readL ((s3.turned next).crash.area (s3.turned next).crash.c)).1 = old) := by
  obtain ⟨a1, a2, a3, a4, a5⟩ := TS.turned_spec ts0 next (.inl rfl)
  have d1 := a4 rfl rfl
  have c1 : (ts0.turned next).c = 1 := (a3 d1).2.1
  obtain ⟨b1, b2, b3, b4, b5⟩ := TS.turned_spec (ts0.turned next) old (.inr c1)
  have d2 := b4 d1 (a5.trans rfl)
  rw [← h2] at d2 b3 b1
  have c2 : s2.c = 0 := by rw [(b3 d2).2.1, c1]
  have hc3 : s3.c = 0 := by rw [h3]; exact c2
  have hA : s3.area 0 = encL old := by
    have := (b3 d2).2.2
    rw [c1] at this
    rw [h3]
    exact this
  obtain ⟨e1, e2, e3, e4, e5⟩ := TS.turned_spec s3 next (.inl hc3)
  refine ⟨d1, d2, fun h => ?_, fun h => ?_⟩
  · show (readL ((s3.turned next).area (s3.turned next).c)).1 = next
    rw [(e3 h).2.1, (e3 h).2.2]; exact readL_all _ hn
  · show (readL ((s3.turned next).area (s3.turned next).c)).1 = old
    rw [e2 h, e1, hc3, hA]; exact readL_all _ ho

set_option maxHeartbeats 1000000 in
theorem turns_any (v0 v1 : Value) (a2 : Int) (old0 next0 : List Nt) (w : World) (h0 : Ns w v0 old0) (h1 : Ns w v1 next0) :
    Calls Try.prog 6 #[v0, v1, .int .i64 a2] w fun e w' => e = .returned (.bool true) ∧ Below w.heap.size w w' := by
  obtain ⟨p0, c0, rfl, hn0, hc0⟩ := h0.slice
  obtain ⟨p1, c1, rfl, hn1, hc1⟩ := h1.slice
  unfold maxLen at hc0 hc1
  obtain ⟨m0, hm0, hm0'⟩ : ∃ m, m ≤ old0.length ∧ m = min old0.length 40 := ⟨_, Nat.min_le_left _ _, rfl⟩
  obtain ⟨m1, hm1, hm1'⟩ : ∃ m, m ≤ next0.length ∧ m = min next0.length 40 := ⟨_, Nat.min_le_left _ _, rfl⟩
  have N0 := Lib.hid (h0.take m0 hm0)
  have N1 := Lib.hid (h1.take m1 hm1)
  clear h0 h1
  have HN := Lib.hid (mine_new w w.heap.size (Nat.le_refl _))
  go_enter Try.func6, Try.ntmps6
  go_wp2_with fail
  refine HN.out.mono ?_
  rintro e u1 ⟨rfl, t1, hb1⟩
  have HB1 := Lib.hid hb1
  have HT1 := Lib.hid t1
  have HA := Lib.hid (awake_any u1)
  clear hb1 t1 HN
  go_wp2_with fail
  refine HA.out.mono ?_
  rintro e w2 ⟨rfl, hb2⟩
  have HB2 := Lib.hid (HB1.out.trans (hb2.mono HB1.out.size))
  have HT2 := Lib.hid (HT1.out.over hb2)
  clear hb2 HT1 HB1 HA
  go_wp2_with fail
  go_quiet (fail)
  have e0 : (if (40 : Int) < (old0.length : Int) then (40 : Int) else (old0.length : Int)) = (m0 : Int) := by split <;> omega
  have e1 : (if (40 : Int) < (next0.length : Int) then (40 : Int) else (next0.length : Int)) = (m1 : Int) := by split <;> omega
  simp only [e0, e1, Int.toNat_natCast]
  have hl0 : (old0.take m0).length = m0 := by rw [List.length_take]; omega
  have hl1 : (next0.take m1).length = m1 := by rw [List.length_take]; omega
  have hm40 : m0 ≤ 40 := by omega
  have hm41 : m1 ≤ 40 := by omega
  generalize old0.take m0 = old at *
  generalize next0.take m1 = next at *
  have HL0 := Lib.hid hl0
  have HL1 := Lib.hid hl1
  clear e0 e1 hm0' hm1' hm0 hm1 hl0 hl1
  have HB3 := Lib.hid (below_draws HB2.out nq)
  have HT3 := Lib.hid (HT2.out.over (below_draws (Below.refl w2.heap.size w2) nq))
  clear HB2 HT2
  generalize w2.drewN nq = w3 at *
  have HC3 := Lib.hid (mine_compact HT3.out next (.slice p1 m1 c1) new_fit.small (N1.out.below HB3.out) (by rw [HL1.out]; omega))
  rcases compact_cases ts0 next rfl with ⟨e, hne, he⟩ | ⟨hgn, hln, he⟩
  · unfold ts0 at he
    rw [he] at HC3
    have hne' : ((e : Int) != 0) = true := by simpa using hne
    clear he hne
    go_wp2_with fail
    refine HC3.out.mono ?_
    rintro e4 w4 ⟨rfl, t4, hb4⟩
    have HB4 := Lib.hid (HB3.out.trans hb4)
    clear HC3 t4 hb4
    go_wp2
    go_ret
    exact ⟨rfl, HB4.out⟩
  · have d1 : (ts0.turned next).dead = false := (TS.turned_spec ts0 next (.inl rfl)).2.2.2.1 rfl rfl
    have f1 : fit (ts0.turned next) := turned_fit _ _ new_fit hln
    have HP := Lib.hid (fun N ho => turns_pure old next N ho hgn _ rfl _ rfl)
    have HG := Lib.hid (And.intro hgn hln)
    unfold ts0 at he
    rw [he] at HC3
    rw [show (TS.turned ⟨[], [], 0, false, 0, false⟩ next) = ts0.turned next from rfl] at HC3
    generalize ts0.turned next = s1 at *
    simp only [d1, Bool.false_eq_true, if_false] at HC3
    have HF1 := Lib.hid (And.intro d1 f1)
    clear he d1 f1 hgn hln
    go_wp2_with fail
    refine HC3.out.mono ?_
    rintro e4 w4 ⟨rfl, t4, hb4⟩
    have HB4 := Lib.hid (HB3.out.trans hb4)
    have HC4 := Lib.hid (mine_compact t4 old (.slice p0 m0 c0) HF1.out.2.small (N0.out.below HB4.out) (by rw [HL0.out]; omega))
    rcases compact_cases s1 old HF1.out.1 with ⟨e, hne, he⟩ | ⟨hgo, hlo, he⟩
    · rw [he] at HC4
      have hne' : ((e : Int) != 0) = true := by simpa using hne
      clear he hne HC3 HT3 HB3 t4 hb4 HP
      go_wp2_with fail
      refine HC4.out.mono ?_
      rintro e4 w5 ⟨rfl, t5, hb5⟩
      have HB5 := Lib.hid (HB4.out.trans hb5)
      clear t5 hb5 HC4
      go_wp2
      go_ret
      exact ⟨rfl, HB5.out⟩
    · have d2 : (s1.turned old).dead = false := (HP.out 0 hgo).2.1
      have f2 : fit (s1.turned old) := turned_fit _ _ HF1.out.2 hlo
      rw [he, d2] at HC4
      simp only [Bool.false_eq_true, if_false] at HC4
      have HQ := Lib.hid (fun N => (HP.out N hgo).2.2)
      have HF2 := Lib.hid (And.intro d2 f2)
      generalize s1.turned old = s2 at *
      clear he d2 f2 hgo hlo HC3 HT3 HB3 t4 hb4 HP
      go_wp2_with fail
      refine HC4.out.mono ?_
      rintro e5 w5 ⟨rfl, t5, hb5⟩
      obtain ⟨N, hN, hN7⟩ := wrap_rem a2 700 (by decide) (by decide)
      have HB5 := Lib.hid (HB4.out.trans hb5)
      have HA5 := Lib.hid (mine_arm t5 N HF2.out.1 (by omega))
      clear t5 hb5 HC4 HB4
      go_wp2_with fail
      rw [show ((700 : Nat) : Int) = 700 by rfl] at hN
      rw [hN]
      clear hN
      refine HA5.out.mono ?_
      rintro e6 w6 ⟨rfl, t6, hb6⟩
      have HB6 := Lib.hid (HB5.out.trans hb6)
      have HQN := HQ.out N
      have f3 : fit { s2 with armed := true, budget := (N : Int) } := HF2.out.2
      have d3 : ({ s2 with armed := true, budget := (N : Int) } : TS).dead = false := HF2.out.1
      generalize ({ s2 with armed := true, budget := (N : Int) } : TS) = s3 at *
      have HC6 := Lib.hid (mine_compact t6 next (.slice p1 m1 c1) f3.small (N1.out.below HB6.out) (by rw [HL1.out]; omega))
      rw [compact_good s3 next d3 HG.out.1 HG.out.2] at HC6
      have f4 := turned_fit s3 next f3 HG.out.2
      generalize s3.turned next = s4 at *
      have HQ4 := Lib.hid HQN
      have HF4 := Lib.hid f4
      clear HQN f3 d3 f4 t6 hb6 HA5 HB5 HQ HF2
      cases hd : s4.dead
      all_goals
        have HD := Lib.hid hd
        simp only [hd, Bool.false_eq_true, if_false, if_true] at HC6
        clear hd
        go_wp2_with fail
        refine HC6.out.mono ?_
        rintro e7 w7 ⟨rfl, t7, hb7⟩
        have HB7 := Lib.hid (HB6.out.trans hb7)
        have HT7 := Lib.hid t7
        have HK7 := Lib.hid (mine_crash t7 HF4.out.small)
        clear HC6 t7 hb7 HB6
        go_wp2_with fail
        refine HK7.out.mono ?_
        rintro e8 w8 ⟨b', rfl, t8, t8', -, hb8⟩
        have HB8 := Lib.hid (HB7.out.trans hb8)
        have HT8 := Lib.hid t8'
        have HR8 := Lib.hid (mine_read (t8.cut HB7.out.size) (crash_fit _ HF4.out).small)
        clear t8 t8' hb8 HK7 HB7 HT7
        go_wp2_with fail
        refine HR8.out.mono ?_
        rintro e9 w9 ⟨p, cap, rfl, ho, -, hbb9, hb9, -⟩
        have HB9 := Lib.hid (HB8.out.trans hb9)
        have HT9 := Lib.hid (HT8.out.over hbb9)
        have HNS := Lib.hid ho.rd.ns
        clear ho hbb9 hb9 HR8 HB8 HT8
      · have hq := HQ4.out.1 HD.out
        have HL9 := N1.out.below HB9.out
        generalize (readL (s4.crash.area s4.crash.c)).1 = got at *
        subst hq
        have HS := Lib.hid (same_any _ _ _ _ w9 HNS.out HL9)
        simp only [decide_true] at HS
        clear HL9 HNS N0 N1 HT9 HF4 HG HF1
        go_wp2_with fail
        refine HS.out.mono ?_
        rintro e10 w10 ⟨rfl, hb10⟩
        have HB10 := Lib.hid (HB9.out.trans (hb10.mono HB9.out.size))
        clear hb10 HS HB9
        go_wp2
        go_ret
        exact ⟨rfl, HB10.out⟩
      · have hq := HQ4.out.2 HD.out
        have HL9 := N0.out.below HB9.out
        generalize (readL (s4.crash.area s4.crash.c)).1 = got at *
        subst hq
        have HS := Lib.hid (same_any _ _ _ _ w9 HNS.out HL9)
        simp only [decide_true] at HS
        clear HL9 HNS N0 N1 HF1
        go_wp2_with fail
        refine HS.out.mono ?_
        rintro e10 w10 ⟨rfl, hb10⟩
        have HB10 := Lib.hid (HB9.out.trans (hb10.mono HB9.out.size))
        have HT10 := HT9.out.over hb10
        have HX := Lib.hid (mine_append HT10 [] (.slice none 0 0) HF4.out.small ⟨by simp [maxLen], .inl ⟨rfl, none, 0, rfl, by unfold maxLen; omega⟩⟩ (by simp))
        have hap : s4.append [] = (s4, 190) := by unfold TS.append; rw [if_pos HD.out]
        rw [hap] at HX
        clear hb10 HS HB9 HT9 HT10 hap
        go_wp2_with fail
        refine HX.out.mono ?_
        rintro e11 w11 ⟨rfl, t11, -, hb11⟩
        have HB11 := Lib.hid (HB10.out.trans hb11)
        have HA11 := Lib.hid (arm_dead w11 _ 1 _ _ t11 HD.out)
        clear t11 hb11 HX HB10
        go_wp2_with fail
        refine HA11.out.mono ?_
        rintro e12 w12 ⟨rfl, rfl⟩
        clear HA11
        go_wp2
        go_ret
        exact ⟨rfl, HB11.out⟩
end Go.Proofs.Ytdclgmffgidcmaa
