/- TapeTorn: the walk. -/
import Derived.Test.YtdclgmffgidcmaaTornPure
namespace Go.Proofs.Ytdclgmffgidcmaa
set_option linter.unusedSimpArgs false
set_option linter.unusedVariables false
open Go.RowKit

/-- What the loop that appends holds. -/
def TornRel (w : World) (ls : List (List Nt)) (wv lv iv : Value) (wr : World) : Prop :=
  ∃ (k n : Nat) (F : Nat → Prop) (want : List Nt) (p : Option Addr) (c : Nat), iv = .int .i64 k ∧ k ≤ ls.length ∧ k ≤ 30 ∧ wv = .slice p want.length c ∧ lv = .slice none 0 0 ∧ OwnF w.heap.size wr F 37 4 want.length (.slice p want.length c) (cellsL want) ∧
    TapeB w.heap.size wr w.heap.size F (tornS (encL want) n false) ∧ n ≤ 5000 ∧ (∀ m ∈ want, goodB m = true) ∧ want.length ≤ 30 * k ∧ Below w.heap.size w wr

theorem ns_takeL {w : World} {p : Option Addr} {n c : Nat} {a b : List Nt} (h : Ns w (.slice p n c) (a ++ b)) : Ns w (.slice p a.length c) a := by
  have := h.take a.length (by rw [List.length_append]; omega)
  rwa [List.take_left] at this
theorem ns_dropL {w : World} {p : Option Addr} {n c kk : Nat} {a b : List Nt} (h : Ns w (.slice p n c) (a ++ b)) (hb : b.length = kk) :
    Ns w (.slice (if c = a.length then p else Option.map (fun x => x.add (a.length * 4)) p) kk (c - a.length)) b := by
  subst hb
  obtain ⟨hm, hv⟩ := h
  rw [List.length_append] at hm
  refine ⟨by omega, ?_⟩
  rcases hv with ⟨he, p', c', hv, hc⟩ | ⟨b0, off, cap, hv, h1, h2, hc⟩
  · cases hv
    have hb0 : b = [] := (List.append_eq_nil_iff.1 he).2
    subst hb0
    exact .inl ⟨rfl, _, _, rfl, by omega⟩
  · cases hv
    rw [List.length_append] at h1 hc
    rcases Nat.eq_zero_or_pos b.length with h0 | hpos
    · have hb0 := List.eq_nil_of_length_eq_zero h0
      subst hb0
      exact .inl ⟨rfl, _, _, rfl, by omega⟩
    · rw [if_neg (by omega)]
      refine .inr ⟨b0, off + a.length * 4, c - a.length, ?_, by omega, by omega, fun j hj => ?_⟩
      · rw [Option.map_some, Addr.add_lit]
      · rw [Nat.add_assoc, hc (a.length * 4 + j) (by omega), cellsL_append, List.getElem?_append_right (by rw [cellsL_len]; omega), cellsL_len]
        congr 1; omega
theorem ns_own {w : World} {e : TypeId} {v : Value} {ns : List Nt} (h : Own w e 4 ns.length v (cellsL ns)) : Ns w v ns := h.rd.ns

set_option maxRecDepth 100000 in
set_option maxHeartbeats 1600000 in
theorem torn_any (v0 : Value) (a1 : Int) (ls : List (List Nt)) (w : World) (h0 : NsL w v0 ls) : Calls Try.prog 3 #[v0, .int .i64 a1] w fun e w' => e = .returned (.bool true) ∧ Below w.heap.size w w' := by
  have HN := Lib.hid (tb_new w w.heap.size (Nat.le_refl _))
  obtain ⟨p0, c0, rfl, hn0, hc0⟩ := h0.slice
  unfold maxLen at hc0
  have N0 := Lib.hid h0
  generalize hml : ls.length = m0 at *
  have HML := Lib.hid hml
  clear h0 hml
  go_enter Try.func3, Try.ntmps3
  go_wp2_with fail
  refine HN.out.mono ?_
  rintro e u1 ⟨rfl, t1, hb1⟩
  have HB1 := Lib.hid hb1
  have HT1 := Lib.hid t1
  have HA := Lib.hid (awake_any u1)
  clear hb1 t1 HN
  go_wp2_with fail
  refine HA.out.mono ?_
  rintro e w2 ⟨rfl, hb2⟩
  have HB := Lib.hid (HB1.out.trans (hb2.mono HB1.out.size))
  have HT := Lib.hid (HT1.out.over hb2)
  clear hb2 HT1 HB1 HA
  obtain ⟨N, hN, hN3⟩ := wrap_rem a1 5000 (by decide) (by decide)
  rw [show ((5000 : Nat) : Int) = 5000 by rfl] at hN
  have HX := Lib.hid (tb_arm HT.out N rfl (by omega))
  go_wp2_with fail
  rw [hN]
  clear hN
  refine HX.out.mono ?_
  rintro e w3 ⟨rfl, T⟩
  have HT := Lib.hid T.tape
  have HB := Lib.hid (HB.out.trans T.below)
  clear T HX
  go_wp2_with fail
  go_loopw [6, 7, 8] (fun wv lv iv wr => TornRel w ls wv lv iv wr) (fun _ _ iv _ => 30 - (intOf iv).toNat)
  case atStart => exact ⟨0, N, _, [], none, 0, rfl, Nat.zero_le _, Nat.zero_le _, rfl, rfl, ⟨Own.nil _ _ _, fun k h => by simp [Value.ownBlock] at h⟩, HT.out, by omega, fun _ h => (by cases h), Nat.zero_le _, HB.out⟩
  case round =>
    obtain ⟨k, n, F, want, p, c, rfl, hk, hk3, rfl, rfl, ho, ht, hn5, hgood, hwl, hb⟩ := hrel
    rw [HML.out] at hk
    have HO := Lib.hid ho
    have HT := Lib.hid ht
    have HB := Lib.hid hb
    have HG := Lib.hid hgood
    have hsz := hb.size
    clear ho ht hb hgood
    by_cases hlt : k < m0 ∧ k < 30
    · obtain ⟨hlt1, hlt2⟩ := hlt
      have hlt2' : (k : Int) < 30 := by omega
      obtain ⟨b0, o0, rfl, hcs⟩ := N0.out.cells (by rw [HML.out]; omega)
      obtain ⟨u, hu, hun⟩ := hcs k (by rw [HML.out]; exact hlt1)
      obtain ⟨pu, cu, rfl, hun1, hun2⟩ := hun.slice
      unfold maxLen at hun2
      have lb0 := lt_of_cell hu
      have hu' : wr.cell? ⟨b0, o0 + k, none⟩ = some (.slice pu (ls[k]'(by rw [HML.out]; exact hlt1)).length cu) := (HB.out.cell (p := ⟨b0, o0 + k, none⟩) lb0).trans hu
      obtain ⟨m, hm, hm'⟩ : ∃ m, m ≤ (ls[k]'(by rw [HML.out]; exact hlt1)).length ∧ m = min (ls[k]'(by rw [HML.out]; exact hlt1)).length 30 := ⟨_, Nat.min_le_left _ _, rfl⟩
      have HNU := Lib.hid (hun.take m hm)
      generalize (ls[k]'(by rw [HML.out]; exact hlt1)) = l at *
      clear hu hun hcs
      go_wp2_with fail
      go_quiet (fail)
      have e0 : (if (30 : Int) < (l.length : Int) then (30 : Int) else (l.length : Int)) = (m : Int) := by split <;> omega
      simp only [e0, Int.toNat_natCast]
      have hm30 : m ≤ 30 := by omega
      have hlm : (l.take m).length = m := by rw [List.length_take]; omega
      generalize l.take m = l' at *
      have HLM := Lib.hid hlm
      have HB := Lib.hid (below_draws HB.out nq)
      have HO := Lib.hid (HO.out.over (below_draws (Below.refl wr.heap.size wr) nq))
      have HT := Lib.hid (HT.out.over (below_draws (Below.refl wr.heap.size wr) nq))
      have HN0 := Lib.hid HNU.out
      have HNU := Lib.hid (HNU.out.below HB.out)
      clear e0 hlm hm' hm hu'
      have hs4 : wr.heap.size ≤ (wr.drewN nq).heap.size := Nat.le_refl _
      obtain ⟨wo, rfl⟩ : ∃ wo : World, wo = wr := ⟨_, rfl⟩
      generalize hw4 : wo.drewN nq = w4 at *
      clear hw4
      have HX := Lib.hid (tb_append HT.out l' _ ⟨by show (encL want).length ≤ _; have := encL_len want HG.out; omega, by simp [tornS], .inl rfl⟩ HNU.out (by rw [HLM.out]; omega))
      rcases torn_append want l' n HG.out hn5 (by have := encL_len want HG.out; omega) (by rw [HLM.out]; exact hm30) with ⟨_, he⟩ | ⟨hgl, hle, he⟩ | ⟨hgl, hle, he⟩
      · rw [he] at HX
        clear he
        go_wp2_with fail
        refine HX.out.mono ?_
        rintro e w5 ⟨rfl, T⟩
        have HR : Hid (TornRel w ls (.slice p want.length c) (.slice none 0 0) (.int .i64 ((k + 1 : Nat) : Int)) w5) :=
          ⟨k + 1, n, _, want, p, c, rfl, by rw [HML.out]; exact hlt1, hlt2, rfl, rfl, HO.out.step T.keep, T.tape, hn5, HG.out, by omega, HB.out.trans T.below⟩
        clear HX T HO HT HB HG HNU
        go_wp2
        go_roundw
        case rel => exact HR.out
        case measure => simp [intOf]; omega
      · rw [he] at HX
        clear he
        have HGA : Hid (∀ m ∈ want ++ l', goodB m = true) := fun m hm => (List.mem_append.1 hm).elim (HG.out m) (hgl m)
        have hwc : want.length ≤ c := by
          obtain ⟨p', c', hv, h1, _⟩ := HO.out.1.rd.ns.slice
          cases hv; exact h1
        have hll : want.length + m ≤ 960 := by omega
        clear hgl hle
        go_wp2_with fail
        refine HX.out.mono ?_
        rintro e w5 ⟨rfl, T⟩
        have HO := Lib.hid (HO.out.step T.keep)
        have HT := Lib.hid T.tape
        have HB := Lib.hid (HB.out.trans T.below)
        have hsrc := src_ns (P := Try.prog) Try.underlying29 (HN0.out.below HB.out)
        rw [HLM.out] at hsrc
        have HS := Lib.hid hsrc
        clear HX T hsrc HNU
        go_wp2_with (at_builtin; refine wpList_app _ rfl _ _ 29 29 37 rfl _ 4 32 Try.underlying29 Try.info_note rfl _ rfl _ _ HO.out.1 _ rfl m _ HS.out ?h1 ?h2 ?hK)
        case h1 => unfold maxLen; omega
        case h2 => omega
        case hK =>
          intro v3 w6 ho3 hg3
          obtain ⟨p3, c3, rfl⟩ := own_slice ho3
          have HR : Hid (TornRel w ls (.slice p3 (want.length + m) c3) (.slice none 0 0) (.int .i64 ((k + 1 : Nat) : Int)) w6) := by
            have hlen : (want ++ l').length = want.length + m := by rw [List.length_append, HLM.out]
            refine ⟨k + 1, _, _, want ++ l', p3, c3, rfl, by rw [HML.out]; exact hlt1, hlt2, by rw [hlen], rfl, ?_, HT.out.grew hg3 (fun j e => (HO.out.2 j e).2), by omega, HGA.out, by rw [hlen]; omega, below_grew HB.out hg3 HT.out.2.2 (fun j e => (HO.out.2 j e).1)⟩
            rw [hlen, cellsL_append]
            exact OwnF.grew HT.out hg3 (fun j e => HO.out.2 j e) ho3
          clear ho3 hg3 HO HT HB HG HGA HS HN0
          go_wp2
          go_roundw
          case rel => exact HR.out
          case measure => simp [intOf]; omega
      · rw [he] at HX
        clear he
        obtain ⟨kk, s1, z, hkk, hread, hrep, hold, s2, hap, hold2, hrep2⟩ := torn_left want l' (tornS (encL want ++ (encL l').take n) 0 true) n rfl ⟨by show (encL want ++ (encL l').take n).length ≤ _; have := encL_len want HG.out; rw [List.length_append, List.length_take]; omega, by simp [tornS], .inl rfl⟩ HG.out hgl
        have hfs : fit (tornS (encL want ++ (encL l').take n) 0 true) := ⟨by show (encL want ++ (encL l').take n).length ≤ _; have := encL_len want HG.out; rw [List.length_append, List.length_take]; omega, by simp [tornS], .inl rfl⟩
        clear hgl hle
        generalize tornS (encL want ++ (encL l').take n) 0 true = s at *
        go_wp2_with fail
        refine HX.out.mono ?_
        rintro e w5 ⟨rfl, T⟩
        have HO := Lib.hid (HO.out.step T.keep)
        have HT := Lib.hid T.tape
        have HB := Lib.hid (HB.out.trans T.below)
        have HNL := Lib.hid (HN0.out.below HB.out)
        clear HX T HNU
        have Hkk := Lib.hid hkk
        have HRD := Lib.hid hread
        have HP := Lib.hid (And.intro hrep (And.intro hap hrep2))
        have HH := Lib.hid (And.intro hold (And.intro hold2 hfs))
        clear hkk hread hrep hold hap hold2 hrep2 hfs
        have HLL := Lib.hid HLM.out
        obtain ⟨got, hgot⟩ : ∃ got, got = want ++ l'.take kk := ⟨_, rfl⟩
        rw [← hgot] at HRD HH
        have HGOT := Lib.hid hgot
        clear hgot
        go_wp2_with fail
        have hsX := HB.out.size
        have HX := Lib.hid (tb_crash HT.out HH.out.2.2)
        refine HX.out.mono ?_
        rintro e x1 ⟨a, rfl, ta, -, b⟩
        have HA := Lib.hid ta
        have HO := Lib.hid (HO.out.over b)
        have HNL := Lib.hid (HNL.out.below b)
        have HB := Lib.hid (HB.out.trans (b.mono HB.out.size))
        clear HX ta b HT
        have HX := Lib.hid (tb_read HA.out (crash_fit s HH.out.2.2))
        rw [show s.crash.area s.crash.c = s.area s.c from rfl, HRD.out] at HX
        go_wp2_with fail
        refine HX.out.mono ?_
        rintro e x2 ⟨pg, cg, rfl, og, ta, b⟩
        have HA := Lib.hid ta
        have HO := Lib.hid (HO.out.over b)
        have HNL := Lib.hid (HNL.out.below b)
        have HB := Lib.hid (HB.out.trans (b.mono HB.out.size))
        have NG := Lib.hid og.1.rd.ns
        have hgl : got.length = want.length + kk := by rw [HGOT.out, List.length_append, List.length_take]; have := Hkk.out; omega
        have HGB := Lib.hid (fun (j n c : Nat) (e : (Value.slice pg n c).ownBlock = some j) => (og.2 j (by cases pg <;> exact e)).2)
        clear HX ta b og
        have hG2 : want.length + kk ≤ want.length + m := by have := Hkk.out; have := HLL.out; omega
        obtain ⟨hcg1, hcg2⟩ : got.length ≤ cg ∧ cg ≤ 2 ^ 63 - 1 := by
          obtain ⟨p', c', hv, h1, h2⟩ := NG.out.slice
          cases hv
          exact ⟨h1, h2⟩
        simp only [hgl] at NG hcg1 ⊢
        have NW := Lib.hid (ns_own HO.out.1)
        have hw9 : want.length ≤ 930 := by omega
        have hkk9 : kk ≤ 30 := by have := Hkk.out; have := HLL.out; omega
        clear hgl HO
        go_wp2_with fail
        have NGx : Hid (Ns x2 (.slice pg (want.length + kk) cg) (want ++ l'.take kk)) := by unfold Hid; rw [← HGOT.out]; exact NG.out
        have NG1 := Lib.hid (ns_takeL NGx.out)
        have Q1 := Lib.hid (fun q => same_quiet _ _ _ _ (x2.drewN q) (NG1.out.below (below_draws (Below.refl _ _) q)) (NW.out.below (below_draws (Below.refl _ _) q)))
        simp only [decide_true] at Q1
        have hkl : (l'.take kk).length = kk := by rw [List.length_take]; have := Hkk.out; omega
        have hkl2 : kk ≤ l'.length := Hkk.out
        have NG2 := Lib.hid (ns_dropL NGx.out hkl)
        have NL2 := Lib.hid (HNL.out.take kk hkl2)
        have hkc : kk ≤ cu := by obtain ⟨p', c', hv, h1, _⟩ := HNL.out.slice; cases hv; have := HLL.out; omega
        have Q2 := Lib.hid (fun q => same_quiet _ _ _ _ (x2.drewN q) (NG2.out.below (below_draws (Below.refl _ _) q)) (NL2.out.below (below_draws (Below.refl _ _) q)))
        simp only [decide_true] at Q2
        clear hkl hkl2
        generalize want.length = W at *
        have hsub : (W : Int) + (kk : Int) - (W : Int) = (kk : Int) := by omega
        have hg1 : decide (W + kk < W) = false := by simp
        have hg2 : decide ((W : Int) + (kk : Int) < (W : Int)) = false := by simp; omega
        have hg3 : decide (((W + kk : Nat) : Int) < (W : Int)) = false := by simp; omega
        have hg4 : decide (m < kk) = false := by simp; omega
        refine wp_region_quiet_lit (by kernel_rfl) (by kernel_rfl) ?_
        repeat (any_goals (first | go_big_quiet_step ((first | with_reducible exact Calls.quiet_of (Q1.out _) | with_reducible exact Calls.quiet_of (Q2.out _))) | quiet_step ((first | with_reducible exact Calls.quiet_of (Q1.out _) | with_reducible exact Calls.quiet_of (Q2.out _)))))
        refine wpQuiet_nil ?_
        intro x3 hw'
        clear Q1 Q2 NGx NG1 NG2 NL2 NW HNL hsub hg1 hg2 hg3 hg4
        generalize (if cg = W then pg else Option.map (fun x => x.add (W * 4)) pg) = PX at *
        obtain ⟨q9, rfl⟩ := hw'
        have HA := Lib.hid (HA.out.over (below_draws (Below.refl x2.heap.size x2) q9))
        have HB := Lib.hid (below_draws HB.out q9)
        have NG := Lib.hid (NG.out.below (below_draws (Below.refl x2.heap.size x2) q9))
        generalize x2.drewN q9 = x4 at *
        have HX := Lib.hid (tb_repair HA.out (crash_fit s HH.out.2.2))
        rw [HP.out.1] at HX
        go_wp2_with fail
        refine HX.out.mono ?_
        rintro e x5 ⟨rfl, T⟩
        have NG := Lib.hid (NG.out.kept T.keep (fun j e _ => HGB.out j _ _ e))
        have HA := Lib.hid T.tape
        have HB := Lib.hid (HB.out.trans (T.below.mono hsX))
        clear HX T HGB
        have HX := Lib.hid (tb_read HA.out HH.out.1.fits)
        rw [show (readL (s1.area s1.c)).1 = got by rw [HH.out.1.read]] at HX
        go_wp2_with fail
        refine HX.out.mono ?_
        rintro e x6 ⟨pr, cr, rfl, orr, ta, b⟩
        have HS := Lib.hid (same_any _ _ _ _ x6 orr.1.rd.ns (NG.out.below b))
        simp only [decide_true] at HS
        have HA := Lib.hid ta
        have HB := Lib.hid (HB.out.trans (b.mono HB.out.size))
        clear HX ta b orr NG
        go_wp2_with fail
        refine HS.out.mono ?_
        rintro e x7 ⟨rfl, b⟩
        have HA := Lib.hid (HA.out.over b)
        have HB := Lib.hid (HB.out.trans (b.mono HB.out.size))
        have HX := Lib.hid (tb_append HA.out [] (.slice none 0 0) HH.out.1.fits ⟨by simp [maxLen], .inl ⟨rfl, none, 0, rfl, by unfold maxLen; omega⟩⟩ (by simp))
        rw [HP.out.2.1] at HX
        clear HS b
        go_wp2_with fail
        refine HX.out.mono ?_
        rintro e x8 ⟨rfl, T⟩
        have HB := Lib.hid (HB.out.trans (T.below.mono hsX))
        have HX := Lib.hid (tb_repair T.tape HH.out.2.1.fits)
        rw [HP.out.2.2] at HX
        clear T HA
        go_wp2_with fail
        refine HX.out.mono ?_
        rintro e x9 ⟨rfl, T⟩
        have HB := Lib.hid (HB.out.trans (T.below.mono hsX))
        clear HX T
        go_wp2
        go_ret
        exact ⟨rfl, HB.out⟩
    · have hst : readL ((tornS (encL want) n false).area (tornS (encL want) n false).c) = (want, (encL want).length) := readL_just want HG.out
      have hfs : fit (tornS (encL want) n false) := ⟨by show (encL want).length ≤ _; have := encL_len want HG.out; omega, by simp [tornS], .inl rfl⟩
      obtain ⟨kk, s1, z, hkk, hread, hrep, hold, s2, hap, hold2, hrep2⟩ := torn_left want [] (tornS (encL want) n false) 0 (by simp [tornS, TS.area]) hfs HG.out (fun m hm => by cases hm)
      obtain rfl : kk = 0 := by simpa using hkk
      generalize tornS (encL want) n false = s at *
      have Hkk := Lib.hid hkk
      have HRD := Lib.hid hread
      have HP := Lib.hid (And.intro hrep (And.intro hap hrep2))
      have HH := Lib.hid (And.intro hold (And.intro hold2 hfs))
      have HNL : Hid (Ns wr (.slice none 0 0) []) := ⟨by simp [maxLen], .inl ⟨rfl, none, 0, rfl, by unfold maxLen; omega⟩⟩
      have HLL : Hid (([] : List Nt).length = 0) := rfl
      obtain ⟨got, hgot⟩ : ∃ got, got = want ++ ([] : List Nt).take 0 := ⟨_, rfl⟩
      rw [← hgot] at HRD HH
      have HGOT := Lib.hid hgot
      clear hgot
      clear hkk hread hrep hold hap hold2 hrep2 hfs hst
      by_cases hlt1 : k < m0
      · have hk30 : k = 30 := by omega
        subst hk30
        go_wp2_with fail
        have hsX := HB.out.size
        have HX := Lib.hid (tb_crash HT.out HH.out.2.2)
        refine HX.out.mono ?_
        rintro e x1 ⟨a, rfl, ta, -, b⟩
        have HA := Lib.hid ta
        have HO := Lib.hid (HO.out.over b)
        have HNL := Lib.hid (HNL.out.below b)
        have HB := Lib.hid (HB.out.trans (b.mono HB.out.size))
        clear HX ta b HT
        have HX := Lib.hid (tb_read HA.out (crash_fit s HH.out.2.2))
        rw [show s.crash.area s.crash.c = s.area s.c from rfl, HRD.out] at HX
        go_wp2_with fail
        refine HX.out.mono ?_
        rintro e x2 ⟨pg, cg, rfl, og, ta, b⟩
        have HA := Lib.hid ta
        have HO := Lib.hid (HO.out.over b)
        have HNL := Lib.hid (HNL.out.below b)
        have HB := Lib.hid (HB.out.trans (b.mono HB.out.size))
        have NG := Lib.hid og.1.rd.ns
        have hgl : got.length = want.length := by rw [HGOT.out, List.length_append, List.length_take]; have := Hkk.out; omega
        have HGB := Lib.hid (fun (j n c : Nat) (e : (Value.slice pg n c).ownBlock = some j) => (og.2 j (by cases pg <;> exact e)).2)
        clear HX ta b og
        have hG2 : want.length ≤ want.length := by have := Hkk.out; have := HLL.out; omega
        obtain ⟨hcg1, hcg2⟩ : got.length ≤ cg ∧ cg ≤ 2 ^ 63 - 1 := by
          obtain ⟨p', c', hv, h1, h2⟩ := NG.out.slice
          cases hv
          exact ⟨h1, h2⟩
        simp only [hgl] at NG hcg1 ⊢
        have NW := Lib.hid (ns_own HO.out.1)
        have hw9 : want.length ≤ 930 := by omega
        have hkk9 : True := trivial
        clear hgl HO
        go_wp2_with fail
        have NGx : Hid (Ns x2 (.slice pg (want.length) cg) (want ++ ([] : List Nt).take 0)) := by unfold Hid; rw [← HGOT.out]; exact NG.out
        have NG1 := Lib.hid (ns_takeL NGx.out)
        have Q1 := Lib.hid (fun q => same_quiet _ _ _ _ (x2.drewN q) (NG1.out.below (below_draws (Below.refl _ _) q)) (NW.out.below (below_draws (Below.refl _ _) q)))
        simp only [decide_true] at Q1
        have hkl : (([] : List Nt).take 0).length = 0 := rfl
        have hkl2 : 0 ≤ ([] : List Nt).length := Nat.le_refl _
        have NG2 := Lib.hid (ns_dropL NGx.out hkl)
        have NL2 := Lib.hid (HNL.out.take 0 hkl2)
        have hkc : True := trivial
        have Q2 := Lib.hid (fun q => same_quiet _ _ _ _ (x2.drewN q) (NG2.out.below (below_draws (Below.refl _ _) q)) (NL2.out.below (below_draws (Below.refl _ _) q)))
        simp only [decide_true] at Q2
        clear hkl hkl2
        generalize want.length = W at *
        have hsub : True := trivial
        have hg1 : True := trivial
        have hg2 : True := trivial
        have hg3 : True := trivial
        have hg4 : True := trivial
        refine wp_region_quiet_lit (by kernel_rfl) (by kernel_rfl) ?_
        repeat (any_goals (first | go_big_quiet_step ((first | with_reducible exact Calls.quiet_of (Q1.out _) | with_reducible exact Calls.quiet_of (Q2.out _))) | quiet_step ((first | with_reducible exact Calls.quiet_of (Q1.out _) | with_reducible exact Calls.quiet_of (Q2.out _)))))
        refine wpQuiet_nil ?_
        intro x3 hw'
        clear Q1 Q2 NGx NG1 NG2 NL2 NW HNL hsub hg1 hg2 hg3 hg4
        generalize (if cg = W then pg else Option.map (fun x => x.add (W * 4)) pg) = PX at *
        obtain ⟨q9, rfl⟩ := hw'
        have HA := Lib.hid (HA.out.over (below_draws (Below.refl x2.heap.size x2) q9))
        have HB := Lib.hid (below_draws HB.out q9)
        have NG := Lib.hid (NG.out.below (below_draws (Below.refl x2.heap.size x2) q9))
        generalize x2.drewN q9 = x4 at *
        have HX := Lib.hid (tb_repair HA.out (crash_fit s HH.out.2.2))
        rw [HP.out.1] at HX
        go_wp2_with fail
        refine HX.out.mono ?_
        rintro e x5 ⟨rfl, T⟩
        have NG := Lib.hid (NG.out.kept T.keep (fun j e _ => HGB.out j _ _ e))
        have HA := Lib.hid T.tape
        have HB := Lib.hid (HB.out.trans (T.below.mono hsX))
        clear HX T HGB
        have HX := Lib.hid (tb_read HA.out HH.out.1.fits)
        rw [show (readL (s1.area s1.c)).1 = got by rw [HH.out.1.read]] at HX
        go_wp2_with fail
        refine HX.out.mono ?_
        rintro e x6 ⟨pr, cr, rfl, orr, ta, b⟩
        have HS := Lib.hid (same_any _ _ _ _ x6 orr.1.rd.ns (NG.out.below b))
        simp only [decide_true] at HS
        have HA := Lib.hid ta
        have HB := Lib.hid (HB.out.trans (b.mono HB.out.size))
        clear HX ta b orr NG
        go_wp2_with fail
        refine HS.out.mono ?_
        rintro e x7 ⟨rfl, b⟩
        have HA := Lib.hid (HA.out.over b)
        have HB := Lib.hid (HB.out.trans (b.mono HB.out.size))
        have HX := Lib.hid (tb_append HA.out [] (.slice none 0 0) HH.out.1.fits ⟨by simp [maxLen], .inl ⟨rfl, none, 0, rfl, by unfold maxLen; omega⟩⟩ (by simp))
        rw [HP.out.2.1] at HX
        clear HS b
        go_wp2_with fail
        refine HX.out.mono ?_
        rintro e x8 ⟨rfl, T⟩
        have HB := Lib.hid (HB.out.trans (T.below.mono hsX))
        have HX := Lib.hid (tb_repair T.tape HH.out.2.1.fits)
        rw [HP.out.2.2] at HX
        clear T HA
        go_wp2_with fail
        refine HX.out.mono ?_
        rintro e x9 ⟨rfl, T⟩
        have HB := Lib.hid (HB.out.trans (T.below.mono hsX))
        clear HX T
        go_wp2
        go_ret
        exact ⟨rfl, HB.out⟩
      · have hkm : ¬ ((k : Int) < (m0 : Int)) := by omega
        go_wp2_with fail
        have hsX := HB.out.size
        have HX := Lib.hid (tb_crash HT.out HH.out.2.2)
        refine HX.out.mono ?_
        rintro e x1 ⟨a, rfl, ta, -, b⟩
        have HA := Lib.hid ta
        have HO := Lib.hid (HO.out.over b)
        have HNL := Lib.hid (HNL.out.below b)
        have HB := Lib.hid (HB.out.trans (b.mono HB.out.size))
        clear HX ta b HT
        have HX := Lib.hid (tb_read HA.out (crash_fit s HH.out.2.2))
        rw [show s.crash.area s.crash.c = s.area s.c from rfl, HRD.out] at HX
        go_wp2_with fail
        refine HX.out.mono ?_
        rintro e x2 ⟨pg, cg, rfl, og, ta, b⟩
        have HA := Lib.hid ta
        have HO := Lib.hid (HO.out.over b)
        have HNL := Lib.hid (HNL.out.below b)
        have HB := Lib.hid (HB.out.trans (b.mono HB.out.size))
        have NG := Lib.hid og.1.rd.ns
        have hgl : got.length = want.length := by rw [HGOT.out, List.length_append, List.length_take]; have := Hkk.out; omega
        have HGB := Lib.hid (fun (j n c : Nat) (e : (Value.slice pg n c).ownBlock = some j) => (og.2 j (by cases pg <;> exact e)).2)
        clear HX ta b og
        have hG2 : want.length ≤ want.length := by have := Hkk.out; have := HLL.out; omega
        obtain ⟨hcg1, hcg2⟩ : got.length ≤ cg ∧ cg ≤ 2 ^ 63 - 1 := by
          obtain ⟨p', c', hv, h1, h2⟩ := NG.out.slice
          cases hv
          exact ⟨h1, h2⟩
        simp only [hgl] at NG hcg1 ⊢
        have NW := Lib.hid (ns_own HO.out.1)
        have hw9 : want.length ≤ 930 := by omega
        have hkk9 : True := trivial
        clear hgl HO
        go_wp2_with fail
        have NGx : Hid (Ns x2 (.slice pg (want.length) cg) (want ++ ([] : List Nt).take 0)) := by unfold Hid; rw [← HGOT.out]; exact NG.out
        have NG1 := Lib.hid (ns_takeL NGx.out)
        have Q1 := Lib.hid (fun q => same_quiet _ _ _ _ (x2.drewN q) (NG1.out.below (below_draws (Below.refl _ _) q)) (NW.out.below (below_draws (Below.refl _ _) q)))
        simp only [decide_true] at Q1
        have hkl : (([] : List Nt).take 0).length = 0 := rfl
        have hkl2 : 0 ≤ ([] : List Nt).length := Nat.le_refl _
        have NG2 := Lib.hid (ns_dropL NGx.out hkl)
        have NL2 := Lib.hid (HNL.out.take 0 hkl2)
        have hkc : True := trivial
        have Q2 := Lib.hid (fun q => same_quiet _ _ _ _ (x2.drewN q) (NG2.out.below (below_draws (Below.refl _ _) q)) (NL2.out.below (below_draws (Below.refl _ _) q)))
        simp only [decide_true] at Q2
        clear hkl hkl2
        generalize want.length = W at *
        have hsub : True := trivial
        have hg1 : True := trivial
        have hg2 : True := trivial
        have hg3 : True := trivial
        have hg4 : True := trivial
        refine wp_region_quiet_lit (by kernel_rfl) (by kernel_rfl) ?_
        repeat (any_goals (first | go_big_quiet_step ((first | with_reducible exact Calls.quiet_of (Q1.out _) | with_reducible exact Calls.quiet_of (Q2.out _))) | quiet_step ((first | with_reducible exact Calls.quiet_of (Q1.out _) | with_reducible exact Calls.quiet_of (Q2.out _)))))
        refine wpQuiet_nil ?_
        intro x3 hw'
        clear Q1 Q2 NGx NG1 NG2 NL2 NW HNL hsub hg1 hg2 hg3 hg4
        generalize (if cg = W then pg else Option.map (fun x => x.add (W * 4)) pg) = PX at *
        obtain ⟨q9, rfl⟩ := hw'
        have HA := Lib.hid (HA.out.over (below_draws (Below.refl x2.heap.size x2) q9))
        have HB := Lib.hid (below_draws HB.out q9)
        have NG := Lib.hid (NG.out.below (below_draws (Below.refl x2.heap.size x2) q9))
        generalize x2.drewN q9 = x4 at *
        have HX := Lib.hid (tb_repair HA.out (crash_fit s HH.out.2.2))
        rw [HP.out.1] at HX
        go_wp2_with fail
        refine HX.out.mono ?_
        rintro e x5 ⟨rfl, T⟩
        have NG := Lib.hid (NG.out.kept T.keep (fun j e _ => HGB.out j _ _ e))
        have HA := Lib.hid T.tape
        have HB := Lib.hid (HB.out.trans (T.below.mono hsX))
        clear HX T HGB
        have HX := Lib.hid (tb_read HA.out HH.out.1.fits)
        rw [show (readL (s1.area s1.c)).1 = got by rw [HH.out.1.read]] at HX
        go_wp2_with fail
        refine HX.out.mono ?_
        rintro e x6 ⟨pr, cr, rfl, orr, ta, b⟩
        have HS := Lib.hid (same_any _ _ _ _ x6 orr.1.rd.ns (NG.out.below b))
        simp only [decide_true] at HS
        have HA := Lib.hid ta
        have HB := Lib.hid (HB.out.trans (b.mono HB.out.size))
        clear HX ta b orr NG
        go_wp2_with fail
        refine HS.out.mono ?_
        rintro e x7 ⟨rfl, b⟩
        have HA := Lib.hid (HA.out.over b)
        have HB := Lib.hid (HB.out.trans (b.mono HB.out.size))
        have HX := Lib.hid (tb_append HA.out [] (.slice none 0 0) HH.out.1.fits ⟨by simp [maxLen], .inl ⟨rfl, none, 0, rfl, by unfold maxLen; omega⟩⟩ (by simp))
        rw [HP.out.2.1] at HX
        clear HS b
        go_wp2_with fail
        refine HX.out.mono ?_
        rintro e x8 ⟨rfl, T⟩
        have HB := Lib.hid (HB.out.trans (T.below.mono hsX))
        have HX := Lib.hid (tb_repair T.tape HH.out.2.1.fits)
        rw [HP.out.2.2] at HX
        clear T HA
        go_wp2_with fail
        refine HX.out.mono ?_
        rintro e x9 ⟨rfl, T⟩
        have HB := Lib.hid (HB.out.trans (T.below.mono hsX))
        clear HX T
        go_wp2
        go_ret
        exact ⟨rfl, HB.out⟩
end Go.Proofs.Ytdclgmffgidcmaa
