/- TapePlays, walked. -/
import Derived.Test.YtdclgmffgidcmaaPlaysState
namespace Go.Proofs.Ytdclgmffgidcmaa
set_option linter.unusedSimpArgs false
set_option linter.unusedVariables false
open Go.RowKit

/-- What the loop holds. -/
def PlaysRel (w : World) (os : List OpL) (bx : Nat) (tv iv : Value) (wr : World) : Prop :=
  ∃ (k b : Nat) (F : Nat → Prop) (s : TS) (r : RT), tv = .pointer (some ⟨b, 0, none⟩) ∧ iv = .int .i64 k ∧ k ≤ os.length ∧ k ≤ 80 ∧ TapeB w.heap.size wr b F s ∧ Sim s r ∧ PBox wr bx r ∧ w.heap.size ≤ bx ∧ ¬ F bx ∧ Below w.heap.size w wr

set_option maxRecDepth 100000 in
set_option maxHeartbeats 4000000 in
theorem plays_any (v : Value) (os : List OpL) (w : World) (hv : NsO w v os) :
    Calls Try.prog 5 #[v] w fun e w' => e = .returned (.bool true) ∧ Below w.heap.size w w' := by
  obtain ⟨p, cp, rfl, hcp1, hcp2⟩ := hv.slice
  have HV := Lib.hid hv
  clear hv
  go_enter Try.func5, Try.ntmps5
  go_wp2_with fail
  refine (tb_new w w.heap.size (Nat.le_refl _)).mono ?_
  rintro e w1 ⟨rfl, ht, hb1⟩
  have HT := Lib.hid ht
  have HB := Lib.hid hb1
  have HX := Lib.hid (rnew_any w1)
  clear ht hb1
  go_wp2_with fail
  refine HX.out.mono ?_
  rintro e w2 ⟨rfl, hb2⟩
  have HT := Lib.hid (HT.out.over hb2)
  have HTL : Hid (w.heap.size < w2.heap.size) := lt_of_cell HT.out.1.isDead
  have HB := Lib.hid (HB.out.trans (hb2.mono HB.out.size))
  have hs2 := HB.out.size
  clear HX hb2
  unfold RT.val
  dsimp only
  obtain ⟨w3, e3⟩ : ∃ w3 : World, w3 = w2.alloc (.cells #[.string (str []), .string (str []), .int .i64 (-1), .bool false] 42) := ⟨_, rfl⟩
  have hbx : Hid (PBox w3 w2.heap.size ⟨[], [], -1, false⟩) := by rw [e3]; exact heap_alloc_new w2 _
  have hb3 : Below w2.heap.size w2 w3 := by rw [e3]; exact Below.alloc1 w2 _
  have HT := Lib.hid (HT.out.over hb3)
  have HB := Lib.hid (HB.out.trans (hb3.mono HB.out.size))
  have hs3 : w3.heap.size = w2.heap.size + 1 := by rw [e3]; simp
  clear hb3
  have HA := Lib.hid (awake_any w3)
  go_wp2_with fail
  rw [← e3]
  clear e3
  refine HA.out.mono ?_
  rintro e w4 ⟨rfl, hb4⟩
  have HT := Lib.hid (HT.out.over hb4)
  have HB := Lib.hid (HB.out.trans (hb4.mono HB.out.size))
  have hbx := Lib.hid (hbx.out.over hb4)
  have hs4 := hb4.size
  clear HA hb4
  have hlt0 : w.heap.size < w2.heap.size := by have h := HTL.out; exact h
  generalize hbxe : w2.heap.size = bx at *
  clear hbxe
  go_wp2_with fail
  go_loopw [3, 5] (fun tv iv wr => PlaysRel w os bx tv iv wr) (fun _ iv _ => 80 - (intOf iv).toNat)
  case atStart => exact ⟨0, _, _, _, _, rfl, rfl, Nat.zero_le _, Nat.zero_le _, HT.out, sim_new, hbx.out, hs2, fun q => by have q : bx = w.heap.size := q; omega, HB.out⟩
  case round =>
    obtain ⟨k, b, F, s, r, rfl, rfl, hk, hk8, ht, hsim, hpb, hbx1, hbx2, hbb⟩ := hrel
    have HT := Lib.hid ht
    have HS := Lib.hid hsim
    have HP := Lib.hid hpb
    have HB := Lib.hid hbb
    have hsz := hbb.size
    clear ht hsim hpb hbb hbx hs2 hs3 hs4
    by_cases hlt : k < os.length ∧ k < 80
    · obtain ⟨hlt1, hlt2⟩ := hlt
      have hlt2' : (k : Int) < 80 := by omega
      obtain ⟨b0, o0, rfl, hcs⟩ := HV.out.cells (by omega)
      obtain ⟨d0, d1, u, d2, hun⟩ := hcs k hlt1
      have lbd := lt_of_cell d0
      have c0 := (HB.out.cell (p := ⟨b0, o0 + k * 3, none⟩) lbd).trans d0
      have c1 := (HB.out.cell (p := ⟨b0, o0 + k * 3 + 1, none⟩) lbd).trans d1
      have c2 := (HB.out.cell (p := ⟨b0, o0 + k * 3 + 2, none⟩) lbd).trans d2
      clear d0 d1 d2 lbd
      obtain ⟨pu, cu, rfl, hun1, hun2⟩ := hun.slice
      unfold maxLen at hun2
      have lb0 := lt_of_cell c0
      generalize os[k] = x at *
      obtain ⟨xk, xn, l⟩ := x
      dsimp only at c0 c1 c2 hun hun1
      have HN := Lib.hid hun
      clear hcs hun
      by_cases h60 : 60 < l.length
      · have h60' : (60 : Int) < (l.length : Int) := by omega
        have HR : Hid (PlaysRel w os bx (.pointer (some ⟨b, 0, none⟩)) (.int .i64 ((k + 1 : Nat) : Int)) (wr.alloc (.cells #[.int .i64 xk, .int .i64 xn, .slice pu l.length cu] 45))) :=
          ⟨k + 1, b, F, s, r, rfl, rfl, hlt1, hlt2, HT.out.over (Below.alloc1 wr _), HS.out, HP.out.over (Below.alloc1 wr _), hbx1, hbx2, HB.out.trans ((Below.alloc1 wr _).mono HB.out.size)⟩
        clear HT HS HP HB HN HTL hlt0
        go_wp2
        go_roundw
        case rel => exact HR.out
        case measure => simp [intOf]; omega
      · have h60' : ¬ (60 : Int) < (l.length : Int) := by omega
        have hbo : Below wr.heap.size wr (wr.alloc (.cells #[.int .i64 xk, .int .i64 xn, .slice pu l.length cu] 45)) := Below.alloc1 wr _
        have hbw : Below wr.heap.size wr ((wr.alloc (.cells #[.int .i64 xk, .int .i64 xn, .slice pu l.length cu] 45)).alloc (.cells #[] 37)) := hbo.alloc (by simp) _
        have hown : Own ((wr.alloc (.cells #[.int .i64 xk, .int .i64 xn, .slice pu l.length cu] 45)).alloc (.cells #[] 37)) 37 4 0 (.slice (some ⟨wr.heap.size + 1, 0, none⟩) 0 0) [] := by
          refine ⟨by simp, .inr ⟨wr.heap.size + 1, 0, #[], rfl, ?_, Nat.le_refl _, by unfold maxLen; omega, by simp, by simp⟩⟩
          have h := heap_alloc_new (wr.alloc (.cells #[.int .i64 xk, .int .i64 xn, .slice pu l.length cu] 45)) (.cells #[] 37)
          simpa using h
        have hpo : ((wr.alloc (.cells #[.int .i64 xk, .int .i64 xn, .slice pu l.length cu] 45)).alloc (.cells #[] 37)).heap[wr.heap.size]? = some (.cells #[.int .i64 xk, .int .i64 xn, .slice pu l.length cu] 45 (0, 0)) := by
          have h := (Below.alloc1 (wr.alloc (.cells #[.int .i64 xk, .int .i64 xn, .slice pu l.length cu] 45)) (.cells #[] 37)).block wr.heap.size (by simp)
          exact h.trans (heap_alloc_new wr _)
        have hsrc := src_ns (P := Try.prog) Try.underlying29 (HN.out.below (HB.out.trans (hbw.mono HB.out.size)))
        have HOI := Lib.hid hown
        have HPO := Lib.hid hpo
        have HSR := Lib.hid hsrc
        have HBW := Lib.hid hbw
        clear hbo hbw hown hpo hsrc
        go_wp2_with (at_builtin; refine wpList_app _ rfl _ _ 29 29 37 rfl _ 4 32 Try.underlying29 Try.info_note rfl _ rfl _ _ HOI.out _ rfl l.length _ HSR.out ?h1 ?h2 ?hK)
        case h1 => unfold maxLen; omega
        case h2 => omega
        case hK =>
          intro v3 w6 ho3 hg3
          obtain ⟨p3, c3, rfl⟩ := own_slice ho3
          have hob : w.heap.size ≤ wr.heap.size := HB.out.size
          have hfr := hg3.from (B := wr.heap.size + 1) (by simp) (fun k e => by simp [Value.ownBlock] at e; omega)
          have hb6 : Below wr.heap.size wr w6 := below_grew HBW.out hg3 (by simp; omega) (fun k e => by simp [Value.ownBlock] at e; omega)
          have hbl := HP.out.lt
          have hps : PS w w6 bx wr.heap.size b F s r ⟨xk, xn, l⟩ (.slice pu l.length cu) (.slice p3 l.length c3) := by
            refine ⟨HT.out.over hb6, HP.out.over hb6, ?_, ⟨ho3, fun k hk => ⟨by have := hfr k hk; omega, fun q => absurd (HT.out.1.lt k q) (by have := hfr k hk; omega)⟩⟩, ⟨hbx2, fun q => absurd (HT.out.1.lt _ q) (by omega)⟩, ⟨by omega, hbx1, hob⟩, fun k hk => by have := hfr k hk; omega, HB.out.trans (hb6.mono hob)⟩
            exact (hg3.grown.block _ (by simp; omega) (fun e => by simp [Value.ownBlock] at e)).trans HPO.out
          have HPS := Lib.hid hps
          have hs6 := hb6.size
          clear ho3 hg3 hb6 hps HT HP HB HOI HPO HSR HBW hfr c0 c1 c2 HTL hlt0 hbx hbx2
          generalize wr.heap.size = ob at *
          obtain ⟨oc0, oc1, oc2⟩ := HPS.out.ocells
          dsimp only at oc0 oc1 oc2
          have hlo := HPS.out.oblt
          obtain ⟨⟨m0, m1, m2, m3⟩, mf⟩ := HPS.out.box.cells
          have mf0 := mf 0
          have mf1 := mf 1
          have mf2 := mf 2
          have mf3 := mf 3
          have hbl6 := HPS.out.box.lt
          clear mf
          by_cases x1 : xk = 1
          · subst x1
            obtain ⟨hc, hsm⟩ := sim_arm HS.out xn
            have hX := tb_armAny HPS.out.tape xn
            rw [hc] at hX
            have hR := fun wq => rarm_any r xn wq
            clear hc HS
            generalize r.arm xn = q at *
            obtain ⟨r', E⟩ := q
            generalize (s.arm xn).1 = s' at *
            dsimp only at hsm hX hR
            unfold RT.val at hR
            have HX := Lib.hid hX
            have HR := Lib.hid hR
            have HS := Lib.hid hsm
            clear hX hR hsm
            go_wp2_with fail
            refine HX.out.mono ?_
            rintro e w7 ⟨rfl, T⟩
            have HPS := Lib.hid (HPS.out.turn T)
            clear T HX
            clear oc0 oc1 oc2 m0 m1 m2 m3 mf0 mf1 mf2 mf3
            obtain ⟨oc0, oc1, oc2⟩ := HPS.out.ocells
            dsimp only at oc0 oc1 oc2
            obtain ⟨⟨m0, m1, m2, m3⟩, mf⟩ := HPS.out.box.cells
            have mf0 := mf 0
            have mf1 := mf 1
            have mf2 := mf 2
            have mf3 := mf 3
            have hbl6 := HPS.out.box.lt
            have hlo := HPS.out.oblt
            clear mf
            go_wp2_with fail
            refine (HR.out _).mono ?_
            rintro e w8 ⟨rfl, hb8⟩
            have HPS := Lib.hid (HPS.out.over hb8)
            clear hb8 HR
            clear oc0 oc1 oc2 m0 m1 m2 m3 mf0 mf1 mf2 mf3
            obtain ⟨oc0, oc1, oc2⟩ := HPS.out.ocells
            dsimp only at oc0 oc1 oc2
            obtain ⟨⟨m0, m1, m2, m3⟩, mf⟩ := HPS.out.box.cells
            have mf0 := mf 0
            have mf1 := mf 1
            have mf2 := mf 2
            have mf3 := mf 3
            have hbl6 := HPS.out.box.lt
            have hlo := HPS.out.oblt
            clear mf
            have HPU := Lib.hid (HPS.out.put r')
            iterate 30 (first | go_values | go_skip | go_guarded | go_step | go_upon | go_back | (simp only [Int.not_lt, Int.not_le] at *; go_simp) | (go_values <;> (try go_simp)) | (go_ite <;> go_prune <;> (try go_simp)))
            obtain ⟨w9, e9⟩ : ∃ w9 : World, (((w8.setCell ⟨bx, 0, none⟩ (.string (str r'.now))).setCell ⟨bx, 1, none⟩ (.string (str r'.other))).setCell ⟨bx, 2, none⟩ (.int .i64 r'.budget)).setCell ⟨bx, 3, none⟩ (.bool r'.dead) = w9 := ⟨_, rfl⟩
            rw [e9]
            have e10 : putW w8 bx r' = w9 := e9
            rw [e10] at HPU
            have HPS := Lib.hid HPU.out
            clear e9 e10 HPU
            clear oc0 oc1 oc2 m0 m1 m2 m3 mf0 mf1 mf2 mf3
            obtain ⟨oc0, oc1, oc2⟩ := HPS.out.ocells
            dsimp only at oc0 oc1 oc2
            obtain ⟨⟨m0, m1, m2, m3⟩, mf⟩ := HPS.out.box.cells
            have mf0 := mf 0
            have mf1 := mf 1
            have mf2 := mf 2
            have mf3 := mf 3
            have hbl6 := HPS.out.box.lt
            have hlo := HPS.out.oblt
            clear mf
            have hTL := tells_any HPS.out.tape HS.out
            unfold RT.val at hTL
            have HTL := Lib.hid hTL
            clear hTL
            go_wp2_with fail
            refine HTL.out.mono ?_
            rintro e w10 ⟨rfl, hb10⟩
            have HPS := Lib.hid (HPS.out.over hb10)
            clear hb10 HTL
            clear oc0 oc1 oc2 m0 m1 m2 m3 mf0 mf1 mf2 mf3
            obtain ⟨oc0, oc1, oc2⟩ := HPS.out.ocells
            dsimp only at oc0 oc1 oc2
            obtain ⟨⟨m0, m1, m2, m3⟩, mf⟩ := HPS.out.box.cells
            have mf0 := mf 0
            have mf1 := mf 1
            have mf2 := mf 2
            have mf3 := mf 3
            have hbl6 := HPS.out.box.lt
            have hlo := HPS.out.oblt
            clear mf
            have hSM : Calls Try.prog 15 #[.slice p3 l.length c3, .slice pu l.length cu] w10 fun e w' => e = .returned (.bool true) ∧ Below w10.heap.size w10 w' := by
              have h := same_any (.slice p3 l.length c3) (.slice pu l.length cu) l l w10 HPS.out.own.1.rd.ns (HN.out.below HPS.out.below)
              rw [decide_eq_true (rfl : l = l)] at h
              exact h
            have HSM := Lib.hid hSM
            clear hSM
            go_wp2_with fail
            refine HSM.out.mono ?_
            rintro e w11 ⟨rfl, hb11⟩
            have HPS := Lib.hid (HPS.out.over hb11)
            clear hb11 HSM
            clear oc0 oc1 oc2 m0 m1 m2 m3 mf0 mf1 mf2 mf3
            obtain ⟨oc0, oc1, oc2⟩ := HPS.out.ocells
            dsimp only at oc0 oc1 oc2
            obtain ⟨⟨m0, m1, m2, m3⟩, mf⟩ := HPS.out.box.cells
            have mf0 := mf 0
            have mf1 := mf 1
            have mf2 := mf 2
            have mf3 := mf 3
            have hbl6 := HPS.out.box.lt
            have hlo := HPS.out.oblt
            clear mf
            obtain ⟨F', HPS⟩ : ∃ F', Hid (PS w w11 bx ob b F' s' r' ⟨1, xn, l⟩ (.slice pu l.length cu) (.slice p3 l.length c3)) := ⟨_, HPS⟩
            clear oc0 oc1 oc2 m0 m1 m2 m3 mf0 mf1 mf2 mf3
            obtain ⟨g, hg, hg1, hg2, hg3⟩ : ∃ g, (0 < l.length → p3 = some ⟨g, 0, none⟩ ∧ ∀ j, j < l.length → (∃ z : Int, w11.cell? ⟨g, j * 4 + 1, none⟩ = some (.int .i64 z)) ∧ w11.frozen? ⟨g, j * 4 + 1, none⟩ = false) ∧ w.heap.size ≤ g ∧ ¬ F' g ∧ g ≠ bx := by
              rcases HPS.out.own.1.shape with ⟨_, h0, _⟩ | ⟨g, c, hv, _, _, hgs, hc⟩
              · exact ⟨w11.heap.size, fun h => by simp only at h0; omega, HPS.out.below.size, fun q => absurd (HPS.out.tape.1.lt _ q) (by omega), by omega⟩
              · cases hv
                refine ⟨g, fun _ => ⟨rfl, fun j hj => ⟨⟨(l[j]).a, ?_⟩, (hc (j * 4 + 1) (by simp only; omega)).2⟩⟩, (HPS.out.own.2 g rfl).1, (HPS.out.own.2 g rfl).2, (HPS.out.nv g rfl).1⟩
                rw [(hc (j * 4 + 1) (by simp only; omega)).1]
                show (cellsL l)[j * 4 + 1]? = _
                rw [cellsL_at l j 1 hj (by omega)]
                rfl
            have HG := Lib.hid hg
            have hc3 : l.length ≤ c3 ∧ c3 ≤ 2 ^ 63 - 1 := by
              obtain ⟨p', c', hv, h1, h2⟩ := HPS.out.own.1.rd.ns.slice
              cases hv
              exact ⟨h1, h2⟩
            obtain ⟨hc31, hc32⟩ := hc3
            clear hg
            go_wp2_with fail
            go_loopw [132] (fun iv wr2 => BumpRel w11 (fun k => k = g) g l.length iv wr2) (fun iv _ => l.length - (intOf iv).toNat)
            case atStart => exact ⟨0, rfl, Nat.zero_le _, Keep.refl _ _, fun j hj => (HG.out (by omega)).2 j hj⟩
            case round =>
              obtain ⟨i, rfl, hi, K, hc⟩ := hrel
              by_cases hilt : i < l.length
              · obtain ⟨rfl, _⟩ := HG.out (by omega)
                obtain ⟨⟨zz, cc0⟩, ff0⟩ := hc i hilt
                have lg := lt_of_cell cc0
                have HR := Lib.hid (fun x => bump_step (g := g) (S := fun k => k = g) rfl hilt K hc x)
                clear hc K HPS HN HS HG
                go_wp2
                go_roundw
                case rel => exact HR.out _
                case measure => simp [intOf]; omega
              · have HR : Hid (PlaysRel w os bx (.pointer (some ⟨b, 0, none⟩)) (.int .i64 ((k + 1 : Nat) : Int)) wr) :=
                  ⟨k + 1, b, F', s', r', rfl, rfl, hlt1, hlt2, ⟨HPS.out.tape.1.kept K (fun j hj e => by have e : j = g := e; exact hg2 (e ▸ hj)), HPS.out.tape.2.1, Nat.le_trans HPS.out.tape.2.2 K.size⟩, HS.out, HPS.out.box.kept K (fun e => hg3 (Eq.symm e)), hbx1, HPS.out.nF.1,
                    HPS.out.below.trans ⟨K.os, K.tape, K.output, K.size, fun j hj => K.block j (Nat.lt_of_lt_of_le hj HPS.out.below.size) (fun e => by have e : j = g := e; omega)⟩⟩
                have hile : ¬ ((i : Int) < (l.length : Int)) := by omega
                clear hc K HPS HN HS HG
                go_wp2
                go_roundw
                case rel => exact HR.out
                case measure => simp [intOf]; omega
          · by_cases x2 : xk = 2
            · subst x2
              obtain ⟨hc, hsm⟩ := sim_append HS.out l
              have hX := tb_append HPS.out.tape l (.slice p3 l.length c3) HS.out.fit HPS.out.own.1.rd.ns (Nat.le_trans (Nat.le_of_not_lt h60) (by decide))
              rw [hc] at hX
              have hbl := bud_le HS.out.bud
              have hnl : r.now.length ≤ 2 ^ 16 := by rw [HS.out.now]; exact HS.out.fit.area _
              have hol : r.other.length ≤ 2 ^ 16 := by rw [HS.out.other]; exact HS.out.fit.area _
              have hR := fun wq hq => rappend_any r (.slice pu l.length cu) l wq hbl hnl hq (Nat.le_trans (Nat.le_of_not_lt h60) (by decide))
              clear hbl hnl hol
              clear hc HS
              generalize r.append l = q at *
              obtain ⟨r', E⟩ := q
              generalize (s.append l).1 = s' at *
              dsimp only at hsm hX hR
              unfold RT.val at hR
              have HX := Lib.hid hX
              have HR := Lib.hid hR
              have HS := Lib.hid hsm
              clear hX hR hsm
              go_wp2_with fail
              refine HX.out.mono ?_
              rintro e w7 ⟨rfl, T⟩
              have HPS := Lib.hid (HPS.out.turn T)
              clear T HX
              clear oc0 oc1 oc2 m0 m1 m2 m3 mf0 mf1 mf2 mf3
              obtain ⟨oc0, oc1, oc2⟩ := HPS.out.ocells
              dsimp only at oc0 oc1 oc2
              obtain ⟨⟨m0, m1, m2, m3⟩, mf⟩ := HPS.out.box.cells
              have mf0 := mf 0
              have mf1 := mf 1
              have mf2 := mf 2
              have mf3 := mf 3
              have hbl6 := HPS.out.box.lt
              have hlo := HPS.out.oblt
              clear mf
              go_wp2_with fail
              refine (HR.out _ (HN.out.below HPS.out.below)).mono ?_
              rintro e w8 ⟨rfl, hb8⟩
              have HPS := Lib.hid (HPS.out.over hb8)
              clear hb8 HR
              clear oc0 oc1 oc2 m0 m1 m2 m3 mf0 mf1 mf2 mf3
              obtain ⟨oc0, oc1, oc2⟩ := HPS.out.ocells
              dsimp only at oc0 oc1 oc2
              obtain ⟨⟨m0, m1, m2, m3⟩, mf⟩ := HPS.out.box.cells
              have mf0 := mf 0
              have mf1 := mf 1
              have mf2 := mf 2
              have mf3 := mf 3
              have hbl6 := HPS.out.box.lt
              have hlo := HPS.out.oblt
              clear mf
              have HPU := Lib.hid (HPS.out.put r')
              iterate 30 (first | go_values | go_skip | go_guarded | go_step | go_upon | go_back | (simp only [Int.not_lt, Int.not_le] at *; go_simp) | (go_values <;> (try go_simp)) | (go_ite <;> go_prune <;> (try go_simp)))
              obtain ⟨w9, e9⟩ : ∃ w9 : World, (((w8.setCell ⟨bx, 0, none⟩ (.string (str r'.now))).setCell ⟨bx, 1, none⟩ (.string (str r'.other))).setCell ⟨bx, 2, none⟩ (.int .i64 r'.budget)).setCell ⟨bx, 3, none⟩ (.bool r'.dead) = w9 := ⟨_, rfl⟩
              rw [e9]
              have e10 : putW w8 bx r' = w9 := e9
              rw [e10] at HPU
              have HPS := Lib.hid HPU.out
              clear e9 e10 HPU
              clear oc0 oc1 oc2 m0 m1 m2 m3 mf0 mf1 mf2 mf3
              obtain ⟨oc0, oc1, oc2⟩ := HPS.out.ocells
              dsimp only at oc0 oc1 oc2
              obtain ⟨⟨m0, m1, m2, m3⟩, mf⟩ := HPS.out.box.cells
              have mf0 := mf 0
              have mf1 := mf 1
              have mf2 := mf 2
              have mf3 := mf 3
              have hbl6 := HPS.out.box.lt
              have hlo := HPS.out.oblt
              clear mf
              have hTL := tells_any HPS.out.tape HS.out
              unfold RT.val at hTL
              have HTL := Lib.hid hTL
              clear hTL
              go_wp2_with fail
              refine HTL.out.mono ?_
              rintro e w10 ⟨rfl, hb10⟩
              have HPS := Lib.hid (HPS.out.over hb10)
              clear hb10 HTL
              clear oc0 oc1 oc2 m0 m1 m2 m3 mf0 mf1 mf2 mf3
              obtain ⟨oc0, oc1, oc2⟩ := HPS.out.ocells
              dsimp only at oc0 oc1 oc2
              obtain ⟨⟨m0, m1, m2, m3⟩, mf⟩ := HPS.out.box.cells
              have mf0 := mf 0
              have mf1 := mf 1
              have mf2 := mf 2
              have mf3 := mf 3
              have hbl6 := HPS.out.box.lt
              have hlo := HPS.out.oblt
              clear mf
              have hSM : Calls Try.prog 15 #[.slice p3 l.length c3, .slice pu l.length cu] w10 fun e w' => e = .returned (.bool true) ∧ Below w10.heap.size w10 w' := by
                have h := same_any (.slice p3 l.length c3) (.slice pu l.length cu) l l w10 HPS.out.own.1.rd.ns (HN.out.below HPS.out.below)
                rw [decide_eq_true (rfl : l = l)] at h
                exact h
              have HSM := Lib.hid hSM
              clear hSM
              go_wp2_with fail
              refine HSM.out.mono ?_
              rintro e w11 ⟨rfl, hb11⟩
              have HPS := Lib.hid (HPS.out.over hb11)
              clear hb11 HSM
              clear oc0 oc1 oc2 m0 m1 m2 m3 mf0 mf1 mf2 mf3
              obtain ⟨oc0, oc1, oc2⟩ := HPS.out.ocells
              dsimp only at oc0 oc1 oc2
              obtain ⟨⟨m0, m1, m2, m3⟩, mf⟩ := HPS.out.box.cells
              have mf0 := mf 0
              have mf1 := mf 1
              have mf2 := mf 2
              have mf3 := mf 3
              have hbl6 := HPS.out.box.lt
              have hlo := HPS.out.oblt
              clear mf
              obtain ⟨F', HPS⟩ : ∃ F', Hid (PS w w11 bx ob b F' s' r' ⟨2, xn, l⟩ (.slice pu l.length cu) (.slice p3 l.length c3)) := ⟨_, HPS⟩
              clear oc0 oc1 oc2 m0 m1 m2 m3 mf0 mf1 mf2 mf3
              obtain ⟨g, hg, hg1, hg2, hg3⟩ : ∃ g, (0 < l.length → p3 = some ⟨g, 0, none⟩ ∧ ∀ j, j < l.length → (∃ z : Int, w11.cell? ⟨g, j * 4 + 1, none⟩ = some (.int .i64 z)) ∧ w11.frozen? ⟨g, j * 4 + 1, none⟩ = false) ∧ w.heap.size ≤ g ∧ ¬ F' g ∧ g ≠ bx := by
                rcases HPS.out.own.1.shape with ⟨_, h0, _⟩ | ⟨g, c, hv, _, _, hgs, hc⟩
                · exact ⟨w11.heap.size, fun h => by simp only at h0; omega, HPS.out.below.size, fun q => absurd (HPS.out.tape.1.lt _ q) (by omega), by omega⟩
                · cases hv
                  refine ⟨g, fun _ => ⟨rfl, fun j hj => ⟨⟨(l[j]).a, ?_⟩, (hc (j * 4 + 1) (by simp only; omega)).2⟩⟩, (HPS.out.own.2 g rfl).1, (HPS.out.own.2 g rfl).2, (HPS.out.nv g rfl).1⟩
                  rw [(hc (j * 4 + 1) (by simp only; omega)).1]
                  show (cellsL l)[j * 4 + 1]? = _
                  rw [cellsL_at l j 1 hj (by omega)]
                  rfl
              have HG := Lib.hid hg
              have hc3 : l.length ≤ c3 ∧ c3 ≤ 2 ^ 63 - 1 := by
                obtain ⟨p', c', hv, h1, h2⟩ := HPS.out.own.1.rd.ns.slice
                cases hv
                exact ⟨h1, h2⟩
              obtain ⟨hc31, hc32⟩ := hc3
              clear hg
              go_wp2_with fail
              go_loopw [132] (fun iv wr2 => BumpRel w11 (fun k => k = g) g l.length iv wr2) (fun iv _ => l.length - (intOf iv).toNat)
              case atStart => exact ⟨0, rfl, Nat.zero_le _, Keep.refl _ _, fun j hj => (HG.out (by omega)).2 j hj⟩
              case round =>
                obtain ⟨i, rfl, hi, K, hc⟩ := hrel
                by_cases hilt : i < l.length
                · obtain ⟨rfl, _⟩ := HG.out (by omega)
                  obtain ⟨⟨zz, cc0⟩, ff0⟩ := hc i hilt
                  have lg := lt_of_cell cc0
                  have HR := Lib.hid (fun x => bump_step (g := g) (S := fun k => k = g) rfl hilt K hc x)
                  clear hc K HPS HN HS HG
                  go_wp2
                  go_roundw
                  case rel => exact HR.out _
                  case measure => simp [intOf]; omega
                · have HR : Hid (PlaysRel w os bx (.pointer (some ⟨b, 0, none⟩)) (.int .i64 ((k + 1 : Nat) : Int)) wr) :=
                    ⟨k + 1, b, F', s', r', rfl, rfl, hlt1, hlt2, ⟨HPS.out.tape.1.kept K (fun j hj e => by have e : j = g := e; exact hg2 (e ▸ hj)), HPS.out.tape.2.1, Nat.le_trans HPS.out.tape.2.2 K.size⟩, HS.out, HPS.out.box.kept K (fun e => hg3 (Eq.symm e)), hbx1, HPS.out.nF.1,
                      HPS.out.below.trans ⟨K.os, K.tape, K.output, K.size, fun j hj => K.block j (Nat.lt_of_lt_of_le hj HPS.out.below.size) (fun e => by have e : j = g := e; omega)⟩⟩
                  have hile : ¬ ((i : Int) < (l.length : Int)) := by omega
                  clear hc K HPS HN HS HG
                  go_wp2
                  go_roundw
                  case rel => exact HR.out
                  case measure => simp [intOf]; omega
            · by_cases x3 : xk = 3
              · subst x3
                obtain ⟨hc, hsm⟩ := sim_compact HS.out l
                have hX := tb_compact HPS.out.tape l (.slice p3 l.length c3) HS.out.fit HPS.out.own.1.rd.ns (Nat.le_trans (Nat.le_of_not_lt h60) (by decide))
                rw [hc] at hX
                have hbl := bud_le HS.out.bud
                have hnl : r.now.length ≤ 2 ^ 16 := by rw [HS.out.now]; exact HS.out.fit.area _
                have hol : r.other.length ≤ 2 ^ 16 := by rw [HS.out.other]; exact HS.out.fit.area _
                have hR := fun wq hq => rcompact_any r (.slice pu l.length cu) l wq hbl hol hq (Nat.le_trans (Nat.le_of_not_lt h60) (by decide))
                clear hbl hnl hol
                clear hc HS
                generalize r.compact l = q at *
                obtain ⟨r', E⟩ := q
                generalize (s.compact l).1 = s' at *
                dsimp only at hsm hX hR
                unfold RT.val at hR
                have HX := Lib.hid hX
                have HR := Lib.hid hR
                have HS := Lib.hid hsm
                clear hX hR hsm
                go_wp2_with fail
                refine HX.out.mono ?_
                rintro e w7 ⟨rfl, T⟩
                have HPS := Lib.hid (HPS.out.turn T)
                clear T HX
                clear oc0 oc1 oc2 m0 m1 m2 m3 mf0 mf1 mf2 mf3
                obtain ⟨oc0, oc1, oc2⟩ := HPS.out.ocells
                dsimp only at oc0 oc1 oc2
                obtain ⟨⟨m0, m1, m2, m3⟩, mf⟩ := HPS.out.box.cells
                have mf0 := mf 0
                have mf1 := mf 1
                have mf2 := mf 2
                have mf3 := mf 3
                have hbl6 := HPS.out.box.lt
                have hlo := HPS.out.oblt
                clear mf
                go_wp2_with fail
                refine (HR.out _ (HN.out.below HPS.out.below)).mono ?_
                rintro e w8 ⟨rfl, hb8⟩
                have HPS := Lib.hid (HPS.out.over hb8)
                clear hb8 HR
                clear oc0 oc1 oc2 m0 m1 m2 m3 mf0 mf1 mf2 mf3
                obtain ⟨oc0, oc1, oc2⟩ := HPS.out.ocells
                dsimp only at oc0 oc1 oc2
                obtain ⟨⟨m0, m1, m2, m3⟩, mf⟩ := HPS.out.box.cells
                have mf0 := mf 0
                have mf1 := mf 1
                have mf2 := mf 2
                have mf3 := mf 3
                have hbl6 := HPS.out.box.lt
                have hlo := HPS.out.oblt
                clear mf
                have HPU := Lib.hid (HPS.out.put r')
                iterate 30 (first | go_values | go_skip | go_guarded | go_step | go_upon | go_back | (simp only [Int.not_lt, Int.not_le] at *; go_simp) | (go_values <;> (try go_simp)) | (go_ite <;> go_prune <;> (try go_simp)))
                obtain ⟨w9, e9⟩ : ∃ w9 : World, (((w8.setCell ⟨bx, 0, none⟩ (.string (str r'.now))).setCell ⟨bx, 1, none⟩ (.string (str r'.other))).setCell ⟨bx, 2, none⟩ (.int .i64 r'.budget)).setCell ⟨bx, 3, none⟩ (.bool r'.dead) = w9 := ⟨_, rfl⟩
                rw [e9]
                have e10 : putW w8 bx r' = w9 := e9
                rw [e10] at HPU
                have HPS := Lib.hid HPU.out
                clear e9 e10 HPU
                clear oc0 oc1 oc2 m0 m1 m2 m3 mf0 mf1 mf2 mf3
                obtain ⟨oc0, oc1, oc2⟩ := HPS.out.ocells
                dsimp only at oc0 oc1 oc2
                obtain ⟨⟨m0, m1, m2, m3⟩, mf⟩ := HPS.out.box.cells
                have mf0 := mf 0
                have mf1 := mf 1
                have mf2 := mf 2
                have mf3 := mf 3
                have hbl6 := HPS.out.box.lt
                have hlo := HPS.out.oblt
                clear mf
                have hTL := tells_any HPS.out.tape HS.out
                unfold RT.val at hTL
                have HTL := Lib.hid hTL
                clear hTL
                go_wp2_with fail
                refine HTL.out.mono ?_
                rintro e w10 ⟨rfl, hb10⟩
                have HPS := Lib.hid (HPS.out.over hb10)
                clear hb10 HTL
                clear oc0 oc1 oc2 m0 m1 m2 m3 mf0 mf1 mf2 mf3
                obtain ⟨oc0, oc1, oc2⟩ := HPS.out.ocells
                dsimp only at oc0 oc1 oc2
                obtain ⟨⟨m0, m1, m2, m3⟩, mf⟩ := HPS.out.box.cells
                have mf0 := mf 0
                have mf1 := mf 1
                have mf2 := mf 2
                have mf3 := mf 3
                have hbl6 := HPS.out.box.lt
                have hlo := HPS.out.oblt
                clear mf
                have hSM : Calls Try.prog 15 #[.slice p3 l.length c3, .slice pu l.length cu] w10 fun e w' => e = .returned (.bool true) ∧ Below w10.heap.size w10 w' := by
                  have h := same_any (.slice p3 l.length c3) (.slice pu l.length cu) l l w10 HPS.out.own.1.rd.ns (HN.out.below HPS.out.below)
                  rw [decide_eq_true (rfl : l = l)] at h
                  exact h
                have HSM := Lib.hid hSM
                clear hSM
                go_wp2_with fail
                refine HSM.out.mono ?_
                rintro e w11 ⟨rfl, hb11⟩
                have HPS := Lib.hid (HPS.out.over hb11)
                clear hb11 HSM
                clear oc0 oc1 oc2 m0 m1 m2 m3 mf0 mf1 mf2 mf3
                obtain ⟨oc0, oc1, oc2⟩ := HPS.out.ocells
                dsimp only at oc0 oc1 oc2
                obtain ⟨⟨m0, m1, m2, m3⟩, mf⟩ := HPS.out.box.cells
                have mf0 := mf 0
                have mf1 := mf 1
                have mf2 := mf 2
                have mf3 := mf 3
                have hbl6 := HPS.out.box.lt
                have hlo := HPS.out.oblt
                clear mf
                obtain ⟨F', HPS⟩ : ∃ F', Hid (PS w w11 bx ob b F' s' r' ⟨3, xn, l⟩ (.slice pu l.length cu) (.slice p3 l.length c3)) := ⟨_, HPS⟩
                clear oc0 oc1 oc2 m0 m1 m2 m3 mf0 mf1 mf2 mf3
                obtain ⟨g, hg, hg1, hg2, hg3⟩ : ∃ g, (0 < l.length → p3 = some ⟨g, 0, none⟩ ∧ ∀ j, j < l.length → (∃ z : Int, w11.cell? ⟨g, j * 4 + 1, none⟩ = some (.int .i64 z)) ∧ w11.frozen? ⟨g, j * 4 + 1, none⟩ = false) ∧ w.heap.size ≤ g ∧ ¬ F' g ∧ g ≠ bx := by
                  rcases HPS.out.own.1.shape with ⟨_, h0, _⟩ | ⟨g, c, hv, _, _, hgs, hc⟩
                  · exact ⟨w11.heap.size, fun h => by simp only at h0; omega, HPS.out.below.size, fun q => absurd (HPS.out.tape.1.lt _ q) (by omega), by omega⟩
                  · cases hv
                    refine ⟨g, fun _ => ⟨rfl, fun j hj => ⟨⟨(l[j]).a, ?_⟩, (hc (j * 4 + 1) (by simp only; omega)).2⟩⟩, (HPS.out.own.2 g rfl).1, (HPS.out.own.2 g rfl).2, (HPS.out.nv g rfl).1⟩
                    rw [(hc (j * 4 + 1) (by simp only; omega)).1]
                    show (cellsL l)[j * 4 + 1]? = _
                    rw [cellsL_at l j 1 hj (by omega)]
                    rfl
                have HG := Lib.hid hg
                have hc3 : l.length ≤ c3 ∧ c3 ≤ 2 ^ 63 - 1 := by
                  obtain ⟨p', c', hv, h1, h2⟩ := HPS.out.own.1.rd.ns.slice
                  cases hv
                  exact ⟨h1, h2⟩
                obtain ⟨hc31, hc32⟩ := hc3
                clear hg
                go_wp2_with fail
                go_loopw [132] (fun iv wr2 => BumpRel w11 (fun k => k = g) g l.length iv wr2) (fun iv _ => l.length - (intOf iv).toNat)
                case atStart => exact ⟨0, rfl, Nat.zero_le _, Keep.refl _ _, fun j hj => (HG.out (by omega)).2 j hj⟩
                case round =>
                  obtain ⟨i, rfl, hi, K, hc⟩ := hrel
                  by_cases hilt : i < l.length
                  · obtain ⟨rfl, _⟩ := HG.out (by omega)
                    obtain ⟨⟨zz, cc0⟩, ff0⟩ := hc i hilt
                    have lg := lt_of_cell cc0
                    have HR := Lib.hid (fun x => bump_step (g := g) (S := fun k => k = g) rfl hilt K hc x)
                    clear hc K HPS HN HS HG
                    go_wp2
                    go_roundw
                    case rel => exact HR.out _
                    case measure => simp [intOf]; omega
                  · have HR : Hid (PlaysRel w os bx (.pointer (some ⟨b, 0, none⟩)) (.int .i64 ((k + 1 : Nat) : Int)) wr) :=
                      ⟨k + 1, b, F', s', r', rfl, rfl, hlt1, hlt2, ⟨HPS.out.tape.1.kept K (fun j hj e => by have e : j = g := e; exact hg2 (e ▸ hj)), HPS.out.tape.2.1, Nat.le_trans HPS.out.tape.2.2 K.size⟩, HS.out, HPS.out.box.kept K (fun e => hg3 (Eq.symm e)), hbx1, HPS.out.nF.1,
                        HPS.out.below.trans ⟨K.os, K.tape, K.output, K.size, fun j hj => K.block j (Nat.lt_of_lt_of_le hj HPS.out.below.size) (fun e => by have e : j = g := e; omega)⟩⟩
                    have hile : ¬ ((i : Int) < (l.length : Int)) := by omega
                    clear hc K HPS HN HS HG
                    go_wp2
                    go_roundw
                    case rel => exact HR.out
                    case measure => simp [intOf]; omega
              · by_cases x4 : xk = 4
                · subst x4
                  obtain ⟨hc, hsm⟩ := sim_repair HS.out
                  have hX := tb_repair HPS.out.tape HS.out.fit
                  rw [hc] at hX
                  have hbl := bud_le HS.out.bud
                  have hnl : r.now.length ≤ 2 ^ 17 := by have h : r.now.length ≤ 2 ^ 16 := (by rw [HS.out.now]; exact HS.out.fit.area _); omega
                  have hR := fun wq => rrepair_any r wq hbl hnl
                  clear hc HS hbl hnl
                  generalize r.repair = q at *
                  obtain ⟨r', n1, E⟩ := q
                  generalize s.repair.1 = s' at *
                  dsimp only at hsm hX hR
                  unfold RT.val at hR
                  have HX := Lib.hid hX
                  have HR := Lib.hid hR
                  have HS := Lib.hid hsm
                  clear hX hR hsm
                  go_wp2_with fail
                  refine HX.out.mono ?_
                  rintro e w7 ⟨rfl, T⟩
                  have HPS := Lib.hid (HPS.out.turn T)
                  clear T HX
                  clear oc0 oc1 oc2 m0 m1 m2 m3 mf0 mf1 mf2 mf3
                  obtain ⟨oc0, oc1, oc2⟩ := HPS.out.ocells
                  dsimp only at oc0 oc1 oc2
                  obtain ⟨⟨m0, m1, m2, m3⟩, mf⟩ := HPS.out.box.cells
                  have mf0 := mf 0
                  have mf1 := mf 1
                  have mf2 := mf 2
                  have mf3 := mf 3
                  have hbl6 := HPS.out.box.lt
                  have hlo := HPS.out.oblt
                  clear mf
                  go_wp2_with fail
                  refine (HR.out _).mono ?_
                  rintro e w8 ⟨rfl, hb8⟩
                  have HPS := Lib.hid (HPS.out.over hb8)
                  clear hb8 HR
                  clear oc0 oc1 oc2 m0 m1 m2 m3 mf0 mf1 mf2 mf3
                  obtain ⟨oc0, oc1, oc2⟩ := HPS.out.ocells
                  dsimp only at oc0 oc1 oc2
                  obtain ⟨⟨m0, m1, m2, m3⟩, mf⟩ := HPS.out.box.cells
                  have mf0 := mf 0
                  have mf1 := mf 1
                  have mf2 := mf 2
                  have mf3 := mf 3
                  have hbl6 := HPS.out.box.lt
                  have hlo := HPS.out.oblt
                  clear mf
                  have HPU := Lib.hid (HPS.out.put r')
                  iterate 30 (first | go_values | go_skip | go_guarded | go_step | go_upon | go_back | (simp only [Int.not_lt, Int.not_le] at *; go_simp) | (go_values <;> (try go_simp)) | (go_ite <;> go_prune <;> (try go_simp)))
                  obtain ⟨w9, e9⟩ : ∃ w9 : World, (((w8.setCell ⟨bx, 0, none⟩ (.string (str r'.now))).setCell ⟨bx, 1, none⟩ (.string (str r'.other))).setCell ⟨bx, 2, none⟩ (.int .i64 r'.budget)).setCell ⟨bx, 3, none⟩ (.bool r'.dead) = w9 := ⟨_, rfl⟩
                  rw [e9]
                  have e10 : putW w8 bx r' = w9 := e9
                  rw [e10] at HPU
                  have HPS := Lib.hid HPU.out
                  clear e9 e10 HPU
                  clear oc0 oc1 oc2 m0 m1 m2 m3 mf0 mf1 mf2 mf3
                  obtain ⟨oc0, oc1, oc2⟩ := HPS.out.ocells
                  dsimp only at oc0 oc1 oc2
                  obtain ⟨⟨m0, m1, m2, m3⟩, mf⟩ := HPS.out.box.cells
                  have mf0 := mf 0
                  have mf1 := mf 1
                  have mf2 := mf 2
                  have mf3 := mf 3
                  have hbl6 := HPS.out.box.lt
                  have hlo := HPS.out.oblt
                  clear mf
                  have hTL := tells_any HPS.out.tape HS.out
                  unfold RT.val at hTL
                  have HTL := Lib.hid hTL
                  clear hTL
                  go_wp2_with fail
                  refine HTL.out.mono ?_
                  rintro e w10 ⟨rfl, hb10⟩
                  have HPS := Lib.hid (HPS.out.over hb10)
                  clear hb10 HTL
                  clear oc0 oc1 oc2 m0 m1 m2 m3 mf0 mf1 mf2 mf3
                  obtain ⟨oc0, oc1, oc2⟩ := HPS.out.ocells
                  dsimp only at oc0 oc1 oc2
                  obtain ⟨⟨m0, m1, m2, m3⟩, mf⟩ := HPS.out.box.cells
                  have mf0 := mf 0
                  have mf1 := mf 1
                  have mf2 := mf 2
                  have mf3 := mf 3
                  have hbl6 := HPS.out.box.lt
                  have hlo := HPS.out.oblt
                  clear mf
                  have hSM : Calls Try.prog 15 #[.slice p3 l.length c3, .slice pu l.length cu] w10 fun e w' => e = .returned (.bool true) ∧ Below w10.heap.size w10 w' := by
                    have h := same_any (.slice p3 l.length c3) (.slice pu l.length cu) l l w10 HPS.out.own.1.rd.ns (HN.out.below HPS.out.below)
                    rw [decide_eq_true (rfl : l = l)] at h
                    exact h
                  have HSM := Lib.hid hSM
                  clear hSM
                  go_wp2_with fail
                  refine HSM.out.mono ?_
                  rintro e w11 ⟨rfl, hb11⟩
                  have HPS := Lib.hid (HPS.out.over hb11)
                  clear hb11 HSM
                  clear oc0 oc1 oc2 m0 m1 m2 m3 mf0 mf1 mf2 mf3
                  obtain ⟨oc0, oc1, oc2⟩ := HPS.out.ocells
                  dsimp only at oc0 oc1 oc2
                  obtain ⟨⟨m0, m1, m2, m3⟩, mf⟩ := HPS.out.box.cells
                  have mf0 := mf 0
                  have mf1 := mf 1
                  have mf2 := mf 2
                  have mf3 := mf 3
                  have hbl6 := HPS.out.box.lt
                  have hlo := HPS.out.oblt
                  clear mf
                  obtain ⟨F', HPS⟩ : ∃ F', Hid (PS w w11 bx ob b F' s' r' ⟨4, xn, l⟩ (.slice pu l.length cu) (.slice p3 l.length c3)) := ⟨_, HPS⟩
                  clear oc0 oc1 oc2 m0 m1 m2 m3 mf0 mf1 mf2 mf3
                  obtain ⟨g, hg, hg1, hg2, hg3⟩ : ∃ g, (0 < l.length → p3 = some ⟨g, 0, none⟩ ∧ ∀ j, j < l.length → (∃ z : Int, w11.cell? ⟨g, j * 4 + 1, none⟩ = some (.int .i64 z)) ∧ w11.frozen? ⟨g, j * 4 + 1, none⟩ = false) ∧ w.heap.size ≤ g ∧ ¬ F' g ∧ g ≠ bx := by
                    rcases HPS.out.own.1.shape with ⟨_, h0, _⟩ | ⟨g, c, hv, _, _, hgs, hc⟩
                    · exact ⟨w11.heap.size, fun h => by simp only at h0; omega, HPS.out.below.size, fun q => absurd (HPS.out.tape.1.lt _ q) (by omega), by omega⟩
                    · cases hv
                      refine ⟨g, fun _ => ⟨rfl, fun j hj => ⟨⟨(l[j]).a, ?_⟩, (hc (j * 4 + 1) (by simp only; omega)).2⟩⟩, (HPS.out.own.2 g rfl).1, (HPS.out.own.2 g rfl).2, (HPS.out.nv g rfl).1⟩
                      rw [(hc (j * 4 + 1) (by simp only; omega)).1]
                      show (cellsL l)[j * 4 + 1]? = _
                      rw [cellsL_at l j 1 hj (by omega)]
                      rfl
                  have HG := Lib.hid hg
                  have hc3 : l.length ≤ c3 ∧ c3 ≤ 2 ^ 63 - 1 := by
                    obtain ⟨p', c', hv, h1, h2⟩ := HPS.out.own.1.rd.ns.slice
                    cases hv
                    exact ⟨h1, h2⟩
                  obtain ⟨hc31, hc32⟩ := hc3
                  clear hg
                  go_wp2_with fail
                  go_loopw [132] (fun iv wr2 => BumpRel w11 (fun k => k = g) g l.length iv wr2) (fun iv _ => l.length - (intOf iv).toNat)
                  case atStart => exact ⟨0, rfl, Nat.zero_le _, Keep.refl _ _, fun j hj => (HG.out (by omega)).2 j hj⟩
                  case round =>
                    obtain ⟨i, rfl, hi, K, hc⟩ := hrel
                    by_cases hilt : i < l.length
                    · obtain ⟨rfl, _⟩ := HG.out (by omega)
                      obtain ⟨⟨zz, cc0⟩, ff0⟩ := hc i hilt
                      have lg := lt_of_cell cc0
                      have HR := Lib.hid (fun x => bump_step (g := g) (S := fun k => k = g) rfl hilt K hc x)
                      clear hc K HPS HN HS HG
                      go_wp2
                      go_roundw
                      case rel => exact HR.out _
                      case measure => simp [intOf]; omega
                    · have HR : Hid (PlaysRel w os bx (.pointer (some ⟨b, 0, none⟩)) (.int .i64 ((k + 1 : Nat) : Int)) wr) :=
                        ⟨k + 1, b, F', s', r', rfl, rfl, hlt1, hlt2, ⟨HPS.out.tape.1.kept K (fun j hj e => by have e : j = g := e; exact hg2 (e ▸ hj)), HPS.out.tape.2.1, Nat.le_trans HPS.out.tape.2.2 K.size⟩, HS.out, HPS.out.box.kept K (fun e => hg3 (Eq.symm e)), hbx1, HPS.out.nF.1,
                          HPS.out.below.trans ⟨K.os, K.tape, K.output, K.size, fun j hj => K.block j (Nat.lt_of_lt_of_le hj HPS.out.below.size) (fun e => by have e : j = g := e; omega)⟩⟩
                      have hile : ¬ ((i : Int) < (l.length : Int)) := by omega
                      clear hc K HPS HN HS HG
                      go_wp2
                      go_roundw
                      case rel => exact HR.out
                      case measure => simp [intOf]; omega
                · by_cases x5 : xk = 5
                  · subst x5
                    have hX := tb_crash HPS.out.tape HS.out.fit
                    have HX := Lib.hid hX
                    have hF := Lib.hid (fun k (q : F k) => HPS.out.tape.1.lt k q)
                    have hV := Lib.hid (fun k (q : (Value.slice p3 l.length c3).ownBlock = some k) => HPS.out.own.1.lt k q)
                    have hB6 := HPS.out.below.size
                    have hbx6 := hbl6
                    have hob6 := hlo
                    have hR := fun wq => rcrash_any r wq
                    have hsm := sim_crash HS.out
                    have HFT := Lib.hid HS.out.fit
                    clear hX HS
                    go_wp2_with fail
                    refine HX.out.mono ?_
                    rintro e w7 ⟨b', rfl, tn, tu, hb7⟩
                    have hs67 := hb7.size
                    have HPS := Lib.hid ((HPS.out.over hb7).over (Below.alloc1 w7 (.cells #[.int .i64 6, .int .i64 9, .int .i64 0, .int .i64 0] 37)))
                    have TN := Lib.hid (tn.over (Below.alloc1 w7 (.cells #[.int .i64 6, .int .i64 9, .int .i64 0, .int .i64 0] 37)))
                    have hbb := lt_of_cell tn.1.isDead
                    have hY := tb_append (tu.over (Below.alloc1 w7 (.cells #[.int .i64 6, .int .i64 9, .int .i64 0, .int .i64 0] 37))) [⟨6, 9, 0, 0⟩] (.slice (some ⟨w7.heap.size, 0, none⟩) 1 1) HFT.out (ns_note w7 37 ⟨6, 9, 0, 0⟩) (by simp)
                    have HY := Lib.hid hY
                    clear tn tu hb7 HX hY
                    go_wp2_with fail
                    refine HY.out.mono ?_
                    rintro e w8 ⟨rfl, T⟩
                    have hps := HPS.out.turn T
                    have tn := TN.out.apart T.keep (fun k hk q => by have := hF.out k q; have := hk.1; omega)
                    have HPS := Lib.hid (hps.take tn hB6 hbx6 hob6 (fun k q => hV.out k q))
                    clear T HY TN hps tn HFT hF hV
                    generalize r.crash = r' at *
                    generalize s.crash = s' at *
                    unfold RT.val at hR
                    have HR := Lib.hid hR
                    have HS := Lib.hid hsm
                    clear hR hsm
                    clear oc0 oc1 oc2 m0 m1 m2 m3 mf0 mf1 mf2 mf3
                    obtain ⟨oc0, oc1, oc2⟩ := HPS.out.ocells
                    dsimp only at oc0 oc1 oc2
                    obtain ⟨⟨m0, m1, m2, m3⟩, mf⟩ := HPS.out.box.cells
                    have mf0 := mf 0
                    have mf1 := mf 1
                    have mf2 := mf 2
                    have mf3 := mf 3
                    have hbl6 := HPS.out.box.lt
                    have hlo := HPS.out.oblt
                    clear mf
                    go_wp2_with fail
                    refine (HR.out _).mono ?_
                    rintro e w8 ⟨rfl, hb8⟩
                    have HPS := Lib.hid (HPS.out.over hb8)
                    clear hb8 HR
                    clear oc0 oc1 oc2 m0 m1 m2 m3 mf0 mf1 mf2 mf3
                    obtain ⟨oc0, oc1, oc2⟩ := HPS.out.ocells
                    dsimp only at oc0 oc1 oc2
                    obtain ⟨⟨m0, m1, m2, m3⟩, mf⟩ := HPS.out.box.cells
                    have mf0 := mf 0
                    have mf1 := mf 1
                    have mf2 := mf 2
                    have mf3 := mf 3
                    have hbl6 := HPS.out.box.lt
                    have hlo := HPS.out.oblt
                    clear mf
                    have HPU := Lib.hid (HPS.out.put r')
                    iterate 30 (first | go_values | go_skip | go_guarded | go_step | go_upon | go_back | (simp only [Int.not_lt, Int.not_le] at *; go_simp) | (go_values <;> (try go_simp)) | (go_ite <;> go_prune <;> (try go_simp)))
                    obtain ⟨w9, e9⟩ : ∃ w9 : World, (((w8.setCell ⟨bx, 0, none⟩ (.string (str r'.now))).setCell ⟨bx, 1, none⟩ (.string (str r'.other))).setCell ⟨bx, 2, none⟩ (.int .i64 r'.budget)).setCell ⟨bx, 3, none⟩ (.bool r'.dead) = w9 := ⟨_, rfl⟩
                    rw [e9]
                    have e10 : putW w8 bx r' = w9 := e9
                    rw [e10] at HPU
                    have HPS := Lib.hid HPU.out
                    clear e9 e10 HPU
                    clear oc0 oc1 oc2 m0 m1 m2 m3 mf0 mf1 mf2 mf3
                    obtain ⟨oc0, oc1, oc2⟩ := HPS.out.ocells
                    dsimp only at oc0 oc1 oc2
                    obtain ⟨⟨m0, m1, m2, m3⟩, mf⟩ := HPS.out.box.cells
                    have mf0 := mf 0
                    have mf1 := mf 1
                    have mf2 := mf 2
                    have mf3 := mf 3
                    have hbl6 := HPS.out.box.lt
                    have hlo := HPS.out.oblt
                    clear mf
                    have hTL := tells_any HPS.out.tape HS.out
                    unfold RT.val at hTL
                    have HTL := Lib.hid hTL
                    clear hTL
                    go_wp2_with fail
                    refine HTL.out.mono ?_
                    rintro e w10 ⟨rfl, hb10⟩
                    have HPS := Lib.hid (HPS.out.over hb10)
                    clear hb10 HTL
                    clear oc0 oc1 oc2 m0 m1 m2 m3 mf0 mf1 mf2 mf3
                    obtain ⟨oc0, oc1, oc2⟩ := HPS.out.ocells
                    dsimp only at oc0 oc1 oc2
                    obtain ⟨⟨m0, m1, m2, m3⟩, mf⟩ := HPS.out.box.cells
                    have mf0 := mf 0
                    have mf1 := mf 1
                    have mf2 := mf 2
                    have mf3 := mf 3
                    have hbl6 := HPS.out.box.lt
                    have hlo := HPS.out.oblt
                    clear mf
                    have hSM : Calls Try.prog 15 #[.slice p3 l.length c3, .slice pu l.length cu] w10 fun e w' => e = .returned (.bool true) ∧ Below w10.heap.size w10 w' := by
                      have h := same_any (.slice p3 l.length c3) (.slice pu l.length cu) l l w10 HPS.out.own.1.rd.ns (HN.out.below HPS.out.below)
                      rw [decide_eq_true (rfl : l = l)] at h
                      exact h
                    have HSM := Lib.hid hSM
                    clear hSM
                    go_wp2_with fail
                    refine HSM.out.mono ?_
                    rintro e w11 ⟨rfl, hb11⟩
                    have HPS := Lib.hid (HPS.out.over hb11)
                    clear hb11 HSM
                    clear oc0 oc1 oc2 m0 m1 m2 m3 mf0 mf1 mf2 mf3
                    obtain ⟨oc0, oc1, oc2⟩ := HPS.out.ocells
                    dsimp only at oc0 oc1 oc2
                    obtain ⟨⟨m0, m1, m2, m3⟩, mf⟩ := HPS.out.box.cells
                    have mf0 := mf 0
                    have mf1 := mf 1
                    have mf2 := mf 2
                    have mf3 := mf 3
                    have hbl6 := HPS.out.box.lt
                    have hlo := HPS.out.oblt
                    clear mf
                    obtain ⟨F', HPS⟩ : ∃ F', Hid (PS w w11 bx ob b' F' s' r' ⟨5, xn, l⟩ (.slice pu l.length cu) (.slice p3 l.length c3)) := ⟨_, HPS⟩
                    clear oc0 oc1 oc2 m0 m1 m2 m3 mf0 mf1 mf2 mf3
                    obtain ⟨g, hg, hg1, hg2, hg3⟩ : ∃ g, (0 < l.length → p3 = some ⟨g, 0, none⟩ ∧ ∀ j, j < l.length → (∃ z : Int, w11.cell? ⟨g, j * 4 + 1, none⟩ = some (.int .i64 z)) ∧ w11.frozen? ⟨g, j * 4 + 1, none⟩ = false) ∧ w.heap.size ≤ g ∧ ¬ F' g ∧ g ≠ bx := by
                      rcases HPS.out.own.1.shape with ⟨_, h0, _⟩ | ⟨g, c, hv, _, _, hgs, hc⟩
                      · exact ⟨w11.heap.size, fun h => by simp only at h0; omega, HPS.out.below.size, fun q => absurd (HPS.out.tape.1.lt _ q) (by omega), by omega⟩
                      · cases hv
                        refine ⟨g, fun _ => ⟨rfl, fun j hj => ⟨⟨(l[j]).a, ?_⟩, (hc (j * 4 + 1) (by simp only; omega)).2⟩⟩, (HPS.out.own.2 g rfl).1, (HPS.out.own.2 g rfl).2, (HPS.out.nv g rfl).1⟩
                        rw [(hc (j * 4 + 1) (by simp only; omega)).1]
                        show (cellsL l)[j * 4 + 1]? = _
                        rw [cellsL_at l j 1 hj (by omega)]
                        rfl
                    have HG := Lib.hid hg
                    have hc3 : l.length ≤ c3 ∧ c3 ≤ 2 ^ 63 - 1 := by
                      obtain ⟨p', c', hv, h1, h2⟩ := HPS.out.own.1.rd.ns.slice
                      cases hv
                      exact ⟨h1, h2⟩
                    obtain ⟨hc31, hc32⟩ := hc3
                    clear hg
                    go_wp2_with fail
                    go_loopw [132] (fun iv wr2 => BumpRel w11 (fun k => k = g) g l.length iv wr2) (fun iv _ => l.length - (intOf iv).toNat)
                    case atStart => exact ⟨0, rfl, Nat.zero_le _, Keep.refl _ _, fun j hj => (HG.out (by omega)).2 j hj⟩
                    case round =>
                      obtain ⟨i, rfl, hi, K, hc⟩ := hrel
                      by_cases hilt : i < l.length
                      · obtain ⟨rfl, _⟩ := HG.out (by omega)
                        obtain ⟨⟨zz, cc0⟩, ff0⟩ := hc i hilt
                        have lg := lt_of_cell cc0
                        have HR := Lib.hid (fun x => bump_step (g := g) (S := fun k => k = g) rfl hilt K hc x)
                        clear hc K HPS HN HS HG
                        go_wp2
                        go_roundw
                        case rel => exact HR.out _
                        case measure => simp [intOf]; omega
                      · have HR : Hid (PlaysRel w os bx (.pointer (some ⟨b', 0, none⟩)) (.int .i64 ((k + 1 : Nat) : Int)) wr) :=
                          ⟨k + 1, b', F', s', r', rfl, rfl, hlt1, hlt2, ⟨HPS.out.tape.1.kept K (fun j hj e => by have e : j = g := e; exact hg2 (e ▸ hj)), HPS.out.tape.2.1, Nat.le_trans HPS.out.tape.2.2 K.size⟩, HS.out, HPS.out.box.kept K (fun e => hg3 (Eq.symm e)), hbx1, HPS.out.nF.1,
                            HPS.out.below.trans ⟨K.os, K.tape, K.output, K.size, fun j hj => K.block j (Nat.lt_of_lt_of_le hj HPS.out.below.size) (fun e => by have e : j = g := e; omega)⟩⟩
                        have hile : ¬ ((i : Int) < (l.length : Int)) := by omega
                        clear hc K HPS HN HS HG
                        go_wp2
                        go_roundw
                        case rel => exact HR.out
                        case measure => simp [intOf]; omega
                  ·
                    have HS0 := HS.out
                    obtain ⟨w11, hw11⟩ : ∃ w11 : World, w11 = w6 := ⟨_, rfl⟩
                    obtain ⟨s', hs'⟩ : ∃ s' : TS, s' = s := ⟨_, rfl⟩
                    obtain ⟨r', hr'⟩ : ∃ r' : RT, r' = r := ⟨_, rfl⟩
                    rw [← hs', ← hr'] at HS HPS
                    clear hw11 w11 HS0 hs' hr'
                    clear oc0 oc1 oc2 m0 m1 m2 m3 mf0 mf1 mf2 mf3
                    obtain ⟨oc0, oc1, oc2⟩ := HPS.out.ocells
                    dsimp only at oc0 oc1 oc2
                    obtain ⟨⟨m0, m1, m2, m3⟩, mf⟩ := HPS.out.box.cells
                    have mf0 := mf 0
                    have mf1 := mf 1
                    have mf2 := mf 2
                    have mf3 := mf 3
                    have hbl6 := HPS.out.box.lt
                    have hlo := HPS.out.oblt
                    clear mf
                    have hTL := tells_any HPS.out.tape HS.out
                    unfold RT.val at hTL
                    have HTL := Lib.hid hTL
                    clear hTL
                    go_wp2_with fail
                    refine HTL.out.mono ?_
                    rintro e w10 ⟨rfl, hb10⟩
                    have HPS := Lib.hid (HPS.out.over hb10)
                    clear hb10 HTL
                    clear oc0 oc1 oc2 m0 m1 m2 m3 mf0 mf1 mf2 mf3
                    obtain ⟨oc0, oc1, oc2⟩ := HPS.out.ocells
                    dsimp only at oc0 oc1 oc2
                    obtain ⟨⟨m0, m1, m2, m3⟩, mf⟩ := HPS.out.box.cells
                    have mf0 := mf 0
                    have mf1 := mf 1
                    have mf2 := mf 2
                    have mf3 := mf 3
                    have hbl6 := HPS.out.box.lt
                    have hlo := HPS.out.oblt
                    clear mf
                    have hSM : Calls Try.prog 15 #[.slice p3 l.length c3, .slice pu l.length cu] w10 fun e w' => e = .returned (.bool true) ∧ Below w10.heap.size w10 w' := by
                      have h := same_any (.slice p3 l.length c3) (.slice pu l.length cu) l l w10 HPS.out.own.1.rd.ns (HN.out.below HPS.out.below)
                      rw [decide_eq_true (rfl : l = l)] at h
                      exact h
                    have HSM := Lib.hid hSM
                    clear hSM
                    go_wp2_with fail
                    refine HSM.out.mono ?_
                    rintro e w11 ⟨rfl, hb11⟩
                    have HPS := Lib.hid (HPS.out.over hb11)
                    clear hb11 HSM
                    clear oc0 oc1 oc2 m0 m1 m2 m3 mf0 mf1 mf2 mf3
                    obtain ⟨oc0, oc1, oc2⟩ := HPS.out.ocells
                    dsimp only at oc0 oc1 oc2
                    obtain ⟨⟨m0, m1, m2, m3⟩, mf⟩ := HPS.out.box.cells
                    have mf0 := mf 0
                    have mf1 := mf 1
                    have mf2 := mf 2
                    have mf3 := mf 3
                    have hbl6 := HPS.out.box.lt
                    have hlo := HPS.out.oblt
                    clear mf
                    obtain ⟨F', HPS⟩ : ∃ F', Hid (PS w w11 bx ob b F' s' r' ⟨xk, xn, l⟩ (.slice pu l.length cu) (.slice p3 l.length c3)) := ⟨_, HPS⟩
                    clear oc0 oc1 oc2 m0 m1 m2 m3 mf0 mf1 mf2 mf3
                    obtain ⟨g, hg, hg1, hg2, hg3⟩ : ∃ g, (0 < l.length → p3 = some ⟨g, 0, none⟩ ∧ ∀ j, j < l.length → (∃ z : Int, w11.cell? ⟨g, j * 4 + 1, none⟩ = some (.int .i64 z)) ∧ w11.frozen? ⟨g, j * 4 + 1, none⟩ = false) ∧ w.heap.size ≤ g ∧ ¬ F' g ∧ g ≠ bx := by
                      rcases HPS.out.own.1.shape with ⟨_, h0, _⟩ | ⟨g, c, hv, _, _, hgs, hc⟩
                      · exact ⟨w11.heap.size, fun h => by simp only at h0; omega, HPS.out.below.size, fun q => absurd (HPS.out.tape.1.lt _ q) (by omega), by omega⟩
                      · cases hv
                        refine ⟨g, fun _ => ⟨rfl, fun j hj => ⟨⟨(l[j]).a, ?_⟩, (hc (j * 4 + 1) (by simp only; omega)).2⟩⟩, (HPS.out.own.2 g rfl).1, (HPS.out.own.2 g rfl).2, (HPS.out.nv g rfl).1⟩
                        rw [(hc (j * 4 + 1) (by simp only; omega)).1]
                        show (cellsL l)[j * 4 + 1]? = _
                        rw [cellsL_at l j 1 hj (by omega)]
                        rfl
                    have HG := Lib.hid hg
                    have hc3 : l.length ≤ c3 ∧ c3 ≤ 2 ^ 63 - 1 := by
                      obtain ⟨p', c', hv, h1, h2⟩ := HPS.out.own.1.rd.ns.slice
                      cases hv
                      exact ⟨h1, h2⟩
                    obtain ⟨hc31, hc32⟩ := hc3
                    clear hg
                    go_wp2_with fail
                    go_loopw [132] (fun iv wr2 => BumpRel w11 (fun k => k = g) g l.length iv wr2) (fun iv _ => l.length - (intOf iv).toNat)
                    case atStart => exact ⟨0, rfl, Nat.zero_le _, Keep.refl _ _, fun j hj => (HG.out (by omega)).2 j hj⟩
                    case round =>
                      obtain ⟨i, rfl, hi, K, hc⟩ := hrel
                      by_cases hilt : i < l.length
                      · obtain ⟨rfl, _⟩ := HG.out (by omega)
                        obtain ⟨⟨zz, cc0⟩, ff0⟩ := hc i hilt
                        have lg := lt_of_cell cc0
                        have HR := Lib.hid (fun x => bump_step (g := g) (S := fun k => k = g) rfl hilt K hc x)
                        clear hc K HPS HN HS HG
                        go_wp2
                        go_roundw
                        case rel => exact HR.out _
                        case measure => simp [intOf]; omega
                      · have HR : Hid (PlaysRel w os bx (.pointer (some ⟨b, 0, none⟩)) (.int .i64 ((k + 1 : Nat) : Int)) wr) :=
                          ⟨k + 1, b, F', s', r', rfl, rfl, hlt1, hlt2, ⟨HPS.out.tape.1.kept K (fun j hj e => by have e : j = g := e; exact hg2 (e ▸ hj)), HPS.out.tape.2.1, Nat.le_trans HPS.out.tape.2.2 K.size⟩, HS.out, HPS.out.box.kept K (fun e => hg3 (Eq.symm e)), hbx1, HPS.out.nF.1,
                            HPS.out.below.trans ⟨K.os, K.tape, K.output, K.size, fun j hj => K.block j (Nat.lt_of_lt_of_le hj HPS.out.below.size) (fun e => by have e : j = g := e; omega)⟩⟩
                        have hile : ¬ ((i : Int) < (l.length : Int)) := by omega
                        clear hc K HPS HN HS HG
                        go_wp2
                        go_roundw
                        case rel => exact HR.out
                        case measure => simp [intOf]; omega

    · have HB0 := Lib.hid HB.out
      by_cases hkl : k < os.length
      · have h80 : k = 80 := by omega
        subst h80
        go_wp2
        go_ret
        exact ⟨rfl, HB0.out⟩
      · have hkl' : ¬ (k : Int) < (os.length : Int) := by omega
        go_wp2
        go_ret
        exact ⟨rfl, HB0.out⟩
end Go.Proofs.Ytdclgmffgidcmaa
