/- The reference's tape: Append. -/
import Derived.Test.YtdclgmffgidcmaaRef19c
import Derived.RegionTactic
import Derived.ChangeAlike
import Derived.Deep.RegionHeld3
namespace Go.Proofs.Ytdclgmffgidcmaa
set_option linter.unusedSimpArgs false
set_option linter.unusedVariables false
open Go.RowKit

def RT.append (r : RT) (ns : List Nt) : RT × Int :=
  if r.dead then (r, 190) else if ns.all goodB = false then (r, 180) else if (readL r.now).2 < r.now.length then (r, 140)
  else if 2 ^ 16 < r.now.length + (encL ns).length then (r, 5)
  else ({ (r.some (encL ns).length).1 with now := r.now ++ (encL ns).take (r.some (encL ns).length).2 }, if (r.some (encL ns).length).1.dead then 190 else 0)

theorem some_le (r : RT) (n : Nat) : (r.some n).2 ≤ n := by
  unfold RT.some; split
  · exact Nat.le_refl _
  · rename_i h; simp only; omega

theorem below_drew1 (w : World) : Below w.heap.size w w.drew := ⟨rfl, rfl, rfl, Nat.le_refl _, fun _ _ => rfl⟩
theorem below_undrew {w w' : World} (h : Below w.drew.heap.size w.drew w') : Below w.heap.size w w' := ⟨h.os, h.tape, h.output, h.size, h.block⟩

set_option maxHeartbeats 2000000 in
theorem rappend_any (r : RT) (v : Value) (ns : List Nt) (w : World) (hb : r.budget ≤ 2 ^ 40) (hl : r.now.length ≤ 2 ^ 16) (hv : Ns w v ns) (hL : ns.length ≤ 2 ^ 10) : Calls Try.prog 20 #[r.val, v] w
    fun e w' => e = .returned (.tuple #[(r.append ns).1.val, .int .i64 (r.append ns).2]) ∧ Below w.heap.size w w' := by
  obtain ⟨now, other, bu, de⟩ := r
  dsimp only at hb hl
  cases de
  case true =>
    have hX : Hid (RT.append ⟨now, other, bu, true⟩ ns = (⟨now, other, bu, true⟩, 190)) := by unfold Hid RT.append; rw [if_pos rfl]
    rw [hX.out]
    unfold RT.val
    dsimp only
    generalize str now = sn
    generalize str other = so
    go_enter Try.func20, Try.ntmps20
    go_wp2
    refine bodyPost_ret (v := .tuple #[.agg #[.string sn, .string so, .int .i64 bu, .bool true], .int .i64 190]) (by simp [results, Try.results20, go_sem]) rfl ⟨rfl, ?_⟩
    repeat (first | with_reducible exact Below.refl _ _ | with_reducible exact HBW.out | (with_reducible refine below_draws ?_ _) | (with_reducible refine Below.setCell ?_ (by simp <;> omega) _) | (with_reducible refine Below.alloc ?_ (by simp <;> omega) _))
  case false =>
    have hst := rbox_start w ⟨now, other, bu, false⟩
    have HST := Lib.hid hst
    have HW := Lib.hid (fun q q' => written_any v ns ((w.alloc q).alloc q') (hv.below ((Below.alloc1 w q).alloc (by simp) q')) (Nat.le_trans hL (by decide)))
    obtain ⟨RES, hRES⟩ : ∃ RES, RES = RT.append ⟨now, other, bu, false⟩ ns := ⟨_, rfl⟩
    have HX : Hid (RES = if ns.all goodB = false then (⟨now, other, bu, false⟩, 180) else if (readL now).2 < now.length then (⟨now, other, bu, false⟩, 140)
      else if 2 ^ 16 < now.length + (encL ns).length then (⟨now, other, bu, false⟩, 5)
      else ({ (RT.some ⟨now, other, bu, false⟩ (encL ns).length).1 with now := now ++ (encL ns).take (RT.some ⟨now, other, bu, false⟩ (encL ns).length).2 }, if (RT.some ⟨now, other, bu, false⟩ (encL ns).length).1.dead then 190 else 0)) := by
      rw [hRES]; unfold Hid RT.append; rw [if_neg (by simp)]
    rw [← hRES]
    have HG := Lib.hid (fun wq => rtgood_any ⟨now, other, bu, false⟩ wq (by dsimp only; omega))
    unfold RT.val at HG ⊢
    dsimp only at HG ⊢
    clear hst hv hRES
    go_enter Try.func20, Try.ntmps20
    go_wp2_with fail
    refine (HW.out _ _).mono ?_
    rintro e w1 ⟨he, hb1⟩
    have hbx := HST.out.over hb1
    obtain ⟨⟨s0, s1, s2, s3⟩, ⟨t0, t1, t2, t3⟩, fa, fb, hs⟩ := hbx.cells
    have HBX := Lib.hid hbx
    have HBW := Lib.hid hbx.below
    have hw1 := hbx.below.size
    have fa0 := fa 0
    have fa1 := fa 1
    have fa2 := fa 2
    have fa3 := fa 3
    have fb0 := fb 0
    have fb1 := fb 1
    have fb2 := fb 2
    have fb3 := fb 3
    dsimp only at s0 s1 s2 s3
    clear hbx hb1 HST HW fa fb
    cases hg : ns.all goodB
    · rw [hg] at he
      simp only [Bool.false_eq_true, if_false] at he
      subst he
      have hX := HX.out
      rw [hg] at hX
      simp only [if_true] at hX
      have HX := Lib.hid hX
      clear hX hg
      go_wp2
      refine bodyPost_ret (v := .tuple #[.agg #[.string (str now), .string (str other), .int .i64 bu, .bool false], .int .i64 180]) (by simp [results, Try.results20, go_sem, t0, t1, t2, t3]) rfl ?_
      rw [HX.out]
      refine ⟨rfl, ?_⟩
      repeat (first | with_reducible exact Below.refl _ _ | with_reducible exact HBW.out | (with_reducible refine below_draws ?_ _) | (with_reducible refine Below.setCell ?_ (by simp <;> omega) _) | (with_reducible refine Below.alloc ?_ (by simp <;> omega) _))
    · rw [hg] at he
      simp only [if_true] at he
      subst he
      have hX := HX.out
      rw [hg] at hX
      simp only [Bool.true_eq_false, if_false] at hX
      have hel := encL_len ns (fun n hn => List.all_eq_true.1 hg n hn)
      have hz1 := str_size now
      have hz2 := str_size (encL ns)
      generalize encL ns = E at *
      have hrl := (readL_spec now).2.2.2.2.1
      generalize (readL now).2 = R at *
      have HX := Lib.hid hX
      clear hX hg
      by_cases hlt : R < now.length
      · have hlt' : (R : Int) < (now.length : Int) := by omega
        go_wp2_with fail
        go_region_held3 (fun w' => w'.cell? ⟨w.heap.size, 0, none⟩ = some (.string (str now)) ∧ w'.cell? ⟨w.heap.size, 1, none⟩ = some (.string (str other)) ∧ w'.cell? ⟨w.heap.size, 2, none⟩ = some (.int .i64 bu) ∧ w'.cell? ⟨w.heap.size, 3, none⟩ = some (.bool false)) (go_keep) ((go_at_call 34; refine (HG.out _).mono ?_; rintro e w2 ⟨rfl, hb2⟩; have hbx2 := HBX.out.over (w' := w2) (below_undrew hb2); obtain ⟨⟨a0, a1, a2, a3⟩, ⟨b0, b1, b2, b3⟩, fa, fb, hs2⟩ := hbx2.cells; dsimp only at a0 a1 a2 a3; have HBX2 := Lib.hid hbx2; clear hbx2 hb2))
        all_goals
          have hX := HX.out
          rw [if_pos hlt] at hX
          have HX := Lib.hid hX
          have HBW2 := Lib.hid HBX2.out.below
          have hw2 := HBW2.out.size
          have fa0 := fa 0
          have fa1 := fa 1
          have fa2 := fa 2
          have fa3 := fa 3
          have fb0 := fb 0
          have fb1 := fb 1
          have fb2 := fb 2
          have fb3 := fb 3
          clear hX fa fb HG s0 s1 s2 s3 t0 t1 t2 t3
          go_wp2
          refine bodyPost_ret (v := .tuple #[.agg #[.string (str now), .string (str other), .int .i64 bu, .bool false], .int .i64 140]) (by simp [results, Try.results20, go_sem, b0, b1, b2, b3]) rfl ?_
          rw [HX.out]
          refine ⟨rfl, ?_⟩
          repeat (first | with_reducible exact Below.refl _ _ | with_reducible exact HBW2.out | (with_reducible refine below_draws ?_ _) | (with_reducible refine Below.setCell ?_ (by simp <;> omega) _) | (with_reducible refine Below.alloc ?_ (by simp <;> omega) _))
      · have hlt' : ¬ (R : Int) < (now.length : Int) := by omega
        have hX := HX.out
        rw [if_neg hlt] at hX
        have HX := Lib.hid hX
        have hel2 : E.length ≤ 19456 := by omega
        clear hX
        go_wp2_with fail
        go_region_held3 (fun w' => w'.cell? ⟨w.heap.size, 0, none⟩ = some (.string (str now)) ∧ w'.cell? ⟨w.heap.size, 1, none⟩ = some (.string (str other)) ∧ w'.cell? ⟨w.heap.size, 2, none⟩ = some (.int .i64 bu) ∧ w'.cell? ⟨w.heap.size, 3, none⟩ = some (.bool false)) (go_keep) ((go_at_call 34; refine (HG.out _).mono ?_; rintro e w2 ⟨rfl, hb2⟩; have hbx2 := HBX.out.over (w' := w2) (below_undrew hb2); obtain ⟨⟨a0, a1, a2, a3⟩, ⟨b0, b1, b2, b3⟩, fa, fb, hs2⟩ := hbx2.cells; dsimp only at a0 a1 a2 a3; have HBX2 := Lib.hid hbx2; clear hbx2 hb2))
        all_goals
          have HBW2 := Lib.hid HBX2.out.below
          have hw2 := HBW2.out.size
          have fa0 := fa 0
          have fa1 := fa 1
          have fa2 := fa 2
          have fa3 := fa 3
          have fb0 := fb 0
          have fb1 := fb 1
          have fb2 := fb 2
          have fb3 := fb 3
          clear fa fb HG s0 s1 s2 s3 t0 t1 t2 t3
          by_cases hfull : 2 ^ 16 < now.length + E.length
          · have hX := HX.out
            rw [if_pos hfull] at hX
            have HX := Lib.hid hX
            have hf' : (65536 : Int) < (now.length : Int) + (E.length : Int) := by omega
            clear hX
            go_wp2
            refine bodyPost_ret (v := .tuple #[.agg #[.string (str now), .string (str other), .int .i64 bu, .bool false], .int .i64 5]) (by simp [results, Try.results20, go_sem, b0, b1, b2, b3]) rfl ?_
            rw [HX.out]
            refine ⟨rfl, ?_⟩
            repeat (first | with_reducible exact Below.refl _ _ | with_reducible exact HBW2.out | (with_reducible refine below_draws ?_ _) | (with_reducible refine Below.setCell ?_ (by simp <;> omega) _) | (with_reducible refine Below.alloc ?_ (by simp <;> omega) _))
          · have hX := HX.out
            rw [if_neg hfull] at hX
            have hf' : ¬ (65536 : Int) < (now.length : Int) + (E.length : Int) := by omega
            have HSM := Lib.hid (fun wq => rsome_any ⟨now, other, bu, false⟩ E.length wq hb (by omega))
            have hk := some_keeps ⟨now, other, bu, false⟩ E.length
            have hkl := some_le ⟨now, other, bu, false⟩ E.length
            dsimp only at hk
            obtain ⟨hk1, hk2⟩ := hk
            unfold RT.val at HSM
            dsimp only at HSM
            rw [hk1, hk2] at HSM
            generalize (RT.some ⟨now, other, bu, false⟩ E.length) = q at *
            obtain ⟨⟨qn, qo, qb, qd⟩, qk⟩ := q
            dsimp only at hk1 hk2 hX HSM hkl
            subst hk1 hk2
            have HX := Lib.hid hX
            have HCD := Lib.hid (fun wq => rcode_any ⟨qn ++ E.take qk, qo, qb, qd⟩ wq)
            unfold RT.val RT.code at HCD
            dsimp only at HCD
            have htk := Lib.hid (str_take E qk)
            have hap := Lib.hid (str_app qn (E.take qk))
            have hz3 : qk ≤ (str E).size := by rw [hz2]; exact hkl
            have hz4 : (str qn).size + (str E).size ≤ 65536 := by rw [hz2, hz1]; omega
            clear hX HBX
            go_wp2_with fail
            refine (HSM.out _).mono ?_
            rintro e w3 ⟨rfl, hb3⟩
            have hbx3 := HBX2.out.over hb3
            have hbx4 := hbx3.put ⟨qn, qo, qb, qd⟩
            dsimp only at hbx4
            obtain ⟨⟨s0, s1, s2, s3⟩, ⟨t0, t1, t2, t3⟩, fa, fb, hs3⟩ := hbx3.cells
            have hw3 := hbx3.below.size
            have HBX4 := Lib.hid hbx4
            have HBW3 := Lib.hid hbx3.below
            dsimp only at s0 s1 s2 s3
            have fa0 := fa 0
            have fa1 := fa 1
            have fa2 := fa 2
            have fa3 := fa 3
            have fb0 := fb 0
            have fb1 := fb 1
            have fb2 := fb 2
            have fb3 := fb 3
            clear fa fb hbx3 hbx4 hb3 HSM a0 a1 a2 a3 b0 b1 b2 b3 HBX2
            go_wp2_with fail
            go_region
            go_wp2_with fail
            rw [htk.out, hap.out]
            have hbx5 := (HBX4.out.now (qn ++ E.take qk)).over (below_drew1 _)
            dsimp only at hbx5
            obtain ⟨w5, e5⟩ : ∃ w5 : World, w5 = (((((w3.setCell ⟨w.heap.size, 0, none⟩ (.string (str qn))).setCell ⟨w.heap.size, 1, none⟩ (.string (str qo))).setCell ⟨w.heap.size, 2, none⟩ (.int .i64 qb)).setCell ⟨w.heap.size, 3, none⟩ (.bool qd)).setCell ⟨w.heap.size, 0, none⟩ (.string (str (qn ++ E.take qk)))).drew := ⟨_, rfl⟩
            rw [← e5] at hbx5 ⊢
            clear e5 s0 s1 s2 s3 t0 t1 t2 t3 fa0 fa1 fa2 fa3 fb0 fb1 fb2 fb3 HBX4 HBW3 hs3 hw3 htk hap
            obtain ⟨⟨s0, s1, s2, s3⟩, ⟨t0, t1, t2, t3⟩, fa, fb, hs5⟩ := hbx5.cells
            have HBX5 := Lib.hid hbx5
            dsimp only at s0 s1 s2 s3
            have hX := HX.out
            rw [if_neg hfull] at hX
            have HX := Lib.hid hX
            have fb0 := fb 0
            have fb1 := fb 1
            have fb2 := fb 2
            have fb3 := fb 3
            clear fa fb hbx5 hX hz1 hz2 hz3 hz4
            generalize (if qd = true then (190 : Int) else 0) = CODE at *
            generalize qn ++ List.take qk E = now2 at *
            go_region_held3 (fun w' => w'.cell? ⟨w.heap.size, 0, none⟩ = some (.string (str now2)) ∧ w'.cell? ⟨w.heap.size, 1, none⟩ = some (.string (str qo)) ∧ w'.cell? ⟨w.heap.size, 2, none⟩ = some (.int .i64 qb) ∧ w'.cell? ⟨w.heap.size, 3, none⟩ = some (.bool qd)) (go_keep) ((go_at_call 36; refine (HCD.out _).mono ?_; rintro e w6 ⟨rfl, hb6⟩; have hbx6 := HBX5.out.over (w' := w6) (below_undrew hb6); obtain ⟨⟨a0, a1, a2, a3⟩, ⟨b0, b1, b2, b3⟩, ga, gb, hs6⟩ := hbx6.cells; dsimp only at a0 a1 a2 a3; have gb0 := gb 0; have gb1 := gb 1; have gb2 := gb 2; have gb3 := gb 3; have HBX6 := Lib.hid hbx6; clear hbx6 hb6 ga gb))
            all_goals
              have HBW6 := Lib.hid HBX6.out.below
              have hw6 := HBW6.out.size
              go_wp2
              refine bodyPost_ret (v := .tuple #[.agg #[.string (str now2), .string (str qo), .int .i64 qb, .bool qd], .int .i64 CODE]) (by simp [results, Try.results20, go_sem, b0, b1, b2, b3]) rfl ?_
              rw [HX.out]
              refine ⟨rfl, ?_⟩
              repeat (first | with_reducible exact Below.refl _ _ | with_reducible exact HBW6.out | (with_reducible refine below_draws ?_ _) | (with_reducible refine Below.setCell ?_ (by simp <;> omega) _) | (with_reducible refine Below.alloc ?_ (by simp <;> omega) _))
end Go.Proofs.Ytdclgmffgidcmaa
