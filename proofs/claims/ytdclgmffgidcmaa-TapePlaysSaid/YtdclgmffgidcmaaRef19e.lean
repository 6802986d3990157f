/- The reference's tape: Compact. -/
import Derived.Test.YtdclgmffgidcmaaRef19d
namespace Go.Proofs.Ytdclgmffgidcmaa
set_option linter.unusedSimpArgs false
set_option linter.unusedVariables false
open Go.RowKit

def RT.wipe (r : RT) : RT := if 0 < r.other.length then (if (r.some 1).1.dead then (r.some 1).1 else { (r.some 1).1 with other := [] }) else r
def RT.fill (r : RT) (E : List UInt8) : RT := { (r.some E.length).1 with other := E.take (r.some E.length).2 }
def RT.swap (r : RT) : RT := if (r.some 1).1.dead then (r.some 1).1 else { (r.some 1).1 with now := r.other, other := r.now }
def RT.compact (r : RT) (ns : List Nt) : RT × Int :=
  if r.dead then (r, 190) else if ns.all goodB = false then (r, 180) else if 2 ^ 16 < (encL ns).length then (r, 5)
  else if r.wipe.dead then (r.wipe, 190) else if (r.wipe.fill (encL ns)).dead then (r.wipe.fill (encL ns), 190) else ((r.wipe.fill (encL ns)).swap, if (r.wipe.fill (encL ns)).swap.dead then 190 else 0)

theorem some_budget (r : RT) (n : Nat) (h : r.budget ≤ 2 ^ 40) : (r.some n).1.budget ≤ 2 ^ 40 := by
  unfold RT.some; split
  · dsimp only; split <;> omega
  · dsimp only; omega

set_option maxHeartbeats 4000000 in
theorem rcompact_any (r : RT) (v : Value) (ns : List Nt) (w : World) (hb : r.budget ≤ 2 ^ 40) (ho : r.other.length ≤ 2 ^ 16) (hv : Ns w v ns) (hL : ns.length ≤ 2 ^ 10) : Calls Try.prog 22 #[r.val, v] w
    fun e w' => e = .returned (.tuple #[(r.compact ns).1.val, .int .i64 (r.compact ns).2]) ∧ Below w.heap.size w w' := by
  obtain ⟨now, other, bu, de⟩ := r
  dsimp only at hb ho
  cases de
  case true =>
    have hX : Hid (RT.compact ⟨now, other, bu, true⟩ ns = (⟨now, other, bu, true⟩, 190)) := by unfold Hid RT.compact; rw [if_pos rfl]
    rw [hX.out]
    unfold RT.val
    dsimp only
    generalize str now = sn
    generalize str other = so
    go_enter Try.func22, Try.ntmps22
    go_wp2
    refine bodyPost_ret (v := .tuple #[.agg #[.string sn, .string so, .int .i64 bu, .bool true], .int .i64 190]) (by simp [results, Try.results22, go_sem]) rfl ⟨rfl, ?_⟩
    repeat (first | with_reducible exact Below.refl _ _ | with_reducible exact HBW.out | (with_reducible refine below_draws ?_ _) | (with_reducible refine Below.setCell ?_ (by simp <;> omega) _) | (with_reducible refine Below.alloc ?_ (by simp <;> omega) _))
  case false =>
    have hst := rbox_start w ⟨now, other, bu, false⟩
    have HST := Lib.hid hst
    have HW := Lib.hid (fun q q' => written_any v ns ((w.alloc q).alloc q') (hv.below ((Below.alloc1 w q).alloc (by simp) q')) (Nat.le_trans hL (by decide)))
    obtain ⟨RES, hRES⟩ : ∃ RES, RES = RT.compact ⟨now, other, bu, false⟩ ns := ⟨_, rfl⟩
    have HX : Hid (RES = if ns.all goodB = false then (⟨now, other, bu, false⟩, 180) else if 2 ^ 16 < (encL ns).length then (⟨now, other, bu, false⟩, 5)
      else if (RT.wipe ⟨now, other, bu, false⟩).dead then (RT.wipe ⟨now, other, bu, false⟩, 190) else if ((RT.wipe ⟨now, other, bu, false⟩).fill (encL ns)).dead then ((RT.wipe ⟨now, other, bu, false⟩).fill (encL ns), 190) else (((RT.wipe ⟨now, other, bu, false⟩).fill (encL ns)).swap, if ((RT.wipe ⟨now, other, bu, false⟩).fill (encL ns)).swap.dead then 190 else 0)) := by
      rw [hRES]; unfold Hid RT.compact; rw [if_neg (by simp)]
    rw [← hRES]
    unfold RT.val
    dsimp only
    clear hst hv hRES
    go_enter Try.func22, Try.ntmps22
    go_wp2_with fail
    refine (HW.out _ _).mono ?_
    rintro e w1 ⟨he, hb1⟩
    have hbx := HST.out.over hb1
    obtain ⟨⟨s0, s1, s2, s3⟩, ⟨t0, t1, t2, t3⟩, fa, fb, hs⟩ := hbx.cells
    have HBX := Lib.hid hbx
    have HBW := Lib.hid hbx.below
    have hw1 := hbx.below.size
    have fa0 := fa 0
    have fa1 := fa 1
    have fa2 := fa 2
    have fa3 := fa 3
    have fb0 := fb 0
    have fb1 := fb 1
    have fb2 := fb 2
    have fb3 := fb 3
    dsimp only at s0 s1 s2 s3
    clear hbx hb1 HST HW fa fb
    cases hg : ns.all goodB
    · rw [hg] at he
      simp only [Bool.false_eq_true, if_false] at he
      subst he
      have hX := HX.out
      rw [hg] at hX
      simp only [if_true] at hX
      have HX := Lib.hid hX
      clear hX hg
      go_wp2
      refine bodyPost_ret (v := .tuple #[.agg #[.string (str now), .string (str other), .int .i64 bu, .bool false], .int .i64 180]) (by simp [results, Try.results22, go_sem, t0, t1, t2, t3]) rfl ?_
      rw [HX.out]
      refine ⟨rfl, ?_⟩
      repeat (first | with_reducible exact Below.refl _ _ | with_reducible exact HBW.out | (with_reducible refine below_draws ?_ _) | (with_reducible refine Below.setCell ?_ (by simp <;> omega) _) | (with_reducible refine Below.alloc ?_ (by simp <;> omega) _))
    · rw [hg] at he
      simp only [if_true] at he
      subst he
      have hX := HX.out
      rw [hg] at hX
      simp only [Bool.true_eq_false, if_false] at hX
      have hel := encL_len ns (fun n hn => List.all_eq_true.1 hg n hn)
      have hz1 := str_size other
      have hz2 := str_size (encL ns)
      generalize encL ns = E at *
      have hel2 : E.length ≤ 19456 := by omega
      have hfull : ¬ 2 ^ 16 < E.length := by omega
      rw [if_neg hfull] at hX
      have HX := Lib.hid hX
      clear hX hg
      by_cases hwp : 0 < other.length
      · have hwpi : (0 : Int) < (other.length : Int) := by omega
        have HSM := Lib.hid (fun wq => rsome_any ⟨now, other, bu, false⟩ 1 wq hb (by omega))
        have hk := some_keeps ⟨now, other, bu, false⟩ 1
        have hbd := some_budget ⟨now, other, bu, false⟩ 1 hb
        have hwipe : RT.wipe ⟨now, other, bu, false⟩ = if (RT.some ⟨now, other, bu, false⟩ 1).1.dead then (RT.some ⟨now, other, bu, false⟩ 1).1 else { (RT.some ⟨now, other, bu, false⟩ 1).1 with other := [] } := by unfold RT.wipe; rw [if_pos hwp]
        dsimp only at hk
        obtain ⟨hk1, hk2⟩ := hk
        unfold RT.val at HSM
        dsimp only at HSM
        rw [hk1, hk2] at HSM
        generalize (RT.some ⟨now, other, bu, false⟩ 1) = q at *
        obtain ⟨⟨qn, qo, qb, qd⟩, qk⟩ := q
        dsimp only at hk1 hk2 HSM hwipe hbd
        subst hk1 hk2
        rw [hwipe] at HX
        clear hwipe
        go_wp2_with fail
        refine (HSM.out _).mono ?_
        rintro e w3 ⟨rfl, hb3⟩
        have hbx3 := HBX.out.over hb3
        have hbx4 := hbx3.put ⟨qn, qo, qb, qd⟩
        dsimp only at hbx4
        clear s0 s1 s2 s3 t0 t1 t2 t3 fa0 fa1 fa2 fa3 fb0 fb1 fb2 fb3 HBX HBW hw1 hs
        obtain ⟨⟨s0, s1, s2, s3⟩, ⟨t0, t1, t2, t3⟩, fa, fb, hs⟩ := hbx3.cells
        have HBX := Lib.hid hbx3
        have HBW := Lib.hid hbx3.below
        have hw1 := hbx3.below.size
        have fa0 := fa 0
        have fa1 := fa 1
        have fa2 := fa 2
        have fa3 := fa 3
        have fb0 := fb 0
        have fb1 := fb 1
        have fb2 := fb 2
        have fb3 := fb 3
        dsimp only at s0 s1 s2 s3
        clear fa fb hbx3 hb3 HSM
        have HBX4 := Lib.hid hbx4
        clear hbx4
        cases qd
        · have hX := HX.out
          simp only [Bool.false_eq_true, if_false] at hX
          have HX := Lib.hid hX
          clear hX
          have hbx5 := HBX4.out.other []
          dsimp only at hbx5
          have HBX5 := Lib.hid hbx5
          have hX := HX.out
          have HX := Lib.hid hX
          clear hbx5 hX HBX4
          iterate 43 (first | go_values | go_skip | go_guarded | go_step | go_upon | go_back | (simp only [Int.not_lt, Int.not_le] at *; go_simp) | (go_values <;> (try go_simp)) | (go_ite <;> go_prune <;> (try go_simp)))
          obtain ⟨w5, e5⟩ : ∃ w5 : World, w5 = (((((w3.setCell ⟨w.heap.size, 0, none⟩ (.string (str qn))).setCell ⟨w.heap.size, 1, none⟩ (.string (str qo))).setCell ⟨w.heap.size, 2, none⟩ (.int .i64 qb)).setCell ⟨w.heap.size, 3, none⟩ (.bool false)).setCell ⟨w.heap.size, 1, none⟩ (.string { data := #[] })) := ⟨_, rfl⟩
          have hbx5 := HBX5.out
          rw [show (((((w3.setCell ⟨w.heap.size, 0, none⟩ (.string (str qn))).setCell ⟨w.heap.size, 1, none⟩ (.string (str qo))).setCell ⟨w.heap.size, 2, none⟩ (.int .i64 qb)).setCell ⟨w.heap.size, 3, none⟩ (.bool false)).setCell ⟨w.heap.size, 1, none⟩ (.string (str []))) = w5 by rw [e5]; rfl] at hbx5
          rw [← e5]
          clear e5 HBX5 s0 s1 s2 s3 t0 t1 t2 t3 fa0 fa1 fa2 fa3 fb0 fb1 fb2 fb3 HBX HBW hw1 hs hwp hwpi hz1 ho
          obtain ⟨⟨s0, s1, s2, s3⟩, ⟨t0, t1, t2, t3⟩, fa, fb, hs⟩ := hbx5.cells
          have HBX := Lib.hid hbx5
          have HBW := Lib.hid hbx5.below
          have hw1 := hbx5.below.size
          have fa0 := fa 0
          have fa1 := fa 1
          have fa2 := fa 2
          have fa3 := fa 3
          have fb0 := fb 0
          have fb1 := fb 1
          have fb2 := fb 2
          have fb3 := fb 3
          dsimp only at s0 s1 s2 s3
          clear fa fb hbx5
          have hX := HX.out
          rw [show RT.fill ⟨qn, [], qb, false⟩ E = { (RT.some ⟨qn, [], qb, false⟩ E.length).1 with other := E.take (RT.some ⟨qn, [], qb, false⟩ E.length).2 } from rfl] at hX
          clear HX
          have HSM := Lib.hid (fun wq => rsome_any ⟨qn, [], qb, false⟩ E.length wq hbd (by omega))
          have hk := some_keeps ⟨qn, [], qb, false⟩ E.length
          have hkl := some_le ⟨qn, [], qb, false⟩ E.length
          have hbd2 := some_budget ⟨qn, [], qb, false⟩ E.length hbd
          dsimp only at hk
          obtain ⟨hk1, hk2⟩ := hk
          unfold RT.val at HSM
          dsimp only at HSM
          rw [hk1, hk2] at HSM
          generalize (RT.some ⟨qn, [], qb, false⟩ E.length) = q at *
          obtain ⟨⟨pn, po, pb, pd⟩, pk⟩ := q
          dsimp only at hk1 hk2 HSM hX hbd2 hkl
          subst hk1 hk2
          have htk := Lib.hid (str_take E pk)
          have hz3 : pk ≤ (str E).size := by rw [hz2]; exact hkl
          have HX := Lib.hid hX
          clear hX
          go_wp2_with fail
          refine (HSM.out _).mono ?_
          rintro e w6 ⟨rfl, hb6⟩
          have hbx6 := HBX.out.over hb6
          have hbx7 := (hbx6.put ⟨pn, [], pb, pd⟩).other (E.take pk)
          dsimp only at hbx7
          have HBX7 := Lib.hid hbx7
          clear hbx7 hb6 HSM s0 s1 s2 s3 t0 t1 t2 t3 fa0 fa1 fa2 fa3 fb0 fb1 fb2 fb3 HBX HBW hw1 hs
          obtain ⟨⟨s0, s1, s2, s3⟩, ⟨t0, t1, t2, t3⟩, fa, fb, hs⟩ := hbx6.cells
          have HBX := Lib.hid hbx6
          have HBW := Lib.hid hbx6.below
          have hw1 := hbx6.below.size
          have fa0 := fa 0
          have fa1 := fa 1
          have fa2 := fa 2
          have fa3 := fa 3
          have fb0 := fb 0
          have fb1 := fb 1
          have fb2 := fb 2
          have fb3 := fb 3
          dsimp only at s0 s1 s2 s3
          clear fa fb hbx6
          generalize hTK : E.take pk = X at *
          clear hTK
          iterate 36 (first | go_values | go_skip | go_guarded | go_step | go_upon | go_back | (simp only [Int.not_lt, Int.not_le] at *; go_simp) | (go_values <;> (try go_simp)) | (go_ite <;> go_prune <;> (try go_simp)))
          rw [htk.out]
          obtain ⟨w7, e7⟩ : ∃ w7 : World, w7 = (((((w6.setCell ⟨w.heap.size, 0, none⟩ (.string (str pn))).setCell ⟨w.heap.size, 1, none⟩ (.string (str []))).setCell ⟨w.heap.size, 2, none⟩ (.int .i64 pb)).setCell ⟨w.heap.size, 3, none⟩ (.bool pd)).setCell ⟨w.heap.size, 1, none⟩ (.string (str X))) := ⟨_, rfl⟩
          rw [← e7]
          have hbx7 := HBX7.out
          rw [← e7] at hbx7
          clear e7 HBX7 s0 s1 s2 s3 t0 t1 t2 t3 fa0 fa1 fa2 fa3 fb0 fb1 fb2 fb3 HBX HBW hw1 hs
          obtain ⟨⟨s0, s1, s2, s3⟩, ⟨t0, t1, t2, t3⟩, fa, fb, hs⟩ := hbx7.cells
          have HBX := Lib.hid hbx7
          have HBW := Lib.hid hbx7.below
          have hw1 := hbx7.below.size
          have fa0 := fa 0
          have fa1 := fa 1
          have fa2 := fa 2
          have fa3 := fa 3
          have fb0 := fb 0
          have fb1 := fb 1
          have fb2 := fb 2
          have fb3 := fb 3
          dsimp only at s0 s1 s2 s3
          clear fa fb hbx7 hbd hkl hz2 hz3 htk hel hel2 hfull
          cases pd
          · have hX := HX.out
            rw [if_neg (by simp)] at hX
            have HX := Lib.hid hX
            clear hX
            have hbd := hbd2
            have hX := HX.out
            rw [show RT.swap ⟨pn, X, pb, false⟩ = if (RT.some ⟨pn, X, pb, false⟩ 1).1.dead then (RT.some ⟨pn, X, pb, false⟩ 1).1 else { (RT.some ⟨pn, X, pb, false⟩ 1).1 with now := X, other := pn } from rfl] at hX
            clear HX hbd2
            have HSM := Lib.hid (fun wq => rsome_any ⟨pn, X, pb, false⟩ 1 wq hbd (by omega))
            have hk := some_keeps ⟨pn, X, pb, false⟩ 1
            have hkl := some_le ⟨pn, X, pb, false⟩ 1
            have hbd2 := some_budget ⟨pn, X, pb, false⟩ 1 hbd
            dsimp only at hk
            obtain ⟨hk1, hk2⟩ := hk
            unfold RT.val at HSM
            dsimp only at HSM
            rw [hk1, hk2] at HSM
            generalize (RT.some ⟨pn, X, pb, false⟩ 1) = q at *
            obtain ⟨⟨rn, ro, rb, rd⟩, rk⟩ := q
            dsimp only at hk1 hk2 HSM hX hbd2 hkl
            subst hk1 hk2
            have HX := Lib.hid hX
            clear hX
            go_wp2_with fail
            refine (HSM.out _).mono ?_
            rintro e w8 ⟨rfl, hb8⟩
            have hbx8 := HBX.out.over hb8
            have HBX9 := Lib.hid (hbx8.put ⟨rn, ro, rb, rd⟩)
            clear hb8 HSM s0 s1 s2 s3 t0 t1 t2 t3 fa0 fa1 fa2 fa3 fb0 fb1 fb2 fb3 HBX HBW hw1 hs
            obtain ⟨⟨s0, s1, s2, s3⟩, ⟨t0, t1, t2, t3⟩, fa, fb, hs⟩ := hbx8.cells
            have HBX := Lib.hid hbx8
            have HBW := Lib.hid hbx8.below
            have hw1 := hbx8.below.size
            have fa0 := fa 0
            have fa1 := fa 1
            have fa2 := fa 2
            have fa3 := fa 3
            have fb0 := fb 0
            have fb1 := fb 1
            have fb2 := fb 2
            have fb3 := fb 3
            dsimp only at s0 s1 s2 s3
            clear fa fb hbx8
            cases rd
            · have hX := HX.out
              rw [if_neg (by simp), if_neg (by simp)] at hX
              have HX := Lib.hid hX
              clear hX
              iterate 58 (first | go_values | go_skip | go_guarded | go_step | go_upon | go_back | (simp only [Int.not_lt, Int.not_le] at *; go_simp) | (go_values <;> (try go_simp)) | (go_ite <;> go_prune <;> (try go_simp)))
              obtain ⟨w9, e9⟩ : ∃ w9 : World, w9 = ((((((w8.setCell ⟨w.heap.size, 0, none⟩ (.string (str rn))).setCell ⟨w.heap.size, 1, none⟩ (.string (str ro))).setCell ⟨w.heap.size, 2, none⟩ (.int .i64 rb)).setCell ⟨w.heap.size, 3, none⟩ (.bool false)).setCell ⟨w.heap.size, 0, none⟩ (.string (str ro))).setCell ⟨w.heap.size, 1, none⟩ (.string (str rn))) := ⟨_, rfl⟩
              rw [← e9]
              have hbx9 := (HBX9.out.now ro).other rn
              rw [← e9] at hbx9
              clear e9 HBX9 s0 s1 s2 s3 t0 t1 t2 t3 fa0 fa1 fa2 fa3 fb0 fb1 fb2 fb3 HBX HBW hw1 hs
              obtain ⟨⟨s0, s1, s2, s3⟩, ⟨t0, t1, t2, t3⟩, fa, fb, hs⟩ := hbx9.cells
              have HBX := Lib.hid hbx9
              have HBW := Lib.hid hbx9.below
              have hw1 := hbx9.below.size
              have fa0 := fa 0
              have fa1 := fa 1
              have fa2 := fa 2
              have fa3 := fa 3
              have fb0 := fb 0
              have fb1 := fb 1
              have fb2 := fb 2
              have fb3 := fb 3
              dsimp only at s0 s1 s2 s3
              clear fa fb hbx9 t0 t1 t2 t3 fb0 fb1 fb2 fb3
              have HCD := Lib.hid (fun wq => rcode_any ⟨ro, rn, rb, false⟩ wq)
              unfold RT.val RT.code at HCD
              dsimp only at HCD
              simp only [Bool.false_eq_true, if_false] at HCD
              go_wp2_with fail
              go_region_held3 (fun w' => w'.cell? ⟨w.heap.size, 0, none⟩ = some (.string (str ro)) ∧ w'.cell? ⟨w.heap.size, 1, none⟩ = some (.string (str rn)) ∧ w'.cell? ⟨w.heap.size, 2, none⟩ = some (.int .i64 rb) ∧ w'.cell? ⟨w.heap.size, 3, none⟩ = some (.bool false)) (go_keep) ((go_at_call 36; refine (HCD.out _).mono ?_; rintro e w10 ⟨rfl, hb10⟩; have hbx10 := HBX.out.over (w' := w10) (below_undrew hb10); obtain ⟨⟨a0, a1, a2, a3⟩, ⟨b0, b1, b2, b3⟩, ga, gb, hs10⟩ := hbx10.cells; dsimp only at a0 a1 a2 a3; have gb0 := gb 0; have gb1 := gb 1; have gb2 := gb 2; have gb3 := gb 3; have HBX10 := Lib.hid hbx10; clear hbx10 hb10 ga gb))
              all_goals
                have HBW := Lib.hid HBX10.out.below
                have hw6 := HBW.out.size
                go_wp2
                refine bodyPost_ret (v := .tuple #[.agg #[.string (str ro), .string (str rn), .int .i64 rb, .bool false], .int .i64 0]) (by simp [results, Try.results22, go_sem, b0, b1, b2, b3]) rfl ?_
                rw [HX.out]
                refine ⟨rfl, ?_⟩
                repeat (first | with_reducible exact Below.refl _ _ | with_reducible exact HBW.out | (with_reducible refine below_draws ?_ _) | (with_reducible refine Below.setCell ?_ (by simp <;> omega) _) | (with_reducible refine Below.alloc ?_ (by simp <;> omega) _))
            · have hX := HX.out
              rw [if_pos rfl, if_pos rfl] at hX
              have HX := Lib.hid hX
              clear hX
              iterate 30 (first | go_values | go_skip | go_guarded | go_step | go_upon | go_back | (simp only [Int.not_lt, Int.not_le] at *; go_simp) | (go_values <;> (try go_simp)) | (go_ite <;> go_prune <;> (try go_simp)))
              obtain ⟨w9, e9⟩ : ∃ w9 : World, w9 = ((((w8.setCell ⟨w.heap.size, 0, none⟩ (.string (str rn))).setCell ⟨w.heap.size, 1, none⟩ (.string (str ro))).setCell ⟨w.heap.size, 2, none⟩ (.int .i64 rb)).setCell ⟨w.heap.size, 3, none⟩ (.bool true)) := ⟨_, rfl⟩
              rw [← e9]
              have hbx9 := HBX9.out
              rw [← e9] at hbx9
              clear e9 HBX9 s0 s1 s2 s3 t0 t1 t2 t3 fa0 fa1 fa2 fa3 fb0 fb1 fb2 fb3 HBX HBW hw1 hs
              obtain ⟨⟨s0, s1, s2, s3⟩, ⟨t0, t1, t2, t3⟩, fa, fb, hs⟩ := hbx9.cells
              have HBX := Lib.hid hbx9
              have HBW := Lib.hid hbx9.below
              have hw1 := hbx9.below.size
              have fa0 := fa 0
              have fa1 := fa 1
              have fa2 := fa 2
              have fa3 := fa 3
              have fb0 := fb 0
              have fb1 := fb 1
              have fb2 := fb 2
              have fb3 := fb 3
              dsimp only at s0 s1 s2 s3
              clear fa fb hbx9 t0 t1 t2 t3 fb0 fb1 fb2 fb3
              have HCD := Lib.hid (fun wq => rcode_any ⟨rn, ro, rb, true⟩ wq)
              unfold RT.val RT.code at HCD
              dsimp only at HCD
              simp only [if_true] at HCD
              go_wp2_with fail
              go_region_held3 (fun w' => w'.cell? ⟨w.heap.size, 0, none⟩ = some (.string (str rn)) ∧ w'.cell? ⟨w.heap.size, 1, none⟩ = some (.string (str ro)) ∧ w'.cell? ⟨w.heap.size, 2, none⟩ = some (.int .i64 rb) ∧ w'.cell? ⟨w.heap.size, 3, none⟩ = some (.bool true)) (go_keep) ((go_at_call 36; refine (HCD.out _).mono ?_; rintro e w10 ⟨rfl, hb10⟩; have hbx10 := HBX.out.over (w' := w10) (below_undrew hb10); obtain ⟨⟨a0, a1, a2, a3⟩, ⟨b0, b1, b2, b3⟩, ga, gb, hs10⟩ := hbx10.cells; dsimp only at a0 a1 a2 a3; have gb0 := gb 0; have gb1 := gb 1; have gb2 := gb 2; have gb3 := gb 3; have HBX10 := Lib.hid hbx10; clear hbx10 hb10 ga gb))
              all_goals
                have HBW := Lib.hid HBX10.out.below
                have hw6 := HBW.out.size
                go_wp2
                refine bodyPost_ret (v := .tuple #[.agg #[.string (str rn), .string (str ro), .int .i64 rb, .bool true], .int .i64 190]) (by simp [results, Try.results22, go_sem, b0, b1, b2, b3]) rfl ?_
                rw [HX.out]
                refine ⟨rfl, ?_⟩
                repeat (first | with_reducible exact Below.refl _ _ | with_reducible exact HBW.out | (with_reducible refine below_draws ?_ _) | (with_reducible refine Below.setCell ?_ (by simp <;> omega) _) | (with_reducible refine Below.alloc ?_ (by simp <;> omega) _))
          · have hX := HX.out
            rw [if_pos rfl] at hX
            have HX := Lib.hid hX
            clear hX
            go_wp2_with fail
            refine bodyPost_ret (v := .tuple #[.agg #[.string (str pn), .string (str X), .int .i64 pb, .bool true], .int .i64 190]) (by simp [results, Try.results22, go_sem, t0, t1, t2, t3]) rfl ?_
            rw [HX.out]
            refine ⟨rfl, ?_⟩
            repeat (first | with_reducible exact Below.refl _ _ | with_reducible exact HBW.out | (with_reducible refine below_draws ?_ _) | (with_reducible refine Below.setCell ?_ (by simp <;> omega) _) | (with_reducible refine Below.alloc ?_ (by simp <;> omega) _))
        · have hX := HX.out
          simp only [if_true] at hX
          have HX := Lib.hid hX
          clear hX
          go_wp2
          refine bodyPost_ret (v := .tuple #[.agg #[.string (str qn), .string (str qo), .int .i64 qb, .bool true], .int .i64 190]) (by simp [results, Try.results22, go_sem, t0, t1, t2, t3]) rfl ?_
          rw [HX.out]
          refine ⟨rfl, ?_⟩
          repeat (first | with_reducible exact Below.refl _ _ | with_reducible exact HBW.out | (with_reducible refine below_draws ?_ _) | (with_reducible refine Below.setCell ?_ (by simp <;> omega) _) | (with_reducible refine Below.alloc ?_ (by simp <;> omega) _))
      · have ho0 : other = [] := List.eq_nil_of_length_eq_zero (by omega)
        subst ho0
        have hX := HX.out
        rw [show RT.wipe ⟨now, [], bu, false⟩ = ⟨now, [], bu, false⟩ by unfold RT.wipe; rw [if_neg (by simp)]] at hX
        rw [if_neg (by simp)] at hX
        clear HX
        have HX := Lib.hid hX
        have hbx5 := HBX.out
        have hbd := hb
        have hz0 : (str []).size = 0 := rfl
        clear hX hwp hz1 ho s0 s1 s2 s3 t0 t1 t2 t3 fa0 fa1 fa2 fa3 fb0 fb1 fb2 fb3 HBX HBW hw1 hs
        obtain ⟨⟨s0, s1, s2, s3⟩, ⟨t0, t1, t2, t3⟩, fa, fb, hs⟩ := hbx5.cells
        have HBX := Lib.hid hbx5
        have HBW := Lib.hid hbx5.below
        have hw1 := hbx5.below.size
        have fa0 := fa 0
        have fa1 := fa 1
        have fa2 := fa 2
        have fa3 := fa 3
        have fb0 := fb 0
        have fb1 := fb 1
        have fb2 := fb 2
        have fb3 := fb 3
        dsimp only at s0 s1 s2 s3
        clear fa fb hbx5
        have hX := HX.out
        rw [show RT.fill ⟨now, [], bu, false⟩ E = { (RT.some ⟨now, [], bu, false⟩ E.length).1 with other := E.take (RT.some ⟨now, [], bu, false⟩ E.length).2 } from rfl] at hX
        clear HX
        have HSM := Lib.hid (fun wq => rsome_any ⟨now, [], bu, false⟩ E.length wq hbd (by omega))
        have hk := some_keeps ⟨now, [], bu, false⟩ E.length
        have hkl := some_le ⟨now, [], bu, false⟩ E.length
        have hbd2 := some_budget ⟨now, [], bu, false⟩ E.length hbd
        dsimp only at hk
        obtain ⟨hk1, hk2⟩ := hk
        unfold RT.val at HSM
        dsimp only at HSM
        rw [hk1, hk2] at HSM
        generalize (RT.some ⟨now, [], bu, false⟩ E.length) = q at *
        obtain ⟨⟨pn, po, pb, pd⟩, pk⟩ := q
        dsimp only at hk1 hk2 HSM hX hbd2 hkl
        subst hk1 hk2
        have htk := Lib.hid (str_take E pk)
        have hz3 : pk ≤ (str E).size := by rw [hz2]; exact hkl
        have HX := Lib.hid hX
        clear hX
        go_wp2_with fail
        refine (HSM.out _).mono ?_
        rintro e w6 ⟨rfl, hb6⟩
        have hbx6 := HBX.out.over hb6
        have hbx7 := (hbx6.put ⟨pn, [], pb, pd⟩).other (E.take pk)
        dsimp only at hbx7
        have HBX7 := Lib.hid hbx7
        clear hbx7 hb6 HSM s0 s1 s2 s3 t0 t1 t2 t3 fa0 fa1 fa2 fa3 fb0 fb1 fb2 fb3 HBX HBW hw1 hs
        obtain ⟨⟨s0, s1, s2, s3⟩, ⟨t0, t1, t2, t3⟩, fa, fb, hs⟩ := hbx6.cells
        have HBX := Lib.hid hbx6
        have HBW := Lib.hid hbx6.below
        have hw1 := hbx6.below.size
        have fa0 := fa 0
        have fa1 := fa 1
        have fa2 := fa 2
        have fa3 := fa 3
        have fb0 := fb 0
        have fb1 := fb 1
        have fb2 := fb 2
        have fb3 := fb 3
        dsimp only at s0 s1 s2 s3
        clear fa fb hbx6
        generalize hTK : E.take pk = X at *
        clear hTK
        iterate 36 (first | go_values | go_skip | go_guarded | go_step | go_upon | go_back | (simp only [Int.not_lt, Int.not_le] at *; go_simp) | (go_values <;> (try go_simp)) | (go_ite <;> go_prune <;> (try go_simp)))
        rw [htk.out]
        obtain ⟨w7, e7⟩ : ∃ w7 : World, w7 = (((((w6.setCell ⟨w.heap.size, 0, none⟩ (.string (str pn))).setCell ⟨w.heap.size, 1, none⟩ (.string (str []))).setCell ⟨w.heap.size, 2, none⟩ (.int .i64 pb)).setCell ⟨w.heap.size, 3, none⟩ (.bool pd)).setCell ⟨w.heap.size, 1, none⟩ (.string (str X))) := ⟨_, rfl⟩
        rw [← e7]
        have hbx7 := HBX7.out
        rw [← e7] at hbx7
        clear e7 HBX7 s0 s1 s2 s3 t0 t1 t2 t3 fa0 fa1 fa2 fa3 fb0 fb1 fb2 fb3 HBX HBW hw1 hs
        obtain ⟨⟨s0, s1, s2, s3⟩, ⟨t0, t1, t2, t3⟩, fa, fb, hs⟩ := hbx7.cells
        have HBX := Lib.hid hbx7
        have HBW := Lib.hid hbx7.below
        have hw1 := hbx7.below.size
        have fa0 := fa 0
        have fa1 := fa 1
        have fa2 := fa 2
        have fa3 := fa 3
        have fb0 := fb 0
        have fb1 := fb 1
        have fb2 := fb 2
        have fb3 := fb 3
        dsimp only at s0 s1 s2 s3
        clear fa fb hbx7 hbd hkl hz2 hz3 htk hel hel2 hfull
        cases pd
        · have hX := HX.out
          rw [if_neg (by simp)] at hX
          have HX := Lib.hid hX
          clear hX
          have hbd := hbd2
          have hX := HX.out
          rw [show RT.swap ⟨pn, X, pb, false⟩ = if (RT.some ⟨pn, X, pb, false⟩ 1).1.dead then (RT.some ⟨pn, X, pb, false⟩ 1).1 else { (RT.some ⟨pn, X, pb, false⟩ 1).1 with now := X, other := pn } from rfl] at hX
          clear HX hbd2
          have HSM := Lib.hid (fun wq => rsome_any ⟨pn, X, pb, false⟩ 1 wq hbd (by omega))
          have hk := some_keeps ⟨pn, X, pb, false⟩ 1
          have hkl := some_le ⟨pn, X, pb, false⟩ 1
          have hbd2 := some_budget ⟨pn, X, pb, false⟩ 1 hbd
          dsimp only at hk
          obtain ⟨hk1, hk2⟩ := hk
          unfold RT.val at HSM
          dsimp only at HSM
          rw [hk1, hk2] at HSM
          generalize (RT.some ⟨pn, X, pb, false⟩ 1) = q at *
          obtain ⟨⟨rn, ro, rb, rd⟩, rk⟩ := q
          dsimp only at hk1 hk2 HSM hX hbd2 hkl
          subst hk1 hk2
          have HX := Lib.hid hX
          clear hX
          go_wp2_with fail
          refine (HSM.out _).mono ?_
          rintro e w8 ⟨rfl, hb8⟩
          have hbx8 := HBX.out.over hb8
          have HBX9 := Lib.hid (hbx8.put ⟨rn, ro, rb, rd⟩)
          clear hb8 HSM s0 s1 s2 s3 t0 t1 t2 t3 fa0 fa1 fa2 fa3 fb0 fb1 fb2 fb3 HBX HBW hw1 hs
          obtain ⟨⟨s0, s1, s2, s3⟩, ⟨t0, t1, t2, t3⟩, fa, fb, hs⟩ := hbx8.cells
          have HBX := Lib.hid hbx8
          have HBW := Lib.hid hbx8.below
          have hw1 := hbx8.below.size
          have fa0 := fa 0
          have fa1 := fa 1
          have fa2 := fa 2
          have fa3 := fa 3
          have fb0 := fb 0
          have fb1 := fb 1
          have fb2 := fb 2
          have fb3 := fb 3
          dsimp only at s0 s1 s2 s3
          clear fa fb hbx8
          cases rd
          · have hX := HX.out
            rw [if_neg (by simp), if_neg (by simp)] at hX
            have HX := Lib.hid hX
            clear hX
            iterate 58 (first | go_values | go_skip | go_guarded | go_step | go_upon | go_back | (simp only [Int.not_lt, Int.not_le] at *; go_simp) | (go_values <;> (try go_simp)) | (go_ite <;> go_prune <;> (try go_simp)))
            obtain ⟨w9, e9⟩ : ∃ w9 : World, w9 = ((((((w8.setCell ⟨w.heap.size, 0, none⟩ (.string (str rn))).setCell ⟨w.heap.size, 1, none⟩ (.string (str ro))).setCell ⟨w.heap.size, 2, none⟩ (.int .i64 rb)).setCell ⟨w.heap.size, 3, none⟩ (.bool false)).setCell ⟨w.heap.size, 0, none⟩ (.string (str ro))).setCell ⟨w.heap.size, 1, none⟩ (.string (str rn))) := ⟨_, rfl⟩
            rw [← e9]
            have hbx9 := (HBX9.out.now ro).other rn
            rw [← e9] at hbx9
            clear e9 HBX9 s0 s1 s2 s3 t0 t1 t2 t3 fa0 fa1 fa2 fa3 fb0 fb1 fb2 fb3 HBX HBW hw1 hs
            obtain ⟨⟨s0, s1, s2, s3⟩, ⟨t0, t1, t2, t3⟩, fa, fb, hs⟩ := hbx9.cells
            have HBX := Lib.hid hbx9
            have HBW := Lib.hid hbx9.below
            have hw1 := hbx9.below.size
            have fa0 := fa 0
            have fa1 := fa 1
            have fa2 := fa 2
            have fa3 := fa 3
            have fb0 := fb 0
            have fb1 := fb 1
            have fb2 := fb 2
            have fb3 := fb 3
            dsimp only at s0 s1 s2 s3
            clear fa fb hbx9 t0 t1 t2 t3 fb0 fb1 fb2 fb3
            have HCD := Lib.hid (fun wq => rcode_any ⟨ro, rn, rb, false⟩ wq)
            unfold RT.val RT.code at HCD
            dsimp only at HCD
            simp only [Bool.false_eq_true, if_false] at HCD
            go_wp2_with fail
            go_region_held3 (fun w' => w'.cell? ⟨w.heap.size, 0, none⟩ = some (.string (str ro)) ∧ w'.cell? ⟨w.heap.size, 1, none⟩ = some (.string (str rn)) ∧ w'.cell? ⟨w.heap.size, 2, none⟩ = some (.int .i64 rb) ∧ w'.cell? ⟨w.heap.size, 3, none⟩ = some (.bool false)) (go_keep) ((go_at_call 36; refine (HCD.out _).mono ?_; rintro e w10 ⟨rfl, hb10⟩; have hbx10 := HBX.out.over (w' := w10) (below_undrew hb10); obtain ⟨⟨a0, a1, a2, a3⟩, ⟨b0, b1, b2, b3⟩, ga, gb, hs10⟩ := hbx10.cells; dsimp only at a0 a1 a2 a3; have gb0 := gb 0; have gb1 := gb 1; have gb2 := gb 2; have gb3 := gb 3; have HBX10 := Lib.hid hbx10; clear hbx10 hb10 ga gb))
            all_goals
              have HBW := Lib.hid HBX10.out.below
              have hw6 := HBW.out.size
              go_wp2
              refine bodyPost_ret (v := .tuple #[.agg #[.string (str ro), .string (str rn), .int .i64 rb, .bool false], .int .i64 0]) (by simp [results, Try.results22, go_sem, b0, b1, b2, b3]) rfl ?_
              rw [HX.out]
              refine ⟨rfl, ?_⟩
              repeat (first | with_reducible exact Below.refl _ _ | with_reducible exact HBW.out | (with_reducible refine below_draws ?_ _) | (with_reducible refine Below.setCell ?_ (by simp <;> omega) _) | (with_reducible refine Below.alloc ?_ (by simp <;> omega) _))
          · have hX := HX.out
            rw [if_pos rfl, if_pos rfl] at hX
            have HX := Lib.hid hX
            clear hX
            iterate 30 (first | go_values | go_skip | go_guarded | go_step | go_upon | go_back | (simp only [Int.not_lt, Int.not_le] at *; go_simp) | (go_values <;> (try go_simp)) | (go_ite <;> go_prune <;> (try go_simp)))
            obtain ⟨w9, e9⟩ : ∃ w9 : World, w9 = ((((w8.setCell ⟨w.heap.size, 0, none⟩ (.string (str rn))).setCell ⟨w.heap.size, 1, none⟩ (.string (str ro))).setCell ⟨w.heap.size, 2, none⟩ (.int .i64 rb)).setCell ⟨w.heap.size, 3, none⟩ (.bool true)) := ⟨_, rfl⟩
            rw [← e9]
            have hbx9 := HBX9.out
            rw [← e9] at hbx9
            clear e9 HBX9 s0 s1 s2 s3 t0 t1 t2 t3 fa0 fa1 fa2 fa3 fb0 fb1 fb2 fb3 HBX HBW hw1 hs
            obtain ⟨⟨s0, s1, s2, s3⟩, ⟨t0, t1, t2, t3⟩, fa, fb, hs⟩ := hbx9.cells
            have HBX := Lib.hid hbx9
            have HBW := Lib.hid hbx9.below
            have hw1 := hbx9.below.size
            have fa0 := fa 0
            have fa1 := fa 1
            have fa2 := fa 2
            have fa3 := fa 3
            have fb0 := fb 0
            have fb1 := fb 1
            have fb2 := fb 2
            have fb3 := fb 3
            dsimp only at s0 s1 s2 s3
            clear fa fb hbx9 t0 t1 t2 t3 fb0 fb1 fb2 fb3
            have HCD := Lib.hid (fun wq => rcode_any ⟨rn, ro, rb, true⟩ wq)
            unfold RT.val RT.code at HCD
            dsimp only at HCD
            simp only [if_true] at HCD
            go_wp2_with fail
            go_region_held3 (fun w' => w'.cell? ⟨w.heap.size, 0, none⟩ = some (.string (str rn)) ∧ w'.cell? ⟨w.heap.size, 1, none⟩ = some (.string (str ro)) ∧ w'.cell? ⟨w.heap.size, 2, none⟩ = some (.int .i64 rb) ∧ w'.cell? ⟨w.heap.size, 3, none⟩ = some (.bool true)) (go_keep) ((go_at_call 36; refine (HCD.out _).mono ?_; rintro e w10 ⟨rfl, hb10⟩; have hbx10 := HBX.out.over (w' := w10) (below_undrew hb10); obtain ⟨⟨a0, a1, a2, a3⟩, ⟨b0, b1, b2, b3⟩, ga, gb, hs10⟩ := hbx10.cells; dsimp only at a0 a1 a2 a3; have gb0 := gb 0; have gb1 := gb 1; have gb2 := gb 2; have gb3 := gb 3; have HBX10 := Lib.hid hbx10; clear hbx10 hb10 ga gb))
            all_goals
              have HBW := Lib.hid HBX10.out.below
              have hw6 := HBW.out.size
              go_wp2
              refine bodyPost_ret (v := .tuple #[.agg #[.string (str rn), .string (str ro), .int .i64 rb, .bool true], .int .i64 190]) (by simp [results, Try.results22, go_sem, b0, b1, b2, b3]) rfl ?_
              rw [HX.out]
              refine ⟨rfl, ?_⟩
              repeat (first | with_reducible exact Below.refl _ _ | with_reducible exact HBW.out | (with_reducible refine below_draws ?_ _) | (with_reducible refine Below.setCell ?_ (by simp <;> omega) _) | (with_reducible refine Below.alloc ?_ (by simp <;> omega) _))
        · have hX := HX.out
          rw [if_pos rfl] at hX
          have HX := Lib.hid hX
          clear hX
          go_wp2_with fail
          refine bodyPost_ret (v := .tuple #[.agg #[.string (str pn), .string (str X), .int .i64 pb, .bool true], .int .i64 190]) (by simp [results, Try.results22, go_sem, t0, t1, t2, t3]) rfl ?_
          rw [HX.out]
          refine ⟨rfl, ?_⟩
          repeat (first | with_reducible exact Below.refl _ _ | with_reducible exact HBW.out | (with_reducible refine below_draws ?_ _) | (with_reducible refine Below.setCell ?_ (by simp <;> omega) _) | (with_reducible refine Below.alloc ?_ (by simp <;> omega) _))
end Go.Proofs.Ytdclgmffgidcmaa
