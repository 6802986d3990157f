/- The reference's tape: Good, Repair. -/
import Derived.Test.YtdclgmffgidcmaaRef19b
import Derived.Lib.ConvBytes
namespace Go.Proofs.Ytdclgmffgidcmaa
set_option linter.unusedSimpArgs false
set_option linter.unusedVariables false
open Go.RowKit

/-- A text made bytes. -/
theorem conv_bytes (w : World) (L : List UInt8) (hL : L.length ≤ 2 ^ 20) : ∃ cap w', (convert 9 57 (.string (str L))).run Try.prog w = .ok (.slice (some ⟨w.heap.size, 0, none⟩) L.length cap) w' ∧
    Rd w' 1 L.length (.slice (some ⟨w.heap.size, 0, none⟩) L.length cap) (L.map bv) ∧ Below w.heap.size w w' := by
  have h := Lib.run_convert_string_bytes (P := Try.prog) w 9 57 5 (str L) Try.underlying9 Try.underlying57 Try.underlying5
  rw [str_size] at h
  have h1 := grownCap_ge w L.length 0 5
  have h2 := grownCap_le_maxLen w L.length 0 5 (by unfold maxLen; omega)
  refine ⟨_, _, h, ⟨by simp, by unfold maxLen; omega, .inr ⟨w.heap.size, 0, _, rfl, h1, h2, fun j hj => ?_⟩⟩, ?_⟩
  · rw [Nat.mul_one] at hj
    rw [Nat.zero_add, Lib.bytesWorld_cell w _ _ j (by rw [str_size]; exact hj), List.getElem?_map, List.getElem?_eq_getElem hj]
    simp [bv, str, List.getD, List.getElem?_eq_getElem hj]
  · refine ⟨?_, ?_, ?_, by rw [Lib.bytesWorld_size]; omega, fun i hi => Lib.bytesWorld_at_old w _ _ i hi⟩ <;> (simp [Lib.bytesWorld, World.freeze]; try rfl)

theorem rtgood_any (r : RT) (w : World) (hl : r.now.length ≤ 2 ^ 17) : Calls Try.prog 34 #[r.val] w fun e w' => e = .returned (.int .i64 ((readL r.now).2 : Int)) ∧ Below w.heap.size w w' := by
  obtain ⟨now, other, bu, de⟩ := r
  unfold RT.val
  dsimp only at *
  generalize str other = so
  obtain ⟨cap, w1, hrun, hrd, hb⟩ := conv_bytes (w.alloc (.cells #[.string (str now), .string so, .int .i64 bu, .bool de] 42)) now (by omega)
  rw [show (w.alloc (.cells #[.string (str now), .string so, .int .i64 bu, .bool de] 42)).heap.size = w.heap.size + 1 by simp] at hrun hrd
  have HR := Lib.hid (rread_any _ now w1 hrd (by omega))
  have HB := Lib.hid ((Below.alloc1 w _).trans (hb.mono (by simp)))
  clear hrd hb
  generalize hs : str now = sn at *
  clear hs
  go_enter Try.func34, Try.ntmps34
  go_wp2_with fail
  refine HR.out.mono ?_
  rintro e w2 ⟨v', rfl, -, hb2, -⟩
  have HB2 := Lib.hid (HB.out.trans (hb2.mono HB.out.size))
  clear hb2 HR HB hrun
  go_wp2
  go_ret
  exact ⟨rfl, HB2.out⟩
/-- The tape's box and the result's cell. -/
structure RBox (w : World) (a b : Nat) (r : RT) (wr : World) : Prop where
  box : wr.heap[a]? = some (.cells #[.string (str r.now), .string (str r.other), .int .i64 r.budget, .bool r.dead] 42 (0, 0))
  res : wr.heap[b]? = some (.cells #[.string (str []), .string (str []), .int .i64 0, .bool false] 42 (0, 0))
  below : Below w.heap.size w wr
  ab : w.heap.size ≤ a ∧ a < b
theorem RBox.over {w : World} {a b : Nat} {r : RT} {wr w' : World} (h : RBox w a b r wr) (hb : Below wr.heap.size wr w') : RBox w a b r w' :=
  ⟨(hb.block _ (Array.getElem?_eq_some_iff.1 h.box).1).trans h.box, (hb.block _ (Array.getElem?_eq_some_iff.1 h.res).1).trans h.res, h.below.trans (hb.mono h.below.size), h.ab⟩
theorem RBox.cells {w : World} {a b : Nat} {r : RT} {wr : World} (h : RBox w a b r wr) :
    (wr.cell? ⟨a, 0, none⟩ = some (.string (str r.now)) ∧ wr.cell? ⟨a, 1, none⟩ = some (.string (str r.other)) ∧ wr.cell? ⟨a, 2, none⟩ = some (.int .i64 r.budget) ∧ wr.cell? ⟨a, 3, none⟩ = some (.bool r.dead)) ∧
    (wr.cell? ⟨b, 0, none⟩ = some (.string (str [])) ∧ wr.cell? ⟨b, 1, none⟩ = some (.string (str [])) ∧ wr.cell? ⟨b, 2, none⟩ = some (.int .i64 0) ∧ wr.cell? ⟨b, 3, none⟩ = some (.bool false)) ∧
    (∀ j, wr.frozen? ⟨a, j, none⟩ = false) ∧ (∀ j, wr.frozen? ⟨b, j, none⟩ = false) ∧ b < wr.heap.size := by
  refine ⟨⟨?_, ?_, ?_, ?_⟩, ⟨?_, ?_, ?_, ?_⟩, fun j => by simp [World.frozen?, h.box], fun j => by simp [World.frozen?, h.res], (Array.getElem?_eq_some_iff.1 h.res).1⟩
  all_goals first
    | (rw [cell_of_row wr _ _ _ _ _ h.box]; rfl)
    | (rw [cell_of_row wr _ _ _ _ _ h.res]; rfl)
theorem rbox_start (w : World) (r : RT) : RBox w w.heap.size (w.heap.size + 1) r ((w.alloc (.cells #[.string (str r.now), .string (str r.other), .int .i64 r.budget, .bool r.dead] 42)).alloc (.cells #[.string (str []), .string (str []), .int .i64 0, .bool false] 42)) := by
  refine ⟨(Below.heap_alloc _ _ _ (by simp)).trans (heap_alloc_new w _), ?_, (Below.alloc1 w _).alloc (by simp) _, Nat.le_refl _, by omega⟩
  have h := heap_alloc_new (w.alloc (.cells #[.string (str r.now), .string (str r.other), .int .i64 r.budget, .bool r.dead] 42)) (.cells #[.string (str []), .string (str []), .int .i64 0, .bool false] 42)
  simpa using h
/-- A tape stored in the box. -/
theorem RBox.put {w : World} {a b : Nat} {r : RT} {wr : World} (h : RBox w a b r wr) (r' : RT) :
    RBox w a b r' ((((wr.setCell ⟨a, 0, none⟩ (.string (str r'.now))).setCell ⟨a, 1, none⟩ (.string (str r'.other))).setCell ⟨a, 2, none⟩ (.int .i64 r'.budget)).setCell ⟨a, 3, none⟩ (.bool r'.dead)) := by
  have hab := h.ab
  refine ⟨?_, ?_, (((h.below.setCell hab.1 _).setCell hab.1 _).setCell hab.1 _).setCell hab.1 _, h.ab⟩
  · simp only [World.setCell, Array.getElem?_modify, if_true, h.box, Option.map_some]; simp
  · exact (Below.heap_setCell _ _ _ _ (by simp; omega)).trans ((Below.heap_setCell _ _ _ _ (by simp; omega)).trans ((Below.heap_setCell _ _ _ _ (by simp; omega)).trans ((Below.heap_setCell _ _ _ _ (by simp; omega)).trans h.res)))
theorem RBox.now {w : World} {a b : Nat} {r : RT} {wr : World} (h : RBox w a b r wr) (l : List UInt8) : RBox w a b { r with now := l } (wr.setCell ⟨a, 0, none⟩ (.string (str l))) := by
  have hab := h.ab
  refine ⟨?_, (Below.heap_setCell _ _ _ _ (by simp; omega)).trans h.res, h.below.setCell hab.1 _, h.ab⟩
  simp only [World.setCell, Array.getElem?_modify, if_true, h.box, Option.map_some]; simp
theorem RBox.other {w : World} {a b : Nat} {r : RT} {wr : World} (h : RBox w a b r wr) (l : List UInt8) : RBox w a b { r with other := l } (wr.setCell ⟨a, 1, none⟩ (.string (str l))) := by
  have hab := h.ab
  refine ⟨?_, (Below.heap_setCell _ _ _ _ (by simp; omega)).trans h.res, h.below.setCell hab.1 _, h.ab⟩
  simp only [World.setCell, Array.getElem?_modify, if_true, h.box, Option.map_some]; simp

theorem some_keeps (r : RT) (n : Nat) : (r.some n).1.now = r.now ∧ (r.some n).1.other = r.other := by
  unfold RT.some; split <;> exact ⟨rfl, rfl⟩

theorem str_take (l : List UInt8) (n : Nat) : (str l).extract 0 n = str (l.take n) := by
  unfold str
  apply ByteArray.ext
  simp

set_option maxHeartbeats 1000000 in
theorem rrepair_any (r : RT) (w : World) (hb : r.budget ≤ 2 ^ 40) (hl : r.now.length ≤ 2 ^ 17) : Calls Try.prog 23 #[r.val] w
    fun e w' => e = .returned (.tuple #[r.repair.1.val, .int .i64 r.repair.2.1, .int .i64 r.repair.2.2]) ∧ Below w.heap.size w w' := by
  obtain ⟨now, other, bu, de⟩ := r
  dsimp only at hb hl
  cases de
  case true =>
    have hX : Hid (RT.repair ⟨now, other, bu, true⟩ = (⟨now, other, bu, true⟩, 0, 190)) := by unfold Hid RT.repair; rw [if_pos rfl]
    rw [hX.out]
    unfold RT.val
    dsimp only
    generalize str now = sn
    generalize str other = so
    go_enter Try.func23, Try.ntmps23
    go_wp2
    refine bodyPost_ret (v := .tuple #[.agg #[.string sn, .string so, .int .i64 bu, .bool true], .int .i64 0, .int .i64 190]) (by simp [results, Try.results23, go_sem]) rfl ⟨rfl, ?_⟩
    repeat (first | exact Below.refl _ _ | (with_reducible refine below_draws ?_ _) | (with_reducible refine Below.setCell ?_ (by simp <;> omega) _) | (with_reducible refine Below.alloc ?_ (by simp <;> omega) _))
  case false =>
    have hrl := readL_spec now
    have hr5 := hrl.2.2.2.2.1
    have hst := rbox_start w ⟨now, other, bu, false⟩
    have HST := Lib.hid hst
    have HG := Lib.hid (fun wq => rtgood_any ⟨now, other, bu, false⟩ wq hl)
    have HSM := Lib.hid (fun wq => rsome_any ⟨now, other, bu, false⟩ 1 wq hb (by omega))
    have hsz := Lib.hid (str_size now)
    have HX : Hid (RT.repair ⟨now, other, bu, false⟩ = if (readL now).2 < now.length then
      (if (RT.some ⟨now, other, bu, false⟩ 1).1.dead then ((RT.some ⟨now, other, bu, false⟩ 1).1, 0, 190) else ({ (RT.some ⟨now, other, bu, false⟩ 1).1 with now := now.take (readL now).2 }, (now.length : Int) - ((readL now).2 : Int), 0))
      else (⟨now, other, bu, false⟩, (now.length : Int) - ((readL now).2 : Int), 0)) := by unfold Hid RT.repair; rw [if_neg (by simp)]
    generalize RT.repair ⟨now, other, bu, false⟩ = RES at *
    unfold RT.val at HG HSM ⊢
    dsimp only at HG HSM ⊢
    clear hst hrl
    go_enter Try.func23, Try.ntmps23
    go_wp2_with fail
    refine (HG.out _).mono ?_
    rintro e w1 ⟨rfl, hb1⟩
    have hbx := HST.out.over hb1
    obtain ⟨⟨s0, s1, s2, s3⟩, ⟨t0, t1, t2, t3⟩, fa, fb, hs⟩ := hbx.cells
    have HBX := Lib.hid hbx
    have fa0 := fa 0
    have fa1 := fa 1
    have fa2 := fa 2
    have fa3 := fa 3
    have fb0 := fb 0
    have fb1 := fb 1
    have fb2 := fb 2
    have fb3 := fb 3
    dsimp only at s0 s1 s2 s3
    have htk := str_take now (readL now).2
    have HTK := Lib.hid htk
    have hsz := hsz.out
    have hk := some_keeps ⟨now, other, bu, false⟩ 1
    dsimp only at hk
    obtain ⟨hk1, hk2⟩ := hk
    rw [hk1, hk2] at HSM
    generalize (RT.some ⟨now, other, bu, false⟩ 1) = q at *
    obtain ⟨⟨qn, qo, qb, qd⟩, qk⟩ := q
    dsimp only at hk1 hk2 HX HSM
    subst hk1 hk2
    generalize (readL qn).2 = R at *
    by_cases hlt : R < qn.length
    · have hX := HX.out
      rw [if_pos hlt] at hX
      have hgt : (0 : Int) < (qn.length : Int) - (R : Int) := by omega
      clear hb1 hbx HG HST htk HX
      go_wp2_with fail
      refine (HSM.out _).mono ?_
      rintro e w2 ⟨rfl, hb2⟩
      have hbx2 := HBX.out.over hb2
      obtain ⟨⟨s0, s1, s2, s3⟩, ⟨t0, t1, t2, t3⟩, fa, fb, hs⟩ := hbx2.cells
      have HBX2 := Lib.hid hbx2
      have hw2 := hbx2.below.size
      have HBW := Lib.hid hbx2.below
      have fa0 := fa 0
      have fa1 := fa 1
      have fa2 := fa 2
      have fa3 := fa 3
      have fb0 := fb 0
      have fb1 := fb 1
      have fb2 := fb 2
      have fb3 := fb 3
      dsimp only at s0 s1 s2 s3
      clear hbx2 hb2 HSM HBX
      cases qd
      · simp only [Bool.false_eq_true, if_false] at hX
        have HX := Lib.hid hX
        clear hX
        have hR : R ≤ qn.length := by omega
        go_wp2
        refine bodyPost_ret (v := .tuple #[.agg #[.string ((str qn).extract 0 R), .string (str qo), .int .i64 qb, .bool false], .int .i64 ((qn.length : Int) - (R : Int)), .int .i64 0]) (by simp [results, Try.results23, go_sem, t0, t1, t2, t3]) rfl ?_
        rw [HX.out]
        refine ⟨?_, ?_⟩
        · show Ending.returned (.tuple #[.agg #[.string ((str qn).extract 0 R), .string (str qo), .int .i64 qb, .bool false], .int .i64 ((qn.length : Int) - (R : Int)), .int .i64 0]) = Ending.returned (.tuple #[.agg #[.string (str (List.take R qn)), .string (str qo), .int .i64 qb, .bool false], .int .i64 ((qn.length : Int) - (R : Int)), .int .i64 0])
          rw [HTK.out]
        repeat (first | with_reducible exact Below.refl _ _ | with_reducible exact HBW.out | (with_reducible refine below_draws ?_ _) | (with_reducible refine Below.setCell ?_ (by simp <;> omega) _) | (with_reducible refine Below.alloc ?_ (by simp <;> omega) _))
      · simp only [if_true] at hX
        have HX := Lib.hid hX
        clear hX
        go_wp2
        refine bodyPost_ret (v := .tuple #[.agg #[.string (str qn), .string (str qo), .int .i64 qb, .bool true], .int .i64 0, .int .i64 190]) (by simp [results, Try.results23, go_sem, t0, t1, t2, t3]) rfl ?_
        rw [HX.out]
        refine ⟨rfl, ?_⟩
        repeat (first | with_reducible exact Below.refl _ _ | with_reducible exact HBW.out | (with_reducible refine below_draws ?_ _) | (with_reducible refine Below.setCell ?_ (by simp <;> omega) _) | (with_reducible refine Below.alloc ?_ (by simp <;> omega) _))
    · have hX := HX.out
      rw [if_neg hlt] at hX
      have HX := Lib.hid hX
      have hgt : ¬ (0 : Int) < (qn.length : Int) - (R : Int) := by omega
      have hw1 := hbx.below.size
      have HBW := Lib.hid hbx.below
      clear hb1 hbx HG HST htk HSM hX
      go_wp2
      refine bodyPost_ret (v := .tuple #[.agg #[.string (str qn), .string (str qo), .int .i64 bu, .bool false], .int .i64 ((qn.length : Int) - (R : Int)), .int .i64 0]) (by simp [results, Try.results23, go_sem, t0, t1, t2, t3]) rfl ?_
      rw [HX.out]
      refine ⟨rfl, ?_⟩
      repeat (first | with_reducible exact Below.refl _ _ | with_reducible exact HBW.out | (with_reducible refine below_draws ?_ _) | (with_reducible refine Below.setCell ?_ (by simp <;> omega) _) | (with_reducible refine Below.alloc ?_ (by simp <;> omega) _))
end Go.Proofs.Ytdclgmffgidcmaa
