/- The reference's notes: first. -/
import Derived.Test.YtdclgmffgidcmaaRef18c
import Derived.Test.YtdclgmffgidcmaaRef18d
import Derived.Test.YtdclgmffgidcmaaDecWalk
import Derived.Deep.QuietTactic
import Derived.BigQuiet
import Derived.RegionTactic
import Derived.ChangeAlike
namespace Go.Proofs.Ytdclgmffgidcmaa
set_option linter.unusedSimpArgs false
set_option linter.unusedVariables false
open Go.RowKit

def FirstP (L : List UInt8) (w : World) (e : Ending) (w' : World) : Prop := e = .returned (.tuple #[.agg #[.int .i64 (firstN L).1.k, .int .i64 (firstN L).1.a, .int .i64 (firstN L).1.b, .int .i64 (firstN L).1.c], .int .i64 (firstN L).2]) ∧ Below w.heap.size w w'

/-- What the loops hold: the result's cell, the note's box, the numbers' array. -/
structure FBox (w : World) (K : Int) (l0 l1 l2 : Int) (wr : World) : Prop where
  res : wr.heap[w.heap.size]? = some (.cells #[.int .i64 0, .int .i64 0, .int .i64 0, .int .i64 0] 37 (0, 0))
  box : wr.heap[w.heap.size + 1]? = some (.cells #[.int .i64 K, .int .i64 0, .int .i64 0, .int .i64 0] 37 (0, 0))
  arr : wr.heap[w.heap.size + 2]? = some (.cells #[.int .i64 l0, .int .i64 l1, .int .i64 l2] 81 (0, 0))
  below : Below w.heap.size w wr
theorem FBox.over {w : World} {K l0 l1 l2 : Int} {wr w' : World} (h : FBox w K l0 l1 l2 wr) (hb : Below wr.heap.size wr w') : FBox w K l0 l1 l2 w' :=
  ⟨(hb.block _ (Array.getElem?_eq_some_iff.1 h.res).1).trans h.res, (hb.block _ (Array.getElem?_eq_some_iff.1 h.box).1).trans h.box, (hb.block _ (Array.getElem?_eq_some_iff.1 h.arr).1).trans h.arr, h.below.trans (hb.mono h.below.size)⟩
theorem FBox.cells {w : World} {K l0 l1 l2 : Int} {wr : World} (h : FBox w K l0 l1 l2 wr) : wr.cell? ⟨w.heap.size + 1, 0, none⟩ = some (.int .i64 K) ∧ wr.cell? ⟨w.heap.size + 2, 0, none⟩ = some (.int .i64 l0) ∧ wr.cell? ⟨w.heap.size + 2, 1, none⟩ = some (.int .i64 l1) ∧ wr.cell? ⟨w.heap.size + 2, 2, none⟩ = some (.int .i64 l2) ∧
    (∀ j, wr.frozen? ⟨w.heap.size + 2, j, none⟩ = false) ∧ w.heap.size + 2 < wr.heap.size := by
  refine ⟨?_, ?_, ?_, ?_, fun j => ?_, (Array.getElem?_eq_some_iff.1 h.arr).1⟩
  · rw [cell_of_row wr _ _ _ _ _ h.box]; rfl
  · rw [cell_of_row wr _ _ _ _ _ h.arr]; rfl
  · rw [cell_of_row wr _ _ _ _ _ h.arr]; rfl
  · rw [cell_of_row wr _ _ _ _ _ h.arr]; rfl
  · simp [World.frozen?, h.arr]
theorem FBox.set0 {w : World} {K l0 l1 l2 x : Int} {wr : World} (h : FBox w K l0 l1 l2 wr) : FBox w K x l1 l2 (wr.setCell ⟨w.heap.size + 2, 0, none⟩ (.int .i64 x)) :=
  ⟨(Below.heap_setCell _ _ _ _ (by simp)).trans h.res, (Below.heap_setCell _ _ _ _ (by simp)).trans h.box, by simp only [World.setCell, Array.getElem?_modify, if_true, h.arr, Option.map_some]; simp, h.below.setCell (by simp) _⟩
theorem FBox.set1 {w : World} {K l0 l1 l2 x : Int} {wr : World} (h : FBox w K l0 l1 l2 wr) : FBox w K l0 x l2 (wr.setCell ⟨w.heap.size + 2, 1, none⟩ (.int .i64 x)) :=
  ⟨(Below.heap_setCell _ _ _ _ (by simp)).trans h.res, (Below.heap_setCell _ _ _ _ (by simp)).trans h.box, by simp only [World.setCell, Array.getElem?_modify, if_true, h.arr, Option.map_some]; simp, h.below.setCell (by simp) _⟩
theorem FBox.set2 {w : World} {K l0 l1 l2 x : Int} {wr : World} (h : FBox w K l0 l1 l2 wr) : FBox w K l0 l1 x (wr.setCell ⟨w.heap.size + 2, 2, none⟩ (.int .i64 x)) :=
  ⟨(Below.heap_setCell _ _ _ _ (by simp)).trans h.res, (Below.heap_setCell _ _ _ _ (by simp)).trans h.box, by simp only [World.setCell, Array.getElem?_modify, if_true, h.arr, Option.map_some]; simp, h.below.setCell (by simp) _⟩

/-- .. the note's box full. -/
structure FBox3 (w : World) (K : Int) (l0 l1 l2 : Int) (wr : World) : Prop where
  res : wr.heap[w.heap.size]? = some (.cells #[.int .i64 0, .int .i64 0, .int .i64 0, .int .i64 0] 37 (0, 0))
  box : wr.heap[w.heap.size + 1]? = some (.cells #[.int .i64 K, .int .i64 l0, .int .i64 l1, .int .i64 l2] 37 (0, 0))
  below : Below w.heap.size w wr
theorem FBox3.over {w : World} {K l0 l1 l2 : Int} {wr w' : World} (h : FBox3 w K l0 l1 l2 wr) (hb : Below wr.heap.size wr w') : FBox3 w K l0 l1 l2 w' :=
  ⟨(hb.block _ (Array.getElem?_eq_some_iff.1 h.res).1).trans h.res, (hb.block _ (Array.getElem?_eq_some_iff.1 h.box).1).trans h.box, h.below.trans (hb.mono h.below.size)⟩
theorem FBox.stored {w : World} {K l0 l1 l2 : Int} {wr : World} (h : FBox w K l0 l1 l2 wr) : FBox3 w K l0 l1 l2 (((wr.setCell ⟨w.heap.size + 1, 1, none⟩ (.int .i64 l0)).setCell ⟨w.heap.size + 1, 2, none⟩ (.int .i64 l1)).setCell ⟨w.heap.size + 1, 3, none⟩ (.int .i64 l2)) := by
  refine ⟨?_, ?_, ((h.below.setCell (by simp) _).setCell (by simp) _).setCell (by simp) _⟩
  · exact (Below.heap_setCell _ _ _ _ (by simp)).trans ((Below.heap_setCell _ _ _ _ (by simp)).trans ((Below.heap_setCell _ _ _ _ (by simp)).trans h.res))
  · simp only [World.setCell, Array.getElem?_modify, if_true, h.box, Option.map_some]; simp
theorem FBox.ncells {w : World} {K l0 l1 l2 : Int} {wr : World} (h : FBox w K l0 l1 l2 wr) : (∀ j, wr.frozen? ⟨w.heap.size + 1, j, none⟩ = false) ∧ (wr.cell? ⟨w.heap.size + 1, 1, none⟩ = some (.int .i64 0) ∧ wr.cell? ⟨w.heap.size + 1, 2, none⟩ = some (.int .i64 0) ∧ wr.cell? ⟨w.heap.size + 1, 3, none⟩ = some (.int .i64 0)) := by
  refine ⟨fun j => by simp [World.frozen?, h.box], ?_, ?_, ?_⟩ <;> (rw [cell_of_row wr _ _ _ _ _ h.box]; rfl)
theorem FBox3.cells {w : World} {K l0 l1 l2 : Int} {wr : World} (h : FBox3 w K l0 l1 l2 wr) : (wr.cell? ⟨w.heap.size + 1, 0, none⟩ = some (.int .i64 K) ∧ wr.cell? ⟨w.heap.size + 1, 1, none⟩ = some (.int .i64 l0) ∧ wr.cell? ⟨w.heap.size + 1, 2, none⟩ = some (.int .i64 l1) ∧ wr.cell? ⟨w.heap.size + 1, 3, none⟩ = some (.int .i64 l2)) ∧
    (wr.cell? ⟨w.heap.size, 0, none⟩ = some (.int .i64 0) ∧ wr.cell? ⟨w.heap.size, 1, none⟩ = some (.int .i64 0) ∧ wr.cell? ⟨w.heap.size, 2, none⟩ = some (.int .i64 0) ∧ wr.cell? ⟨w.heap.size, 3, none⟩ = some (.int .i64 0)) ∧ (∀ j, wr.frozen? ⟨w.heap.size, j, none⟩ = false) ∧ w.heap.size + 1 < wr.heap.size := by
  refine ⟨⟨?_, ?_, ?_, ?_⟩, ⟨?_, ?_, ?_, ?_⟩, fun j => by simp [World.frozen?, h.res], (Array.getElem?_eq_some_iff.1 h.box).1⟩
  all_goals first
    | (rw [cell_of_row wr _ _ _ _ _ h.box]; rfl)
    | (rw [cell_of_row wr _ _ _ _ _ h.res]; rfl)

theorem first_early (v : Value) (L : List UInt8) (w : World) (hv : Rd w 1 L.length v (L.map bv)) (h : L.length < 5 ∨ L.length < (L[0]?.getD 0).toNat + 3) :
    Calls Try.prog 46 #[v] w fun e w' => FirstP L w e w' := by
  have HD : Hid (firstN L = (⟨0, 0, 0, 0⟩, 0)) := first_short h
  obtain ⟨_, hm, hv⟩ := hv
  have hbb : Hid (Below w.heap.size w ((w.alloc (.cells #[.int .i64 0, .int .i64 0, .int .i64 0, .int .i64 0] 37)))) := Below.alloc1 w _
  by_cases h5 : L.length < 5
  · have hd : decide ((L.length : Int) < 5) = true := by simp; omega
    have hd' : decide (L.length < 5) = true := by simp; omega
    rcases hv with ⟨rfl, hl0⟩ | ⟨b, off, cap, rfl, hle, hcm, hc⟩
    all_goals
      (try clear hc)
      go_enter Try.func46, Try.ntmps46
      go_wp2
      refine bodyPost_ret (v := .tuple #[.agg #[.int .i64 0, .int .i64 0, .int .i64 0, .int .i64 0], .int .i64 0]) (by simp [results, Try.results46, go_sem]) rfl ?_
      unfold FirstP
      rw [HD.out]
      exact ⟨rfl, hbb.out⟩
  · rcases hv with ⟨rfl, hl0⟩ | ⟨b, off, cap, rfl, hle, hcm, hc⟩
    · omega
    · have hc0 : w.cell? ⟨b, off, none⟩ = some (.int .u8 ((L[0]?.getD 0).toNat : Int)) := by
        have := hc 0 (by omega)
        rw [Nat.add_zero, List.getElem?_map] at this
        rw [this, List.getElem?_eq_getElem (by omega)]; rfl
      have hbl := lt_of_cell hc0
      have hd : decide ((L.length : Int) < 5) = false := by simp; omega
      have hd' : decide (L.length < 5) = false := by simp; omega
      have hb8 := UInt8.toNat_lt (L[0]?.getD 0)
      clear hc
      generalize (L[0]?.getD 0).toNat = n0 at *
      have hd2 : decide ((L.length : Int) < (n0 : Int) + 3) = true := by simp; omega
      clear h
      go_enter Try.func46, Try.ntmps46
      go_wp2
      refine bodyPost_ret (v := .tuple #[.agg #[.int .i64 0, .int .i64 0, .int .i64 0, .int .i64 0], .int .i64 0]) (by simp [results, Try.results46, go_sem]) rfl ?_
      unfold FirstP
      rw [HD.out]
      exact ⟨rfl, hbb.out⟩


theorem pow_le4 (j : Nat) (h : j ≤ 4) : (128 : Int) ^ j ≤ 268435456 := by
  match j, h with
  | 0, _ => decide
  | 1, _ => decide
  | 2, _ => decide
  | 3, _ => decide
  | 4, _ => decide

/-- What holds at the head of the loop over the numbers. -/
def FRel (L : List UInt8) (w : World) (K : Int) (av iv : Value) (wr : World) : Prop :=
  ∃ (i at_ : Nat) (l0 l1 l2 : Int), iv = .int .i64 i ∧ av = .int .i64 at_ ∧ ((i : Int) ≤ usesZ K ∨ i = 0) ∧ 2 ≤ at_ ∧ at_ ≤ L.length ∧ FBox w K l0 l1 l2 wr ∧ Right L i at_ l0 l1 l2 ∧
    (i ≤ 0 → l0 = 0) ∧ (i ≤ 1 → l1 = 0) ∧ (i ≤ 2 → l2 = 0) ∧ (0 ≤ l0 ∧ l0 < 2 ^ 50) ∧ (0 ≤ l1 ∧ l1 < 2 ^ 50) ∧ (0 ≤ l2 ∧ l2 < 2 ^ 50)

set_option maxHeartbeats 4000000 in
theorem first_main (b off cap : Nat) (L : List UInt8) (w : World) (hle : L.length ≤ cap) (hcm : cap ≤ maxLen) (hc : ∀ j, j < L.length → w.cell? ⟨b, off + j, none⟩ = (L.map bv)[j]?) (h5 : 5 ≤ L.length) (h3 : (L[0]?.getD 0).toNat + 3 ≤ L.length) :
    Calls Try.prog 46 #[.slice (some ⟨b, off, none⟩) L.length cap] w fun e w' => FirstP L w e w' := by
  have HRL : Hid (Rd w 1 L.length (.slice (some ⟨b, off, none⟩) L.length cap) (L.map bv)) := ⟨by simp, by omega, .inr ⟨b, off, cap, rfl, hle, hcm, fun j hj => hc j (by omega)⟩⟩
  have HC : Hid (∀ j, j < L.length → w.cell? ⟨b, off + j, none⟩ = some (.int .u8 ((L[j]?.getD 0).toNat : Int))) := by
    intro j hj
    rw [hc j hj, List.getElem?_map, List.getElem?_eq_getElem hj]; rfl
  have hc0 := HC.out 0 (by omega)
  rw [Nat.add_zero] at hc0
  have hc1 := HC.out 1 (by omega)
  have hbl := lt_of_cell hc0
  have hd : decide ((L.length : Int) < 5) = false := by simp; omega
  have hd' : decide (L.length < 5) = false := by simp; omega
  have hb8 := UInt8.toNat_lt (L[0]?.getD 0)
  have hb81 := UInt8.toNat_lt (L[1]?.getD 0)
  have HB0 : Hid (∀ n, goodB n = true → encB n <+: L → ∀ i : Nat, (i : Int) < usesZ n.k → 2 + (nums n (i + 1)).length ≤ (L[0]?.getD 0).toNat + 1) := fun n hn hp i hi => (enc_num hn hp i hi).2
  unfold maxLen at hcm
  clear hc
  obtain ⟨n0, hn0⟩ : ∃ n0, (L[0]?.getD 0).toNat = n0 := ⟨_, rfl⟩
  obtain ⟨k0, hk0⟩ : ∃ k0, (L[1]?.getD 0).toNat = k0 := ⟨_, rfl⟩
  rw [hn0] at hc0 hb8 HB0 h3
  rw [hk0] at hc1 hb81
  have HN0 := Lib.hid hn0
  have HK0 := Lib.hid hk0
  have hd2 : decide ((L.length : Int) < (n0 : Int) + 3) = false := by simp; omega
  have HU := Lib.hid (fun w => ruses_any (k0 : Int) w)
  clear hn0 hk0
  go_enter Try.func46, Try.ntmps46
  go_wp2_with fail
  go_loopw [6, 7] (fun av iv wr => FRel L w k0 av iv wr) (fun av iv wr => 3 - (intOf iv).toNat)
  case atStart =>
    refine ⟨0, 2, 0, 0, 0, rfl, rfl, .inr rfl, Nat.le_refl _, by omega, ⟨?_, ?_, ?_, ?_⟩, fun n hn hp => ⟨by simp [nums], rfl, rfl, rfl⟩, fun _ => rfl, fun _ => rfl, fun _ => rfl, by omega, by omega, by omega⟩
    · exact (Below.heap_alloc _ _ _ (by simp; omega)).trans ((Below.heap_alloc _ _ _ (by simp)).trans (heap_alloc_new w _))
    · have h := heap_alloc_new (w.alloc (.cells #[.int .i64 0, .int .i64 0, .int .i64 0, .int .i64 0] 37)) (.cells #[.int .i64 (k0 : Int), .int .i64 0, .int .i64 0, .int .i64 0] 37)
      rw [show (w.alloc (.cells #[.int .i64 0, .int .i64 0, .int .i64 0, .int .i64 0] 37)).heap.size = w.heap.size + 1 by simp] at h
      exact (Below.heap_alloc _ _ _ (by simp)).trans h
    · have h := heap_alloc_new ((w.alloc (.cells #[.int .i64 0, .int .i64 0, .int .i64 0, .int .i64 0] 37)).alloc (.cells #[.int .i64 (k0 : Int), .int .i64 0, .int .i64 0, .int .i64 0] 37)) (.cells #[.int .i64 0, .int .i64 0, .int .i64 0] 81)
      simpa using h
    · exact ((Below.alloc1 w _).alloc (by simp) _).alloc (by simp; omega) _
  case round =>
    obtain ⟨i, at_, l0, l1, l2, rfl, rfl, hi, ha2, haL, hbx, hR, z0, z1, z2, b0, b1, b2⟩ := hrel
    obtain ⟨q0, q1, q2, q3, qf, qs⟩ := hbx.cells
    have HBX := Lib.hid hbx
    have HR := Lib.hid hR
    have hu3 := usesZ_le (k0 : Int)
    clear hbx hR q1 q2 q3 qf
    obtain ⟨wo, rfl⟩ : ∃ wo : World, wo = wr := ⟨_, rfl⟩
    go_wp2_with fail
    refine (HU.out wo).mono ?_
    rintro e w1 ⟨rfl, hbw⟩
    have hbx1 := HBX.out.over hbw
    have HBX := Lib.hid hbx1
    clear hbw hbx1 q0
    by_cases hlt : (i : Int) < usesZ (k0 : Int)
    · have hi3 : i = 0 ∨ i = 1 ∨ i = 2 := by omega
      rcases hi3 with rfl | rfl | rfl
      · have hlt0 : (0 : Int) < usesZ (k0 : Int) := hlt
        obtain rfl : l0 = 0 := z0 (by omega)
        have HS : Hid (Reads1 L 0 at_ 0 0) := reads1_start HR.out (fun n hn hp => by have := (enc_head hn hp).2.1; rw [HK0.out] at this; rw [← this]; exact hlt)
        clear z0 hlt hi b0
        go_wp2_with fail
        go_loopw [6, 8] (fun av pv wr => ∃ (j at2 : Nat) (P acc : Int), av = .int .i64 at2 ∧ pv = .int .i64 P ∧ j ≤ 5 ∧ Hid (P = 128 ^ j) ∧ 1 ≤ P ∧ P ≤ 34359738368 ∧ 2 ≤ at2 ∧ at2 ≤ L.length ∧ 0 ≤ acc ∧ acc < P ∧ FBox w k0 acc l1 l2 wr ∧ Reads1 L 0 at2 j acc) (fun av _ _ => L.length - (intOf av).toNat)
        case atStart => exact ⟨0, at_, 1, 0, rfl, rfl, by omega, by unfold Hid; simp, by omega, by omega, ha2, haL, by omega, by omega, HBX.out, HS.out⟩
        case round =>
          obtain ⟨j, at2, P, acc, rfl, rfl, hj, HP, hP1, hP2, hat2, hatL, hacc0, hacc1, hbx2, hrd⟩ := hrel
          obtain ⟨r0, r1, r2, r3, rf, rs⟩ := hbx2.cells
          have hw := hbx2.below
          have e0 : wr.cell? ⟨b, off, none⟩ = some (.int .u8 (n0 : Int)) := (hw.cell (p := ⟨b, off, none⟩) hbl).trans hc0
          have HBX2 := Lib.hid hbx2
          have HRD := Lib.hid hrd
          have rf0 := rf 0
          have HZ := Lib.hid (And.intro z1 z2)
          clear hbx2 hrd hw HBX HS rf z1 z2
          have hne1 : (b = w.heap.size + 1 + 1) = False := by simp; omega
          have hne2 : (b = w.heap.size + 2) = False := by simp; omega
          have hbwr : b < wr.heap.size := by omega
          by_cases hend : (at2 : Int) < (n0 : Int) + 1
          · have e1 : wr.cell? ⟨b, off + at2, none⟩ = some (.int .u8 ((L[at2]?.getD 0).toNat : Int)) := (HBX2.out.below.cell (p := ⟨b, off + at2, none⟩) hbl).trans (HC.out at2 (by omega))
            have hx8 := UInt8.toNat_lt (L[at2]?.getD 0)
            have hST := Lib.hid (reads1_step HRD.out hj)
            generalize (L[at2]?.getD 0).toNat = x at *
            have hm0 : 0 ≤ (x : Int) % 128 * P := Int.mul_nonneg (by omega) (by omega)
            have hm1 : (x : Int) % 128 * P ≤ 127 * P := Int.mul_le_mul_of_nonneg_right (by omega) (by omega)
            by_cases hx : x < 128
            · have HV : Hid (Right L 1 (at2 + 1) (acc + (x : Int) % 128 * P) l1 l2) := by
                intro n hn hp
                have h1 := hST.out.1 n hn hp hx
                obtain ⟨q1, q2, q3, q4⟩ := HR.out n hn hp
                rw [← HP.out] at h1
                simp only [numOf, List.getD_cons_zero, List.getD_cons_succ] at h1
                refine ⟨h1.2, ?_, ?_, ?_⟩
                · first | (simpa using h1.1) | (simpa using q2)
                · first | (simpa using h1.1) | (simpa using q3)
                · first | (simpa using h1.1) | (simpa using q4)
              have hxi : (x : Int) < 128 := by omega
              clear hST HRD HR
              go_wp2_with fail
              go_region
              go_wp2
              go_roundw
              case rel => exact ⟨1, at2 + 1, (acc + (x : Int) % 128 * P), l1, l2, rfl, rfl, .inl (by omega), by omega, by omega, FBox.over HBX2.out.set0 ⟨rfl, rfl, rfl, Nat.le_refl _, fun _ _ => rfl⟩, HV.out, fun h => by omega, fun _ => HZ.out.1 (by omega), fun _ => HZ.out.2 (by omega), ⟨by omega, by omega⟩, b1, b2⟩
              case measure => simp [intOf]
            · have hxi : ¬ (x : Int) < 128 := by omega
              by_cases hj5 : j = 5
              · subst hj5
                have hP : P = 34359738368 := HP.out
                subst hP
                have h6 : Reads1 L 0 (at2 + 1) 6 (acc + (x : Int) % 128 * 34359738368) := by
                  have h := hST.out.2 hx
                  have e : (128 : Int) ^ 5 = 34359738368 := by decide
                  rw [e] at h; exact h
                have HV : Hid (Right L 1 (at2 + 1) (acc + (x : Int) % 128 * 34359738368) l1 l2) := fun n hn hp => (reads1_six h6 (by omega) n hn hp).elim
                clear h6
                clear hST HRD HR
                go_wp2_with fail
                go_region
                go_wp2
                go_roundw
                case rel => exact ⟨1, at2 + 1, (acc + (x : Int) % 128 * 34359738368), l1, l2, rfl, rfl, .inl (by omega), by omega, by omega, FBox.over HBX2.out.set0 ⟨rfl, rfl, rfl, Nat.le_refl _, fun _ _ => rfl⟩, HV.out, fun h => by omega, fun _ => HZ.out.1 (by omega), fun _ => HZ.out.2 (by omega), ⟨by omega, by omega⟩, b1, b2⟩
                case measure => simp [intOf]
              · have hP4 : P ≤ 268435456 := by rw [HP.out]; exact pow_le4 j (by omega)
                have HV : Hid (Reads1 L 0 (at2 + 1) (j + 1) (acc + (x : Int) % 128 * P)) := by have h := hST.out.2 hx; rw [← HP.out] at h; exact h
                have HP' : Hid (P * 128 = 128 ^ (j + 1)) := by unfold Hid; rw [Int.pow_succ, HP.out]
                have HR2 := Lib.hid HZ.out
                clear hST HRD
                go_wp2_with fail
                go_region
                go_wp2
                go_roundw
                case rel => exact ⟨j + 1, at2 + 1, P * 128, _, rfl, rfl, by omega, HP'.out, by omega, by omega, by omega, by omega, by omega, by omega, FBox.over HBX2.out.set0 ⟨rfl, rfl, rfl, Nat.le_refl _, fun _ _ => rfl⟩, HV.out⟩
                case measure => simp [intOf]; omega
          · have HV : Hid (Right L 1 at2 acc l1 l2) := fun n hn hp => (by have h := reads1_more HRD.out hacc0 n hn hp (by have h2 := (enc_head hn hp).2.1; rw [HK0.out] at h2; rw [← h2]; exact hlt0); rw [HN0.out] at h; omega : False).elim
            clear HRD HR
            go_wp2
            go_roundw
            case rel => exact ⟨1, at2, acc, l1, l2, rfl, rfl, .inl (by omega), by omega, by omega, HBX2.out, HV.out, fun h => by omega, fun _ => HZ.out.1 (by omega), fun _ => HZ.out.2 (by omega), ⟨by omega, by omega⟩, b1, b2⟩
            case measure => simp [intOf]
      · have hlt1 : (1 : Int) < usesZ (k0 : Int) := hlt
        obtain rfl : l1 = 0 := z1 (by omega)
        have HS : Hid (Reads1 L 1 at_ 0 0) := reads1_start HR.out (fun n hn hp => by have := (enc_head hn hp).2.1; rw [HK0.out] at this; rw [← this]; exact hlt)
        clear z1 hlt hi b1
        go_wp2_with fail
        go_loopw [6, 8] (fun av pv wr => ∃ (j at2 : Nat) (P acc : Int), av = .int .i64 at2 ∧ pv = .int .i64 P ∧ j ≤ 5 ∧ Hid (P = 128 ^ j) ∧ 1 ≤ P ∧ P ≤ 34359738368 ∧ 2 ≤ at2 ∧ at2 ≤ L.length ∧ 0 ≤ acc ∧ acc < P ∧ FBox w k0 l0 acc l2 wr ∧ Reads1 L 1 at2 j acc) (fun av _ _ => L.length - (intOf av).toNat)
        case atStart => exact ⟨0, at_, 1, 0, rfl, rfl, by omega, by unfold Hid; simp, by omega, by omega, ha2, haL, by omega, by omega, HBX.out, HS.out⟩
        case round =>
          obtain ⟨j, at2, P, acc, rfl, rfl, hj, HP, hP1, hP2, hat2, hatL, hacc0, hacc1, hbx2, hrd⟩ := hrel
          obtain ⟨r0, r1, r2, r3, rf, rs⟩ := hbx2.cells
          have hw := hbx2.below
          have e0 : wr.cell? ⟨b, off, none⟩ = some (.int .u8 (n0 : Int)) := (hw.cell (p := ⟨b, off, none⟩) hbl).trans hc0
          have HBX2 := Lib.hid hbx2
          have HRD := Lib.hid hrd
          have rf0 := rf 1
          have HZ := Lib.hid (And.intro z0 z2)
          clear hbx2 hrd hw HBX HS rf z0 z2
          have hne1 : (b = w.heap.size + 1 + 1) = False := by simp; omega
          have hne2 : (b = w.heap.size + 2) = False := by simp; omega
          have hbwr : b < wr.heap.size := by omega
          by_cases hend : (at2 : Int) < (n0 : Int) + 1
          · have e1 : wr.cell? ⟨b, off + at2, none⟩ = some (.int .u8 ((L[at2]?.getD 0).toNat : Int)) := (HBX2.out.below.cell (p := ⟨b, off + at2, none⟩) hbl).trans (HC.out at2 (by omega))
            have hx8 := UInt8.toNat_lt (L[at2]?.getD 0)
            have hST := Lib.hid (reads1_step HRD.out hj)
            generalize (L[at2]?.getD 0).toNat = x at *
            have hm0 : 0 ≤ (x : Int) % 128 * P := Int.mul_nonneg (by omega) (by omega)
            have hm1 : (x : Int) % 128 * P ≤ 127 * P := Int.mul_le_mul_of_nonneg_right (by omega) (by omega)
            by_cases hx : x < 128
            · have HV : Hid (Right L 2 (at2 + 1) l0 (acc + (x : Int) % 128 * P) l2) := by
                intro n hn hp
                have h1 := hST.out.1 n hn hp hx
                obtain ⟨q1, q2, q3, q4⟩ := HR.out n hn hp
                rw [← HP.out] at h1
                simp only [numOf, List.getD_cons_zero, List.getD_cons_succ] at h1
                refine ⟨h1.2, ?_, ?_, ?_⟩
                · first | (simpa using h1.1) | (simpa using q2)
                · first | (simpa using h1.1) | (simpa using q3)
                · first | (simpa using h1.1) | (simpa using q4)
              have hxi : (x : Int) < 128 := by omega
              clear hST HRD HR
              go_wp2_with fail
              go_region
              go_wp2
              go_roundw
              case rel => exact ⟨2, at2 + 1, l0, (acc + (x : Int) % 128 * P), l2, rfl, rfl, .inl (by omega), by omega, by omega, FBox.over HBX2.out.set1 ⟨rfl, rfl, rfl, Nat.le_refl _, fun _ _ => rfl⟩, HV.out, fun h => by omega, fun h => by omega, fun _ => HZ.out.2 (by omega), b0, ⟨by omega, by omega⟩, b2⟩
              case measure => simp [intOf]
            · have hxi : ¬ (x : Int) < 128 := by omega
              by_cases hj5 : j = 5
              · subst hj5
                have hP : P = 34359738368 := HP.out
                subst hP
                have h6 : Reads1 L 1 (at2 + 1) 6 (acc + (x : Int) % 128 * 34359738368) := by
                  have h := hST.out.2 hx
                  have e : (128 : Int) ^ 5 = 34359738368 := by decide
                  rw [e] at h; exact h
                have HV : Hid (Right L 2 (at2 + 1) l0 (acc + (x : Int) % 128 * 34359738368) l2) := fun n hn hp => (reads1_six h6 (by omega) n hn hp).elim
                clear h6
                clear hST HRD HR
                go_wp2_with fail
                go_region
                go_wp2
                go_roundw
                case rel => exact ⟨2, at2 + 1, l0, (acc + (x : Int) % 128 * 34359738368), l2, rfl, rfl, .inl (by omega), by omega, by omega, FBox.over HBX2.out.set1 ⟨rfl, rfl, rfl, Nat.le_refl _, fun _ _ => rfl⟩, HV.out, fun h => by omega, fun h => by omega, fun _ => HZ.out.2 (by omega), b0, ⟨by omega, by omega⟩, b2⟩
                case measure => simp [intOf]
              · have hP4 : P ≤ 268435456 := by rw [HP.out]; exact pow_le4 j (by omega)
                have HV : Hid (Reads1 L 1 (at2 + 1) (j + 1) (acc + (x : Int) % 128 * P)) := by have h := hST.out.2 hx; rw [← HP.out] at h; exact h
                have HP' : Hid (P * 128 = 128 ^ (j + 1)) := by unfold Hid; rw [Int.pow_succ, HP.out]
                have HR2 := Lib.hid HZ.out
                clear hST HRD
                go_wp2_with fail
                go_region
                go_wp2
                go_roundw
                case rel => exact ⟨j + 1, at2 + 1, P * 128, _, rfl, rfl, by omega, HP'.out, by omega, by omega, by omega, by omega, by omega, by omega, FBox.over HBX2.out.set1 ⟨rfl, rfl, rfl, Nat.le_refl _, fun _ _ => rfl⟩, HV.out⟩
                case measure => simp [intOf]; omega
          · have HV : Hid (Right L 2 at2 l0 acc l2) := fun n hn hp => (by have h := reads1_more HRD.out hacc0 n hn hp (by have h2 := (enc_head hn hp).2.1; rw [HK0.out] at h2; rw [← h2]; exact hlt1); rw [HN0.out] at h; omega : False).elim
            clear HRD HR
            go_wp2
            go_roundw
            case rel => exact ⟨2, at2, l0, acc, l2, rfl, rfl, .inl (by omega), by omega, by omega, HBX2.out, HV.out, fun h => by omega, fun h => by omega, fun _ => HZ.out.2 (by omega), b0, ⟨by omega, by omega⟩, b2⟩
            case measure => simp [intOf]
      · have hlt2 : (2 : Int) < usesZ (k0 : Int) := hlt
        obtain rfl : l2 = 0 := z2 (by omega)
        have HS : Hid (Reads1 L 2 at_ 0 0) := reads1_start HR.out (fun n hn hp => by have := (enc_head hn hp).2.1; rw [HK0.out] at this; rw [← this]; exact hlt)
        clear z2 hlt hi b2
        go_wp2_with fail
        go_loopw [6, 8] (fun av pv wr => ∃ (j at2 : Nat) (P acc : Int), av = .int .i64 at2 ∧ pv = .int .i64 P ∧ j ≤ 5 ∧ Hid (P = 128 ^ j) ∧ 1 ≤ P ∧ P ≤ 34359738368 ∧ 2 ≤ at2 ∧ at2 ≤ L.length ∧ 0 ≤ acc ∧ acc < P ∧ FBox w k0 l0 l1 acc wr ∧ Reads1 L 2 at2 j acc) (fun av _ _ => L.length - (intOf av).toNat)
        case atStart => exact ⟨0, at_, 1, 0, rfl, rfl, by omega, by unfold Hid; simp, by omega, by omega, ha2, haL, by omega, by omega, HBX.out, HS.out⟩
        case round =>
          obtain ⟨j, at2, P, acc, rfl, rfl, hj, HP, hP1, hP2, hat2, hatL, hacc0, hacc1, hbx2, hrd⟩ := hrel
          obtain ⟨r0, r1, r2, r3, rf, rs⟩ := hbx2.cells
          have hw := hbx2.below
          have e0 : wr.cell? ⟨b, off, none⟩ = some (.int .u8 (n0 : Int)) := (hw.cell (p := ⟨b, off, none⟩) hbl).trans hc0
          have HBX2 := Lib.hid hbx2
          have HRD := Lib.hid hrd
          have rf0 := rf 2
          have HZ := Lib.hid (And.intro z0 z1)
          clear hbx2 hrd hw HBX HS rf z0 z1
          have hne1 : (b = w.heap.size + 1 + 1) = False := by simp; omega
          have hne2 : (b = w.heap.size + 2) = False := by simp; omega
          have hbwr : b < wr.heap.size := by omega
          by_cases hend : (at2 : Int) < (n0 : Int) + 1
          · have e1 : wr.cell? ⟨b, off + at2, none⟩ = some (.int .u8 ((L[at2]?.getD 0).toNat : Int)) := (HBX2.out.below.cell (p := ⟨b, off + at2, none⟩) hbl).trans (HC.out at2 (by omega))
            have hx8 := UInt8.toNat_lt (L[at2]?.getD 0)
            have hST := Lib.hid (reads1_step HRD.out hj)
            generalize (L[at2]?.getD 0).toNat = x at *
            have hm0 : 0 ≤ (x : Int) % 128 * P := Int.mul_nonneg (by omega) (by omega)
            have hm1 : (x : Int) % 128 * P ≤ 127 * P := Int.mul_le_mul_of_nonneg_right (by omega) (by omega)
            by_cases hx : x < 128
            · have HV : Hid (Right L 3 (at2 + 1) l0 l1 (acc + (x : Int) % 128 * P)) := by
                intro n hn hp
                have h1 := hST.out.1 n hn hp hx
                obtain ⟨q1, q2, q3, q4⟩ := HR.out n hn hp
                rw [← HP.out] at h1
                simp only [numOf, List.getD_cons_zero, List.getD_cons_succ] at h1
                refine ⟨h1.2, ?_, ?_, ?_⟩
                · first | (simpa using h1.1) | (simpa using q2)
                · first | (simpa using h1.1) | (simpa using q3)
                · first | (simpa using h1.1) | (simpa using q4)
              have hxi : (x : Int) < 128 := by omega
              clear hST HRD HR
              go_wp2_with fail
              go_region
              go_wp2
              go_roundw
              case rel => exact ⟨3, at2 + 1, l0, l1, (acc + (x : Int) % 128 * P), rfl, rfl, .inl (by omega), by omega, by omega, FBox.over HBX2.out.set2 ⟨rfl, rfl, rfl, Nat.le_refl _, fun _ _ => rfl⟩, HV.out, fun h => by omega, fun h => by omega, fun h => by omega, b0, b1, ⟨by omega, by omega⟩⟩
              case measure => simp [intOf]
            · have hxi : ¬ (x : Int) < 128 := by omega
              by_cases hj5 : j = 5
              · subst hj5
                have hP : P = 34359738368 := HP.out
                subst hP
                have h6 : Reads1 L 2 (at2 + 1) 6 (acc + (x : Int) % 128 * 34359738368) := by
                  have h := hST.out.2 hx
                  have e : (128 : Int) ^ 5 = 34359738368 := by decide
                  rw [e] at h; exact h
                have HV : Hid (Right L 3 (at2 + 1) l0 l1 (acc + (x : Int) % 128 * 34359738368)) := fun n hn hp => (reads1_six h6 (by omega) n hn hp).elim
                clear h6
                clear hST HRD HR
                go_wp2_with fail
                go_region
                go_wp2
                go_roundw
                case rel => exact ⟨3, at2 + 1, l0, l1, (acc + (x : Int) % 128 * 34359738368), rfl, rfl, .inl (by omega), by omega, by omega, FBox.over HBX2.out.set2 ⟨rfl, rfl, rfl, Nat.le_refl _, fun _ _ => rfl⟩, HV.out, fun h => by omega, fun h => by omega, fun h => by omega, b0, b1, ⟨by omega, by omega⟩⟩
                case measure => simp [intOf]
              · have hP4 : P ≤ 268435456 := by rw [HP.out]; exact pow_le4 j (by omega)
                have HV : Hid (Reads1 L 2 (at2 + 1) (j + 1) (acc + (x : Int) % 128 * P)) := by have h := hST.out.2 hx; rw [← HP.out] at h; exact h
                have HP' : Hid (P * 128 = 128 ^ (j + 1)) := by unfold Hid; rw [Int.pow_succ, HP.out]
                have HR2 := Lib.hid HZ.out
                clear hST HRD
                go_wp2_with fail
                go_region
                go_wp2
                go_roundw
                case rel => exact ⟨j + 1, at2 + 1, P * 128, _, rfl, rfl, by omega, HP'.out, by omega, by omega, by omega, by omega, by omega, by omega, FBox.over HBX2.out.set2 ⟨rfl, rfl, rfl, Nat.le_refl _, fun _ _ => rfl⟩, HV.out⟩
                case measure => simp [intOf]; omega
          · have HV : Hid (Right L 3 at2 l0 l1 acc) := fun n hn hp => (by have h := reads1_more HRD.out hacc0 n hn hp (by have h2 := (enc_head hn hp).2.1; rw [HK0.out] at h2; rw [← h2]; exact hlt2); rw [HN0.out] at h; omega : False).elim
            clear HRD HR
            go_wp2
            go_roundw
            case rel => exact ⟨3, at2, l0, l1, acc, rfl, rfl, .inl (by omega), by omega, by omega, HBX2.out, HV.out, fun h => by omega, fun h => by omega, fun h => by omega, b0, b1, ⟨by omega, by omega⟩⟩
            case measure => simp [intOf]
    · have hiu : (i : Int) = usesZ (k0 : Int) ∨ usesZ (k0 : Int) < 0 := by
        rcases hi with h | h
        · exact .inl (by omega)
        · rcases usesZ_ne (k0 : Int) with h' | h'
          · exact .inr h'
          · subst h; exact absurd h' hlt
      have HE := Lib.hid (right_end HR.out (by rw [HK0.out]; exact hiu))
      rw [HK0.out] at HE
      have HG := Lib.hid (fun w => rgood_any ⟨(k0 : Int), l0, l1, l2⟩ w)
      unfold Nt.val at HG
      obtain ⟨r0, r1, r2, r3, rf, rs⟩ := HBX.out.cells
      have hx1 := FBox.stored HBX.out
      have HX1 := Lib.hid hx1
      obtain ⟨n0f, n0c⟩ := HBX.out.ncells
      clear hx1 rf z0 z1 z2 HR b0 b1 b2
      go_wp2_with fail
      refine (HG.out _).mono ?_
      rintro e w2 ⟨rfl, hb2⟩
      have hx2 := HX1.out.over hb2
      have HX2 := Lib.hid hx2
      obtain ⟨⟨s0, s1, s2, s3⟩, ⟨t0, t1, t2, t3⟩, tf, ts⟩ := hx2.cells
      have tf0 := tf 0
      have tf1 := tf 1
      have tf2 := tf 2
      have tf3 := tf 3
      clear hb2 hx2 r0 r1 r2 r3 HX1 HBX n0f n0c HG tf
      cases hg : goodB ⟨(k0 : Int), l0, l1, l2⟩
      · have HD : Hid (firstN L = (⟨0, 0, 0, 0⟩, 0)) := first_no _ HE.out (.inl hg)
        clear hg
        go_wp2
        refine bodyPost_ret (v := .tuple #[.agg #[.int .i64 0, .int .i64 0, .int .i64 0, .int .i64 0], .int .i64 0]) (by simp [results, Try.results46, go_sem, t0, t1, t2, t3]) rfl ?_
        unfold FirstP
        rw [HD.out]
        refine ⟨rfl, ?_⟩
        exact (((HX2.out.below.setCell (Nat.le_refl _) _).setCell (Nat.le_refl _) _).setCell (Nat.le_refl _) _).setCell (Nat.le_refl _) _
      · have HGD := Lib.hid hg
        have HY := Lib.hid (fun w => rbytes_any ⟨(k0 : Int), l0, l1, l2⟩ hg w)
        unfold Nt.val at HY
        clear hg
        go_wp2_with fail
        refine (HY.out _).mono ?_
        rintro e w3 ⟨c, rfl, hoc, hb3, hac⟩
        have hx3 := HX2.out.over hb3
        have HX3 := Lib.hid hx3
        obtain ⟨⟨s0, s1, s2, s3⟩, ⟨t0, t1, t2, t3⟩, tf, ts⟩ := hx3.cells
        have tf0 := tf 0
        have tf1 := tf 1
        have tf2 := tf 2
        have tf3 := tf 3
        have hcc0 : w3.cell? ⟨b, off, none⟩ = some (.int .u8 (n0 : Int)) := (hx3.below.cell (p := ⟨b, off, none⟩) hbl).trans hc0
        have hRL : Rd w3 1 L.length (.slice (some ⟨b, off, none⟩) L.length cap) (L.map bv) := HRL.out.below hx3.below
        have hlb := encB_len HGD.out
        obtain ⟨p, cc, rfl⟩ := own_slice2 hoc
        clear hb3 hx3 HX2 HY tf
        have hS1 : ∀ q, (convert 57 9 (.slice p (encB ⟨(k0 : Int), l0, l1, l2⟩).length cc)).run Try.prog (w3.drewN q) = .ok (.string (str (encB ⟨(k0 : Int), l0, l1, l2⟩))) (w3.drewN q) :=
          fun q => run_str _ _ _ _ Try.underlying57 Try.underlying5 Try.underlying9 _ _ (rd_draws hoc.rd q)
        by_cases hcl : (encB ⟨(k0 : Int), l0, l1, l2⟩).length = n0 + 3
        · have hclL : (encB ⟨(k0 : Int), l0, l1, l2⟩).length ≤ L.length := by omega
          have hR2 : Rd w3 1 (encB ⟨(k0 : Int), l0, l1, l2⟩).length (.slice (some ⟨b, off, none⟩) (encB ⟨(k0 : Int), l0, l1, l2⟩).length cap) ((L.take (encB ⟨(k0 : Int), l0, l1, l2⟩).length).map bv) := by
            have h := hRL.take rfl (encB ⟨(k0 : Int), l0, l1, l2⟩).length hclL
            rw [Nat.mul_one, ← List.map_take] at h
            exact h
          have hS2 : ∀ q, (convert 57 9 (.slice (some ⟨b, off, none⟩) (encB ⟨(k0 : Int), l0, l1, l2⟩).length cap)).run Try.prog (w3.drewN q) = .ok (.string (str (L.take (encB ⟨(k0 : Int), l0, l1, l2⟩).length))) (w3.drewN q) :=
            fun q => run_str _ _ _ _ Try.underlying57 Try.underlying5 Try.underlying9 _ _ (by rw [List.length_take, Nat.min_eq_left hclL]; exact rd_draws hR2 q)
          have hne3 : (((encB ⟨(k0 : Int), l0, l1, l2⟩).length : Int) != ((n0 : Int) + 3)) = false := by rw [bne_eq_false_iff_eq]; omega
          have hcap1 : (encB ⟨(k0 : Int), l0, l1, l2⟩).length ≤ cap := by omega
          by_cases heq : encB ⟨(k0 : Int), l0, l1, l2⟩ = L.take (encB ⟨(k0 : Int), l0, l1, l2⟩).length
          · have HD : Hid (firstN L = (⟨(k0 : Int), l0, l1, l2⟩, (encB ⟨(k0 : Int), l0, l1, l2⟩).length)) := first_yes _ HGD.out (by rw [heq]; exact List.take_prefix _ _)
            rw [← heq] at hS2
            generalize str (encB ⟨(k0 : Int), l0, l1, l2⟩) = s1 at *
            generalize (encB ⟨(k0 : Int), l0, l1, l2⟩).length = cl at *
            clear heq hR2 hoc hac hRL hcl hlb HE
            go_wp2_with fail
            go_quiet (fail)
            go_wp2
            refine bodyPost_ret (v := .tuple #[.agg #[.int .i64 k0, .int .i64 l0, .int .i64 l1, .int .i64 l2], .int .i64 cl]) (by simp [results, Try.results46, go_sem, t0, t1, t2, t3]) rfl ?_
            unfold FirstP
            rw [HD.out]
            refine ⟨rfl, ?_⟩
            exact (((((below_draws HX3.out.below _).setCell (Nat.le_refl _) _).setCell (Nat.le_refl _) _).setCell (Nat.le_refl _) _).setCell (Nat.le_refl _) _)
          · have HD : Hid (firstN L = (⟨0, 0, 0, 0⟩, 0)) := first_no _ HE.out (.inr (.inr (fun hp => heq (List.prefix_iff_eq_take.1 hp))))
            have hss : ((str (encB ⟨(k0 : Int), l0, l1, l2⟩)).toList == (str (L.take (encB ⟨(k0 : Int), l0, l1, l2⟩).length)).toList) = false := by
              rw [str_list, str_list, beq_eq_false_iff_ne]; exact heq
            generalize str (L.take (encB ⟨(k0 : Int), l0, l1, l2⟩).length) = s2 at *
            generalize str (encB ⟨(k0 : Int), l0, l1, l2⟩) = s1 at *
            generalize (encB ⟨(k0 : Int), l0, l1, l2⟩).length = cl at *
            clear heq hR2 hoc hac hRL hcl hlb HE
            go_wp2_with fail
            go_quiet (fail)
            go_wp2
            refine bodyPost_ret (v := .tuple #[.agg #[.int .i64 0, .int .i64 0, .int .i64 0, .int .i64 0], .int .i64 0]) (by simp [results, Try.results46, go_sem, t0, t1, t2, t3]) rfl ?_
            unfold FirstP
            rw [HD.out]
            refine ⟨rfl, ?_⟩
            exact (((((below_draws HX3.out.below _).setCell (Nat.le_refl _) _).setCell (Nat.le_refl _) _).setCell (Nat.le_refl _) _).setCell (Nat.le_refl _) _)
        · have HD : Hid (firstN L = (⟨0, 0, 0, 0⟩, 0)) := first_no _ HE.out (.inr (.inl (by rw [HN0.out]; exact hcl)))
          have hne3 : (((encB ⟨(k0 : Int), l0, l1, l2⟩).length : Int) != ((n0 : Int) + 3)) = true := by rw [bne_iff_ne]; omega
          generalize (encB ⟨(k0 : Int), l0, l1, l2⟩).length = cl at *
          clear hoc hac hRL hcl hS1 HE
          go_wp2_with fail
          go_quiet (fail)
          go_wp2
          refine bodyPost_ret (v := .tuple #[.agg #[.int .i64 0, .int .i64 0, .int .i64 0, .int .i64 0], .int .i64 0]) (by simp [results, Try.results46, go_sem, t0, t1, t2, t3]) rfl ?_
          unfold FirstP
          rw [HD.out]
          refine ⟨rfl, ?_⟩
          exact (((((below_draws HX3.out.below _).setCell (Nat.le_refl _) _).setCell (Nat.le_refl _) _).setCell (Nat.le_refl _) _).setCell (Nat.le_refl _) _)

theorem rfirst_any (v : Value) (L : List UInt8) (w : World) (hv : Rd w 1 L.length v (L.map bv)) : Calls Try.prog 46 #[v] w fun e w' => FirstP L w e w' := by
  by_cases h : L.length < 5 ∨ L.length < (L[0]?.getD 0).toNat + 3
  · exact first_early v L w hv h
  · obtain ⟨_, hm, hv⟩ := hv
    rcases hv with ⟨rfl, h0⟩ | ⟨b, off, cap, rfl, hle, hcm, hc⟩
    · omega
    · exact first_main b off cap L w hle hcm (fun j hj => hc j (by omega)) (by omega) (by omega)
end Go.Proofs.Ytdclgmffgidcmaa
