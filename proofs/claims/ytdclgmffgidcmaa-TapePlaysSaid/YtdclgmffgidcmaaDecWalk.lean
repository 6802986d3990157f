/- The program's notes: what Decode comes to. -/
import Derived.Test.YtdclgmffgidcmaaEncWalk
import Derived.Test.YtdclgmffgidcmaaDecPure
import Derived.Deep.QuietTactic
import Derived.BigQuiet
namespace Go.Proofs.Ytdclgmffgidcmaa
set_option linter.unusedSimpArgs false
set_option linter.unusedVariables false
open Go.RowKit

/-- What holds in Decode's loops: the note's block, the block of the three pointers, the two blocks of zeros. -/
structure DRel (w : World) (k x0 x1 x2 : Int) (wr : World) : Prop where
  res : wr.heap[w.heap.size]? = some (.cells #[.int .i64 0, .int .i64 0, .int .i64 0, .int .i64 0] 37 (0, 0))
  non : wr.heap[w.heap.size + 1]? = some (.cells #[.int .i64 0, .int .i64 0, .int .i64 0, .int .i64 0] 37 (0, 0))
  blk : wr.heap[w.heap.size + 1 + 1]? = some (.cells #[.int .i64 k, .int .i64 x0, .int .i64 x1, .int .i64 x2] 37 (0, 0))
  arr : wr.heap[w.heap.size + 1 + 1 + 1]? = some (.cells #[.pointer (some ⟨w.heap.size + 1 + 1, 1, none⟩), .pointer (some ⟨w.heap.size + 1 + 1, 2, none⟩), .pointer (some ⟨w.heap.size + 1 + 1, 3, none⟩)] 88 (0, 0))
  below : Below w.heap.size w wr

theorem DRel.drew {w : World} {k x0 x1 x2 : Int} {wr : World} (h : DRel w k x0 x1 x2 wr) : DRel w k x0 x1 x2 wr.drew := ⟨h.res, h.non, h.blk, h.arr, h.below.drew⟩
theorem DRel.size {w : World} {k x0 x1 x2 : Int} {wr : World} (h : DRel w k x0 x1 x2 wr) : w.heap.size + 1 + 1 + 1 < wr.heap.size := (Array.getElem?_eq_some_iff.1 h.arr).1
theorem DRel.byte {w : World} {k x0 x1 x2 : Int} {wr : World} (h : DRel w k x0 x1 x2 wr) {b o : Nat} {v : Value} (hc : w.cell? ⟨b, o, none⟩ = some v) : wr.cell? ⟨b, o, none⟩ = some v :=
  (h.below.cell (p := ⟨b, o, none⟩) (lt_of_cell hc)).trans hc
theorem DRel.set0 {w : World} {k x0 x1 x2 : Int} {wr : World} (h : DRel w k x0 x1 x2 wr) (y : Int) : DRel w k y x1 x2 (wr.setCell ⟨w.heap.size + 1 + 1, 1, none⟩ (.int .i64 y)) := by
  refine ⟨?_, ?_, ?_, ?_, h.below.setCell (by simp; omega) _⟩
  · rw [Below.heap_setCell _ _ _ _ (by simp; omega)]; exact h.res
  · rw [Below.heap_setCell _ _ _ _ (by simp)]; exact h.non
  · simp only [World.setCell, Array.getElem?_modify, if_true, h.blk, Option.map_some]
    simp
  · rw [Below.heap_setCell _ _ _ _ (by simp)]; exact h.arr
theorem DRel.cell0 {w : World} {k x0 x1 x2 : Int} {wr : World} (h : DRel w k x0 x1 x2 wr) : wr.cell? ⟨w.heap.size + 1 + 1, 1, none⟩ = some (.int .i64 x0) ∧ wr.frozen? ⟨w.heap.size + 1 + 1, 1, none⟩ = false ∧
    wr.cell? ⟨w.heap.size + 1 + 1 + 1, 0, none⟩ = some (.pointer (some ⟨w.heap.size + 1 + 1, 1, none⟩)) := by
  refine ⟨?_, ?_, ?_⟩
  · rw [cell_of_row wr _ _ _ _ _ h.blk]; rfl
  · simp [World.frozen?, h.blk]
  · rw [cell_of_row wr _ _ _ _ _ h.arr]; rfl
theorem DRel.set1 {w : World} {k x0 x1 x2 : Int} {wr : World} (h : DRel w k x0 x1 x2 wr) (y : Int) : DRel w k x0 y x2 (wr.setCell ⟨w.heap.size + 1 + 1, 2, none⟩ (.int .i64 y)) := by
  refine ⟨?_, ?_, ?_, ?_, h.below.setCell (by simp; omega) _⟩
  · rw [Below.heap_setCell _ _ _ _ (by simp; omega)]; exact h.res
  · rw [Below.heap_setCell _ _ _ _ (by simp)]; exact h.non
  · simp only [World.setCell, Array.getElem?_modify, if_true, h.blk, Option.map_some]
    simp
  · rw [Below.heap_setCell _ _ _ _ (by simp)]; exact h.arr
theorem DRel.cell1 {w : World} {k x0 x1 x2 : Int} {wr : World} (h : DRel w k x0 x1 x2 wr) : wr.cell? ⟨w.heap.size + 1 + 1, 2, none⟩ = some (.int .i64 x1) ∧ wr.frozen? ⟨w.heap.size + 1 + 1, 2, none⟩ = false ∧
    wr.cell? ⟨w.heap.size + 1 + 1 + 1, 1, none⟩ = some (.pointer (some ⟨w.heap.size + 1 + 1, 2, none⟩)) := by
  refine ⟨?_, ?_, ?_⟩
  · rw [cell_of_row wr _ _ _ _ _ h.blk]; rfl
  · simp [World.frozen?, h.blk]
  · rw [cell_of_row wr _ _ _ _ _ h.arr]; rfl
theorem DRel.set2 {w : World} {k x0 x1 x2 : Int} {wr : World} (h : DRel w k x0 x1 x2 wr) (y : Int) : DRel w k x0 x1 y (wr.setCell ⟨w.heap.size + 1 + 1, 3, none⟩ (.int .i64 y)) := by
  refine ⟨?_, ?_, ?_, ?_, h.below.setCell (by simp; omega) _⟩
  · rw [Below.heap_setCell _ _ _ _ (by simp; omega)]; exact h.res
  · rw [Below.heap_setCell _ _ _ _ (by simp)]; exact h.non
  · simp only [World.setCell, Array.getElem?_modify, if_true, h.blk, Option.map_some]
    simp
  · rw [Below.heap_setCell _ _ _ _ (by simp)]; exact h.arr
theorem DRel.cell2 {w : World} {k x0 x1 x2 : Int} {wr : World} (h : DRel w k x0 x1 x2 wr) : wr.cell? ⟨w.heap.size + 1 + 1, 3, none⟩ = some (.int .i64 x2) ∧ wr.frozen? ⟨w.heap.size + 1 + 1, 3, none⟩ = false ∧
    wr.cell? ⟨w.heap.size + 1 + 1 + 1, 2, none⟩ = some (.pointer (some ⟨w.heap.size + 1 + 1, 3, none⟩)) := by
  refine ⟨?_, ?_, ?_⟩
  · rw [cell_of_row wr _ _ _ _ _ h.blk]; rfl
  · simp [World.frozen?, h.blk]
  · rw [cell_of_row wr _ _ _ _ _ h.arr]; rfl

/-- Four blocks that have just been laid. -/
theorem alloc4 (w : World) (o0 o1 o2 o3 : Obj) : ((((w.alloc o0).alloc o1).alloc o2).alloc o3).heap[w.heap.size]? = some o0 ∧ ((((w.alloc o0).alloc o1).alloc o2).alloc o3).heap[w.heap.size + 1]? = some o1 ∧
    ((((w.alloc o0).alloc o1).alloc o2).alloc o3).heap[w.heap.size + 1 + 1]? = some o2 ∧ ((((w.alloc o0).alloc o1).alloc o2).alloc o3).heap[w.heap.size + 1 + 1 + 1]? = some o3 ∧ Below w.heap.size w ((((w.alloc o0).alloc o1).alloc o2).alloc o3) := by
  have s0 : (w.alloc o0).heap.size = w.heap.size + 1 := by simp
  have s1 : ((w.alloc o0).alloc o1).heap.size = w.heap.size + 1 + 1 := by simp
  have s2 : (((w.alloc o0).alloc o1).alloc o2).heap.size = w.heap.size + 1 + 1 + 1 := by simp
  refine ⟨?_, ?_, ?_, ?_, (((Below.alloc1 w o0).alloc (by omega) o1).alloc (by omega) o2).alloc (by omega) o3⟩
  · rw [Below.heap_alloc _ _ _ (by omega), Below.heap_alloc _ _ _ (by omega), Below.heap_alloc _ _ _ (by omega)]; exact heap_alloc_new w o0
  · rw [Below.heap_alloc _ _ _ (by omega), Below.heap_alloc _ _ _ (by omega), ← s0]; exact heap_alloc_new _ o1
  · rw [Below.heap_alloc _ _ _ (by omega), ← s1]; exact heap_alloc_new _ o2
  · rw [← s2]; exact heap_alloc_new _ o3
theorem below_draws {B : Nat} {a w : World} (h : Below B a w) (n : Nat) : Below B a (w.drewN n) := ⟨h.os, h.tape, h.output, h.size, h.block⟩
theorem rd_draws {w : World} {sz n : Nat} {v : Value} {xs : List Value} (h : Rd w sz n v xs) (k : Nat) : Rd (w.drewN k) sz n v xs := h.keep fun _ _ _ => rfl
theorem DRel.later {w : World} {k x0 x1 x2 : Int} {wr w4 : World} (h : DRel w k x0 x1 x2 wr) (hb : Below wr.heap.size wr w4) : DRel w k x0 x1 x2 w4 := by
  have hs := h.size
  exact ⟨(hb.block _ (by omega)).trans h.res, (hb.block _ (by omega)).trans h.non, (hb.block _ (by omega)).trans h.blk, (hb.block _ hs).trans h.arr, h.below.trans (hb.mono (by omega))⟩
theorem DRel.note {w : World} {k x0 x1 x2 : Int} {wr : World} (h : DRel w k x0 x1 x2 wr) : wr.cell? ⟨w.heap.size + 1 + 1, 0, none⟩ = some (.int .i64 k) ∧ wr.cell? ⟨w.heap.size + 1 + 1, 1, none⟩ = some (.int .i64 x0) ∧
    wr.cell? ⟨w.heap.size + 1 + 1, 2, none⟩ = some (.int .i64 x1) ∧ wr.cell? ⟨w.heap.size + 1 + 1, 3, none⟩ = some (.int .i64 x2) := by
  refine ⟨?_, ?_, ?_, ?_⟩ <;> (rw [cell_of_row wr _ _ _ _ _ h.blk]; rfl)
theorem DRel.zeros {w : World} {k x0 x1 x2 : Int} {wr : World} (h : DRel w k x0 x1 x2 wr) : wr.cell? ⟨w.heap.size + 1, 0, none⟩ = some (.int .i64 0) ∧ wr.cell? ⟨w.heap.size + 1, 1, none⟩ = some (.int .i64 0) ∧
    wr.cell? ⟨w.heap.size + 1, 2, none⟩ = some (.int .i64 0) ∧ wr.cell? ⟨w.heap.size + 1, 3, none⟩ = some (.int .i64 0) := by
  refine ⟨?_, ?_, ?_, ?_⟩ <;> (rw [cell_of_row wr _ _ _ _ _ h.non]; rfl)
theorem DRel.outs {w : World} {k x0 x1 x2 : Int} {wr : World} (h : DRel w k x0 x1 x2 wr) : (wr.cell? ⟨w.heap.size, 0, none⟩ = some (.int .i64 0) ∧ wr.cell? ⟨w.heap.size, 1, none⟩ = some (.int .i64 0) ∧
    wr.cell? ⟨w.heap.size, 2, none⟩ = some (.int .i64 0) ∧ wr.cell? ⟨w.heap.size, 3, none⟩ = some (.int .i64 0)) ∧ wr.frozen? ⟨w.heap.size, 0, none⟩ = false ∧ wr.frozen? ⟨w.heap.size, 1, none⟩ = false ∧ wr.frozen? ⟨w.heap.size, 2, none⟩ = false ∧ wr.frozen? ⟨w.heap.size, 3, none⟩ = false := by
  refine ⟨⟨?_, ?_, ?_, ?_⟩, ?_, ?_, ?_, ?_⟩ <;> first | (rw [cell_of_row wr _ _ _ _ _ h.res]; rfl) | simp [World.frozen?, h.res]

/-- The loop's facts when i numbers are read. -/
def DAt (w : World) (L : List UInt8) (k : Int) (stop i : Nat) (wr : World) : Prop :=
  DRel w k (if 0 < i then rdVal L stop 0 else 0) (if 1 < i then rdVal L stop 1 else 0) (if 2 < i then rdVal L stop 2 else 0) wr

theorem rd_stop {L : List UInt8} {stop r p : Nat} {acc : Int} (h : ¬ p < stop) : rd L stop r p acc = (acc, p) := by
  cases r with
  | zero => rfl
  | succ r => unfold rd; rw [if_neg h]
theorem rd_last {L : List UInt8} {stop r p : Nat} {acc : Int} (h : p < stop) (hb : (L[p]?.getD 0).toNat < 128) : rd L stop (r + 1) p acc = (orI acc (L[p]?.getD 0).toNat (7 * (8 - r)), p + 1) := by
  unfold rd; rw [if_pos h, if_pos hb]
theorem rd_more {L : List UInt8} {stop r p : Nat} {acc : Int} (h : p < stop) (hb : ¬ (L[p]?.getD 0).toNat < 128) : rd L stop (r + 1) p acc = rd L stop r (p + 1) (orI acc (L[p]?.getD 0).toNat (7 * (8 - r))) := by
  conv => lhs; unfold rd
  rw [if_pos h, if_neg hb]

/-- What Decode answers. -/
def decVal (L : List UInt8) : Value := if okB L then .tuple #[(rdNote L).val, .int .i64 ((encB (rdNote L)).length : Int), .int .i64 0] else .tuple #[(⟨0, 0, 0, 0⟩ : Nt).val, .int .i64 0, .int .i64 180]

theorem ok_no {L : List UInt8} (h : L.length < 2 ∨ L.length < (L[0]?.getD 0).toNat + 3 ∨ (L[0]?.getD 0).toNat = 0) : okB L = false := by
  cases hok : okB L with
  | false => rfl
  | true =>
    obtain ⟨n, hn, hp⟩ := okB_iff.1 hok
    obtain ⟨h0, _, h2, h3, _⟩ := enc_head hn hp
    have h4 := (encB_len hn).2
    omega

theorem dec_no {L : List UInt8} (h : okB L = false) : decVal L = .tuple #[(⟨0, 0, 0, 0⟩ : Nt).val, .int .i64 0, .int .i64 180] := by unfold decVal; rw [h]; rfl

theorem decode_early (v : Value) (L : List UInt8) (w : World) (hv : Rd w 1 L.length v (L.map bv)) (h : L.length < 2 ∨ L.length < (L[0]?.getD 0).toNat + 3 ∨ (L[0]?.getD 0).toNat = 0) :
    Calls Try.prog 42 #[v] w fun e w' => e = .returned (decVal L) ∧ Below w.heap.size w w' := by
  have HD := Lib.hid (dec_no (ok_no h))
  have hbb : Hid (∀ o o' : Obj, Below w.heap.size w ((w.alloc o).alloc o')) := fun o o' => (Below.alloc1 w o).trans ((Below.alloc1 _ o').mono (by simp))
  obtain ⟨_, hm, hv⟩ := hv
  unfold maxLen at hm
  by_cases h2 : L.length < 2
  · clear h
    have hd : decide ((L.length : Int) < 2) = true := by simp; omega
    have hd' : decide (L.length < 2) = true := by simp; omega
    rcases hv with ⟨rfl, hl0⟩ | ⟨b, off, cap, rfl, hle, hcm, hc⟩
    all_goals
      (try clear hc)
      go_enter Try.func42, Try.ntmps42
      go_wp2
      refine bodyPost_ret (v := .tuple #[.agg #[.int .i64 0, .int .i64 0, .int .i64 0, .int .i64 0], .int .i64 0, .int .i64 180]) (by simp [results, Try.results42, go_sem]) rfl ⟨ret_val (by rw [HD.out]; rfl), hbb.out _ _⟩
  · rcases hv with ⟨rfl, hl0⟩ | ⟨b, off, cap, rfl, hle, hcm, hc⟩
    · omega
    · have hc0 : w.cell? ⟨b, off, none⟩ = some (.int .u8 ((L[0]?.getD 0).toNat : Int)) := by
        have := hc 0 (by omega)
        rw [Nat.add_zero, List.getElem?_map] at this
        rw [this, List.getElem?_eq_getElem (by omega)]; rfl
      have hbl := lt_of_cell hc0
      have hd : decide ((L.length : Int) < 2) = false := by simp; omega
      have hd' : decide (L.length < 2) = false := by simp; omega
      have hb8 := UInt8.toNat_lt (L[0]?.getD 0)
      clear hc
      generalize (L[0]?.getD 0).toNat = n0 at *
      by_cases h3 : L.length < n0 + 3
      · have hd2 : decide ((L.length : Int) < (n0 : Int) + 3) = true := by simp; omega
        clear h
        go_enter Try.func42, Try.ntmps42
        go_wp2
        refine bodyPost_ret (v := .tuple #[.agg #[.int .i64 0, .int .i64 0, .int .i64 0, .int .i64 0], .int .i64 0, .int .i64 180]) (by simp [results, Try.results42, go_sem]) rfl ⟨ret_val (by rw [HD.out]; rfl), hbb.out _ _⟩
      · have hd2 : decide ((L.length : Int) < (n0 : Int) + 3) = false := by simp; omega
        obtain rfl : n0 = 0 := by omega
        clear h
        go_enter Try.func42, Try.ntmps42
        go_wp2
        refine bodyPost_ret (v := .tuple #[.agg #[.int .i64 0, .int .i64 0, .int .i64 0, .int .i64 0], .int .i64 0, .int .i64 180]) (by simp [results, Try.results42, go_sem]) rfl ⟨ret_val (by rw [HD.out]; rfl), hbb.out _ _⟩
end Go.Proofs.Ytdclgmffgidcmaa
