/- The tape: what the functions that are handed over do. -/
import Derived.Test.YtdclgmffgidcmaaTapeBase
import Derived.Test.YtdclgmffgidcmaaRegion
namespace Go.Proofs.Ytdclgmffgidcmaa
set_option linter.unusedSimpArgs false
set_option linter.unusedVariables false
open Go.RowKit

/-- The tape's block. -/
def tapeObj (v0 v1 : Value) (counts : Int) (armed : Bool) (budget : Int) (dead : Bool) : Obj :=
  .cells #[v0, v1, .int .i64 counts, .bool armed, .int .i64 budget, .bool dead] 60 (0, 0)

theorem tape_cells {w : World} {b : Nat} {v0 v1 : Value} {c : Int} {ar : Bool} {bu : Int} {de : Bool} (h : w.heap[b]? = some (tapeObj v0 v1 c ar bu de)) :
    (w.cell? ⟨b, 0, none⟩ = some v0 ∧ w.cell? ⟨b, 1, none⟩ = some v1 ∧ w.cell? ⟨b, 2, none⟩ = some (.int .i64 c) ∧ w.cell? ⟨b, 3, none⟩ = some (.bool ar) ∧ w.cell? ⟨b, 4, none⟩ = some (.int .i64 bu) ∧ w.cell? ⟨b, 5, none⟩ = some (.bool de)) ∧
    ∀ j, w.frozen? ⟨b, j, none⟩ = false := by
  unfold tapeObj at h
  refine ⟨⟨?_, ?_, ?_, ?_, ?_, ?_⟩, fun j => by simp [World.frozen?, h]⟩ <;> (rw [cell_of_row w b _ _ _ _ h]; rfl)

theorem tape_set {w : World} {b : Nat} {v0 v1 : Value} {c : Int} {ar : Bool} {bu : Int} {de : Bool} (h : w.heap[b]? = some (tapeObj v0 v1 c ar bu de)) :
    (∀ u, (w.setCell ⟨b, 0, none⟩ u).heap[b]? = some (tapeObj u v1 c ar bu de)) ∧ (∀ u, (w.setCell ⟨b, 1, none⟩ u).heap[b]? = some (tapeObj v0 u c ar bu de)) ∧
    (∀ k, (w.setCell ⟨b, 2, none⟩ (.int .i64 k)).heap[b]? = some (tapeObj v0 v1 k ar bu de)) ∧ (∀ k, (w.setCell ⟨b, 3, none⟩ (.bool k)).heap[b]? = some (tapeObj v0 v1 c k bu de)) ∧
    (∀ k, (w.setCell ⟨b, 4, none⟩ (.int .i64 k)).heap[b]? = some (tapeObj v0 v1 c ar k de)) ∧ (∀ k, (w.setCell ⟨b, 5, none⟩ (.bool k)).heap[b]? = some (tapeObj v0 v1 c ar bu k)) := by
  unfold tapeObj at *
  refine ⟨?_, ?_, ?_, ?_, ?_, ?_⟩ <;> (intro u; simp only [World.setCell, Array.getElem?_modify, if_true, h, Option.map_some]; simp)

theorem Grew.cell {w w' : World} {v v' : Value} (h : Grew w w' v v') {b o : Nat} {u : Value} (hc : w.cell? ⟨b, o, none⟩ = some u) (hn : v.ownBlock ≠ some b) : w'.cell? ⟨b, o, none⟩ = some u :=
  h.grown.cell hc (fun e => hn e.symm)
theorem Grew.frozen {w w' : World} {v v' : Value} (h : Grew w w' v v') {b o : Nat} (hb : b < w.heap.size) (hn : v.ownBlock ≠ some b) : w'.frozen? ⟨b, o, none⟩ = w.frozen? ⟨b, o, none⟩ :=
  World.frozen?_of_block (w := w) (h.grown.block b hb (fun e => hn e.symm))
theorem grew_size {w w' : World} {o : Obj} {v v' : Value} (h : Grew (w.alloc o).drew w' v v') : w.heap.size ≤ w'.heap.size := by have := h.grown.size; simp at this; omega
theorem cell_grew {w w' : World} {o : Obj} {v v' : Value} (h : Grew (w.alloc o).drew w' v v') {b j : Nat} {u : Value} (hc : w.cell? ⟨b, j, none⟩ = some u) (hn : v.ownBlock ≠ some b) : w'.cell? ⟨b, j, none⟩ = some u :=
  h.cell (by rw [← hc]; exact World.cell?_of_block (w := w) (Below.heap_alloc w o b (lt_of_cell hc))) hn
theorem frozen_grew {w w' : World} {o : Obj} {v v' : Value} (h : Grew (w.alloc o).drew w' v v') {b j : Nat} (hb : b < w.heap.size) (hn : v.ownBlock ≠ some b) (hf : w.frozen? ⟨b, j, none⟩ = false) : w'.frozen? ⟨b, j, none⟩ = false := by
  rw [h.frozen (by simp; omega) hn, ← hf]
  exact World.frozen?_of_block (w := w) (Below.heap_alloc w o b hb)
theorem Grew.ofDrew {w w' : World} {v v' : Value} (h : Grew w.drew w' v v') : Grew w w' v v' := ⟨⟨h.grown.os, h.grown.tape, h.grown.output, h.grown.size, h.grown.block⟩, h.own⟩
theorem Own.drew {w : World} {e : TypeId} {sz n : Nat} {v : Value} {xs : List Value} (h : Own w e sz n v xs) : Own w.drew e sz n v xs := h.keep fun _ _ _ => rfl

set_option maxHeartbeats 1000000 in
/-- put's inner function, at the area 0. -/
theorem putdo0 (w : World) (B3 B4 B7 b : Nat) (v0 v1 : Value) (c : Int) (arm : Bool) (bu : Int) (de : Bool) (x : UInt8) (l : List UInt8)
    (hb : w.heap[b]? = some (tapeObj v0 v1 c arm bu de)) (h3 : w.cell? ⟨B3, 0, none⟩ = some (.pointer (some ⟨b, 0, none⟩))) (h4 : w.cell? ⟨B4, 0, none⟩ = some (.int .i64 0)) (h7 : w.cell? ⟨B7, 0, none⟩ = some (bv x))
    (hown : Own w 5 1 l.length v0 (l.map bv)) (hl : l.length ≤ 2 ^ 20) (ab : v0.ownBlock ≠ some b) (a3 : v0.ownBlock ≠ some B3) (a4 : v0.ownBlock ≠ some B4) (a7 : v0.ownBlock ≠ some B7) :
    Calls Try.prog 41 #[.pointer (some ⟨B3, 0, none⟩), .pointer (some ⟨B4, 0, none⟩), .pointer (some ⟨B7, 0, none⟩)] w fun e w' => e = .returned (.tuple #[]) ∧
      ∃ v', Own w' 5 1 (l ++ [x]).length v' ((l ++ [x]).map bv) ∧ w'.heap[b]? = some (tapeObj v' v1 c arm bu de) ∧ Keep (fun k => k = b ∨ v0.ownBlock = some k) w w' ∧ (v'.ownBlock = v0.ownBlock ∨ ∃ g, v'.ownBlock = some g ∧ w.heap.size ≤ g) := by
  obtain ⟨⟨hc0, hc1, hc2, hc3, hc4, hc5⟩, hfz⟩ := tape_cells hb
  have lb := lt_of_cell hc0
  have l3 := lt_of_cell h3
  have l4 := lt_of_cell h4
  have l7 := lt_of_cell h7
  have hf0 := hfz 0
  have HB := Lib.hid hb
  unfold bv at h7
  clear hfz hb hc2 hc3 hc4 hc5
  go_enter Try.func41, Try.ntmps41
  go_wp2_with fail
  refine till_start (fun w' => w'.cell? ⟨B3, 0, none⟩ = some (.pointer (some ⟨b, 0, none⟩)) ∧ w'.cell? ⟨B4, 0, none⟩ = some (.int .i64 0) ∧ w'.cell? ⟨b, 0, none⟩ = some v0 ∧ w'.cell? ⟨B7, 0, none⟩ = some (.int .u8 (x.toNat : Int))) 14 (by kernel_rfl) ?_
  have hS0 : w.drew.cell? ⟨B3, 0, none⟩ = some (.pointer (some ⟨b, 0, none⟩)) ∧ w.drew.cell? ⟨B4, 0, none⟩ = some (.int .i64 0) ∧ w.drew.cell? ⟨b, 0, none⟩ = some v0 ∧ w.drew.cell? ⟨B7, 0, none⟩ = some (.int .u8 (x.toNat : Int)) := ⟨h3, h4, hc0, h7⟩
  refine till_take 0 (v := ?_) rfl (by kernel_rfl) (by kernel_rfl) (by kernel_rfl) (by kernel_rfl) (by kernel_rfl) (by kernel_rfl) (fun _ _ _ h => h) (Or.inl ⟨by rfl, fun w2 hS => ?_⟩) hS0 ?_
  rotate_left
  · obtain ⟨s3, s4, sb, s7⟩ := hS; go_simp; first | done | with_reducible rfl
  try simp only [Act.put, List.setIfInBounds_toArray, List.set_cons_zero, List.set_cons_succ]
  refine till_take 1 (v := ?_) rfl (by kernel_rfl) (by kernel_rfl) (by kernel_rfl) (by kernel_rfl) (by kernel_rfl) (by kernel_rfl) (fun _ _ _ h => h) (Or.inl ⟨by rfl, fun w2 hS => ?_⟩) hS0 ?_
  rotate_left
  · obtain ⟨s3, s4, sb, s7⟩ := hS; go_simp; first | done | with_reducible rfl
  try simp only [Act.put, List.setIfInBounds_toArray, List.set_cons_zero, List.set_cons_succ]
  refine till_take 2 (v := ?_) rfl (by kernel_rfl) (by kernel_rfl) (by kernel_rfl) (by kernel_rfl) (by kernel_rfl) (by kernel_rfl) (fun _ _ _ h => h) (Or.inl ⟨by rfl, fun w2 hS => ?_⟩) hS0 ?_
  rotate_left
  · obtain ⟨s3, s4, sb, s7⟩ := hS; go_simp; first | done | with_reducible rfl
  try simp only [Act.put, List.setIfInBounds_toArray, List.set_cons_zero, List.set_cons_succ]
  refine till_take 3 (v := ?_) rfl (by kernel_rfl) (by kernel_rfl) (by kernel_rfl) (by kernel_rfl) (by kernel_rfl) (by kernel_rfl) (fun _ _ _ h => h) (Or.inl ⟨by rfl, fun w2 hS => ?_⟩) hS0 ?_
  rotate_left
  · obtain ⟨s3, s4, sb, s7⟩ := hS; go_simp; first | done | with_reducible rfl
  try simp only [Act.put, List.setIfInBounds_toArray, List.set_cons_zero, List.set_cons_succ]
  refine till_pure 4 (v := ?_) rfl (by kernel_rfl) (by kernel_rfl) (by kernel_rfl) (by kernel_rfl) (fun _ _ _ h => h) (Or.inl ⟨by rfl, fun w2 _ => ?_⟩) hS0 ?_
  rotate_left
  · go_simp; first | done | with_reducible rfl
  try simp only [Act.put, List.setIfInBounds_toArray, List.set_cons_zero, List.set_cons_succ]
  refine till_pure 5 (v := ?_) rfl (by kernel_rfl) (by kernel_rfl) (by kernel_rfl) (by kernel_rfl) (fun _ _ _ h => h) (Or.inl ⟨by rfl, fun w2 _ => ?_⟩) hS0 ?_
  rotate_left
  · go_simp; first | done | with_reducible rfl
  try simp only [Act.put, List.setIfInBounds_toArray, List.set_cons_zero, List.set_cons_succ]
  refine till_pure 6 (v := ?_) rfl (by kernel_rfl) (by kernel_rfl) (by kernel_rfl) (by kernel_rfl) (fun _ _ _ h => h) (Or.inl ⟨by rfl, fun w2 _ => ?_⟩) hS0 ?_
  rotate_left
  · go_simp; first | done | with_reducible rfl
  try simp only [Act.put, List.setIfInBounds_toArray, List.set_cons_zero, List.set_cons_succ]
  refine till_pure 11 (v := ?_) rfl (by kernel_rfl) (by kernel_rfl) (by kernel_rfl) (by kernel_rfl) (fun _ _ _ h => h) (Or.inl ⟨by rfl, fun w2 _ => ?_⟩) hS0 ?_
  rotate_left
  · go_simp; first | done | with_reducible rfl
  try simp only [Act.put, List.setIfInBounds_toArray, List.set_cons_zero, List.set_cons_succ]
  refine till_pure 12 (v := ?_) rfl (by kernel_rfl) (by kernel_rfl) (by kernel_rfl) (by kernel_rfl) (fun _ _ _ h => h) (Or.inl ⟨by rfl, fun w2 _ => ?_⟩) hS0 ?_
  rotate_left
  · go_simp; first | done | with_reducible rfl
  try simp only [Act.put, List.setIfInBounds_toArray, List.set_cons_zero, List.set_cons_succ]
  refine till_take 7 (v := ?_) rfl (by kernel_rfl) (by kernel_rfl) (by kernel_rfl) (by kernel_rfl) (by kernel_rfl) (by kernel_rfl) (fun _ _ _ h => h) (Or.inl ⟨by rfl, fun w2 hS => ?_⟩) hS0 ?_
  rotate_left
  · obtain ⟨s3, s4, sb, s7⟩ := hS; go_simp; first | done | with_reducible rfl
  try simp only [Act.put, List.setIfInBounds_toArray, List.set_cons_zero, List.set_cons_succ]
  refine till_take 8 (v := ?_) rfl (by kernel_rfl) (by kernel_rfl) (by kernel_rfl) (by kernel_rfl) (by kernel_rfl) (by kernel_rfl) (fun _ _ _ h => h) (Or.inl ⟨by rfl, fun w2 hS => ?_⟩) hS0 ?_
  rotate_left
  · obtain ⟨s3, s4, sb, s7⟩ := hS; go_simp; first | done | with_reducible rfl
  try simp only [Act.put, List.setIfInBounds_toArray, List.set_cons_zero, List.set_cons_succ]
  refine till_step 9 (by kernel_rfl) rfl (fun K hK => ?_)
  go_simp
  refine hK.out _ _ (fun _ => ⟨(World.cell?_of_block (Below.heap_alloc w _ B3 l3)).trans h3, (World.cell?_of_block (Below.heap_alloc w _ B4 l4)).trans h4, (World.cell?_of_block (Below.heap_alloc w _ b lb)).trans hc0, (World.cell?_of_block (Below.heap_alloc w _ B7 l7)).trans h7⟩) ?_
  clear hK K
  try simp only [Act.put, List.setIfInBounds_toArray, List.set_cons_zero, List.set_cons_succ]
  refine till_step 10 (by kernel_rfl) rfl (fun K hK => ?_)
  refine step_app (by rfl) _ _ 57 57 (by rfl) 5 (.int .u8 0) 1 1 Try.underlying57 Try.info_u8 rfl v0 _ _ (by rfl) ((hown.alloc _).drew) _ 1 [_] (by rfl) (src_rd Try.underlying57 (own_new [_] (sz := 1) (n := 1) rfl (by unfold maxLen; omega)).drew.rd (by simp; rfl)) (by omega) (by unfold maxLen; omega) (by omega) ?_
  intro gg cap w1 hown1 hgrow hlt
  have hf1 : w1.frozen? ⟨b, 0, none⟩ = false := frozen_grew hgrow lb ab hf0
  have hS3 := cell_grew hgrow h3 a3
  have hS4 := cell_grew hgrow h4 a4
  have hSb := cell_grew hgrow hc0 ab
  have hS7 := cell_grew hgrow h7 a7
  refine hK.out _ _ (fun _ => ⟨hS3, hS4, hSb, hS7⟩) ?_
  clear hK K
  try simp only [Act.put, List.setIfInBounds_toArray, List.set_cons_zero, List.set_cons_succ]
  refine till_pure 13 (v := ?_) rfl (by kernel_rfl) (by kernel_rfl) (by kernel_rfl) (by kernel_rfl) (fun _ _ _ h => h) (Or.inl ⟨by rfl, fun w2 _ => ?_⟩) ⟨hS3, hS4, hSb, hS7⟩ ?_
  rotate_left
  · go_simp; first | done | with_reducible rfl
  try simp only [Act.put, List.setIfInBounds_toArray, List.set_cons_zero, List.set_cons_succ]
  refine till_step 14 (by kernel_rfl) rfl (fun K hK => ?_)
  go_simp
  refine hK.out _ _ (fun h => absurd (h.symm.trans (show _ = true from by kernel_rfl)) Bool.false_ne_true) ?_
  clear hK K
  try simp only [Act.put, List.setIfInBounds_toArray, List.set_cons_zero, List.set_cons_succ]
  refine till_done (by kernel_rfl) ?_ _
  have HO := Lib.hid hown1
  have HG := Lib.hid hgrow
  clear hown1 hgrow
  go_end0
  have hgr := HG.out.ofDrew.ofAlloc
  have hb1 : w1.heap[b]? = some (tapeObj v0 v1 c arm bu de) := by rw [hgr.grown.block b lb (fun e => ab e.symm)]; exact HB.out
  have hgb : gg ≠ b := fun e => hgr.apart lb ab (by rw [← e]; rfl)
  refine ⟨rfl, _, ?_, (tape_set hb1).1 _, ?_, hgr.own⟩
  · rw [List.length_append, List.map_append]
    exact HO.out.keep fun k hk _ => by cases hk; exact Below.heap_setCell _ _ _ _ hgb
  · exact ((Keep.ofGrown hgr.grown).mono (fun i _ e => .inr e.symm)).setCell (fun _ => .inl rfl) _

set_option maxHeartbeats 1000000 in
/-- put's inner function, at the area 1. -/
theorem putdo1 (w : World) (B3 B4 B7 b : Nat) (v0 v1 : Value) (c : Int) (arm : Bool) (bu : Int) (de : Bool) (x : UInt8) (l : List UInt8)
    (hb : w.heap[b]? = some (tapeObj v0 v1 c arm bu de)) (h3 : w.cell? ⟨B3, 0, none⟩ = some (.pointer (some ⟨b, 0, none⟩))) (h4 : w.cell? ⟨B4, 0, none⟩ = some (.int .i64 1)) (h7 : w.cell? ⟨B7, 0, none⟩ = some (bv x))
    (hown : Own w 5 1 l.length v1 (l.map bv)) (hl : l.length ≤ 2 ^ 20) (ab : v1.ownBlock ≠ some b) (a3 : v1.ownBlock ≠ some B3) (a4 : v1.ownBlock ≠ some B4) (a7 : v1.ownBlock ≠ some B7) :
    Calls Try.prog 41 #[.pointer (some ⟨B3, 0, none⟩), .pointer (some ⟨B4, 0, none⟩), .pointer (some ⟨B7, 0, none⟩)] w fun e w' => e = .returned (.tuple #[]) ∧
      ∃ v', Own w' 5 1 (l ++ [x]).length v' ((l ++ [x]).map bv) ∧ w'.heap[b]? = some (tapeObj v0 v' c arm bu de) ∧ Keep (fun k => k = b ∨ v1.ownBlock = some k) w w' ∧ (v'.ownBlock = v1.ownBlock ∨ ∃ g, v'.ownBlock = some g ∧ w.heap.size ≤ g) := by
  obtain ⟨⟨hc0, hc1, hc2, hc3, hc4, hc5⟩, hfz⟩ := tape_cells hb
  have lb := lt_of_cell hc0
  have l3 := lt_of_cell h3
  have l4 := lt_of_cell h4
  have l7 := lt_of_cell h7
  have hf0 := hfz 1
  have HB := Lib.hid hb
  unfold bv at h7
  clear hfz hb hc2 hc3 hc4 hc5
  go_enter Try.func41, Try.ntmps41
  go_wp2_with fail
  refine till_start (fun w' => w'.cell? ⟨B3, 0, none⟩ = some (.pointer (some ⟨b, 0, none⟩)) ∧ w'.cell? ⟨B4, 0, none⟩ = some (.int .i64 1) ∧ w'.cell? ⟨b, 1, none⟩ = some v1 ∧ w'.cell? ⟨B7, 0, none⟩ = some (.int .u8 (x.toNat : Int))) 14 (by kernel_rfl) ?_
  have hS0 : w.drew.cell? ⟨B3, 0, none⟩ = some (.pointer (some ⟨b, 0, none⟩)) ∧ w.drew.cell? ⟨B4, 0, none⟩ = some (.int .i64 1) ∧ w.drew.cell? ⟨b, 1, none⟩ = some v1 ∧ w.drew.cell? ⟨B7, 0, none⟩ = some (.int .u8 (x.toNat : Int)) := ⟨h3, h4, hc1, h7⟩
  refine till_take 0 (v := ?_) rfl (by kernel_rfl) (by kernel_rfl) (by kernel_rfl) (by kernel_rfl) (by kernel_rfl) (by kernel_rfl) (fun _ _ _ h => h) (Or.inl ⟨by rfl, fun w2 hS => ?_⟩) hS0 ?_
  rotate_left
  · obtain ⟨s3, s4, sb, s7⟩ := hS; go_simp; first | done | with_reducible rfl
  try simp only [Act.put, List.setIfInBounds_toArray, List.set_cons_zero, List.set_cons_succ]
  refine till_take 1 (v := ?_) rfl (by kernel_rfl) (by kernel_rfl) (by kernel_rfl) (by kernel_rfl) (by kernel_rfl) (by kernel_rfl) (fun _ _ _ h => h) (Or.inl ⟨by rfl, fun w2 hS => ?_⟩) hS0 ?_
  rotate_left
  · obtain ⟨s3, s4, sb, s7⟩ := hS; go_simp; first | done | with_reducible rfl
  try simp only [Act.put, List.setIfInBounds_toArray, List.set_cons_zero, List.set_cons_succ]
  refine till_take 2 (v := ?_) rfl (by kernel_rfl) (by kernel_rfl) (by kernel_rfl) (by kernel_rfl) (by kernel_rfl) (by kernel_rfl) (fun _ _ _ h => h) (Or.inl ⟨by rfl, fun w2 hS => ?_⟩) hS0 ?_
  rotate_left
  · obtain ⟨s3, s4, sb, s7⟩ := hS; go_simp; first | done | with_reducible rfl
  try simp only [Act.put, List.setIfInBounds_toArray, List.set_cons_zero, List.set_cons_succ]
  refine till_take 3 (v := ?_) rfl (by kernel_rfl) (by kernel_rfl) (by kernel_rfl) (by kernel_rfl) (by kernel_rfl) (by kernel_rfl) (fun _ _ _ h => h) (Or.inl ⟨by rfl, fun w2 hS => ?_⟩) hS0 ?_
  rotate_left
  · obtain ⟨s3, s4, sb, s7⟩ := hS; go_simp; first | done | with_reducible rfl
  try simp only [Act.put, List.setIfInBounds_toArray, List.set_cons_zero, List.set_cons_succ]
  refine till_pure 4 (v := ?_) rfl (by kernel_rfl) (by kernel_rfl) (by kernel_rfl) (by kernel_rfl) (fun _ _ _ h => h) (Or.inl ⟨by rfl, fun w2 _ => ?_⟩) hS0 ?_
  rotate_left
  · go_simp; first | done | with_reducible rfl
  try simp only [Act.put, List.setIfInBounds_toArray, List.set_cons_zero, List.set_cons_succ]
  refine till_pure 5 (v := ?_) rfl (by kernel_rfl) (by kernel_rfl) (by kernel_rfl) (by kernel_rfl) (fun _ _ _ h => h) (Or.inl ⟨by rfl, fun w2 _ => ?_⟩) hS0 ?_
  rotate_left
  · go_simp; first | done | with_reducible rfl
  try simp only [Act.put, List.setIfInBounds_toArray, List.set_cons_zero, List.set_cons_succ]
  refine till_pure 6 (v := ?_) rfl (by kernel_rfl) (by kernel_rfl) (by kernel_rfl) (by kernel_rfl) (fun _ _ _ h => h) (Or.inl ⟨by rfl, fun w2 _ => ?_⟩) hS0 ?_
  rotate_left
  · go_simp; first | done | with_reducible rfl
  try simp only [Act.put, List.setIfInBounds_toArray, List.set_cons_zero, List.set_cons_succ]
  refine till_pure 11 (v := ?_) rfl (by kernel_rfl) (by kernel_rfl) (by kernel_rfl) (by kernel_rfl) (fun _ _ _ h => h) (Or.inl ⟨by rfl, fun w2 _ => ?_⟩) hS0 ?_
  rotate_left
  · go_simp; first | done | with_reducible rfl
  try simp only [Act.put, List.setIfInBounds_toArray, List.set_cons_zero, List.set_cons_succ]
  refine till_pure 12 (v := ?_) rfl (by kernel_rfl) (by kernel_rfl) (by kernel_rfl) (by kernel_rfl) (fun _ _ _ h => h) (Or.inl ⟨by rfl, fun w2 _ => ?_⟩) hS0 ?_
  rotate_left
  · go_simp; first | done | with_reducible rfl
  try simp only [Act.put, List.setIfInBounds_toArray, List.set_cons_zero, List.set_cons_succ]
  refine till_take 7 (v := ?_) rfl (by kernel_rfl) (by kernel_rfl) (by kernel_rfl) (by kernel_rfl) (by kernel_rfl) (by kernel_rfl) (fun _ _ _ h => h) (Or.inl ⟨by rfl, fun w2 hS => ?_⟩) hS0 ?_
  rotate_left
  · obtain ⟨s3, s4, sb, s7⟩ := hS; go_simp; first | done | with_reducible rfl
  try simp only [Act.put, List.setIfInBounds_toArray, List.set_cons_zero, List.set_cons_succ]
  refine till_take 8 (v := ?_) rfl (by kernel_rfl) (by kernel_rfl) (by kernel_rfl) (by kernel_rfl) (by kernel_rfl) (by kernel_rfl) (fun _ _ _ h => h) (Or.inl ⟨by rfl, fun w2 hS => ?_⟩) hS0 ?_
  rotate_left
  · obtain ⟨s3, s4, sb, s7⟩ := hS; go_simp; first | done | with_reducible rfl
  try simp only [Act.put, List.setIfInBounds_toArray, List.set_cons_zero, List.set_cons_succ]
  refine till_step 9 (by kernel_rfl) rfl (fun K hK => ?_)
  go_simp
  refine hK.out _ _ (fun _ => ⟨(World.cell?_of_block (Below.heap_alloc w _ B3 l3)).trans h3, (World.cell?_of_block (Below.heap_alloc w _ B4 l4)).trans h4, (World.cell?_of_block (Below.heap_alloc w _ b lb)).trans hc1, (World.cell?_of_block (Below.heap_alloc w _ B7 l7)).trans h7⟩) ?_
  clear hK K
  try simp only [Act.put, List.setIfInBounds_toArray, List.set_cons_zero, List.set_cons_succ]
  refine till_step 10 (by kernel_rfl) rfl (fun K hK => ?_)
  refine step_app (by rfl) _ _ 57 57 (by rfl) 5 (.int .u8 0) 1 1 Try.underlying57 Try.info_u8 rfl v1 _ _ (by rfl) ((hown.alloc _).drew) _ 1 [_] (by rfl) (src_rd Try.underlying57 (own_new [_] (sz := 1) (n := 1) rfl (by unfold maxLen; omega)).drew.rd (by simp; rfl)) (by omega) (by unfold maxLen; omega) (by omega) ?_
  intro gg cap w1 hown1 hgrow hlt
  have hf1 : w1.frozen? ⟨b, 1, none⟩ = false := frozen_grew hgrow lb ab hf0
  have hS3 := cell_grew hgrow h3 a3
  have hS4 := cell_grew hgrow h4 a4
  have hSb := cell_grew hgrow hc1 ab
  have hS7 := cell_grew hgrow h7 a7
  refine hK.out _ _ (fun _ => ⟨hS3, hS4, hSb, hS7⟩) ?_
  clear hK K
  try simp only [Act.put, List.setIfInBounds_toArray, List.set_cons_zero, List.set_cons_succ]
  refine till_pure 13 (v := ?_) rfl (by kernel_rfl) (by kernel_rfl) (by kernel_rfl) (by kernel_rfl) (fun _ _ _ h => h) (Or.inl ⟨by rfl, fun w2 _ => ?_⟩) ⟨hS3, hS4, hSb, hS7⟩ ?_
  rotate_left
  · go_simp; first | done | with_reducible rfl
  try simp only [Act.put, List.setIfInBounds_toArray, List.set_cons_zero, List.set_cons_succ]
  refine till_step 14 (by kernel_rfl) rfl (fun K hK => ?_)
  go_simp
  refine hK.out _ _ (fun h => absurd (h.symm.trans (show _ = true from by kernel_rfl)) Bool.false_ne_true) ?_
  clear hK K
  try simp only [Act.put, List.setIfInBounds_toArray, List.set_cons_zero, List.set_cons_succ]
  refine till_done (by kernel_rfl) ?_ _
  have HO := Lib.hid hown1
  have HG := Lib.hid hgrow
  clear hown1 hgrow
  go_end0
  have hgr := HG.out.ofDrew.ofAlloc
  have hb1 : w1.heap[b]? = some (tapeObj v0 v1 c arm bu de) := by rw [hgr.grown.block b lb (fun e => ab e.symm)]; exact HB.out
  have hgb : gg ≠ b := fun e => hgr.apart lb ab (by rw [← e]; rfl)
  refine ⟨rfl, _, ?_, (tape_set hb1).2.1 _, ?_, hgr.own⟩
  · rw [List.length_append, List.map_append]
    exact HO.out.keep fun k hk _ => by cases hk; exact Below.heap_setCell _ _ _ _ hgb
  · exact ((Keep.ofGrown hgr.grown).mono (fun i _ e => .inr e.symm)).setCell (fun _ => .inl rfl) _

set_option maxHeartbeats 1000000 in
/-- cut's inner function, at the area 0. -/
theorem cutdo0 (w : World) (B3 B4 B5 b g cap n m : Nat) (v0 v1 : Value) (c : Int) (arm : Bool) (bu : Int) (de : Bool) (hv : v0 = .slice (some ⟨g, 0, none⟩) m cap)
    (hb : w.heap[b]? = some (tapeObj v0 v1 c arm bu de)) (h3 : w.cell? ⟨B3, 0, none⟩ = some (.pointer (some ⟨b, 0, none⟩))) (h4 : w.cell? ⟨B4, 0, none⟩ = some (.int .i64 0)) (h5 : w.cell? ⟨B5, 0, none⟩ = some (.int .i64 (n : Int)))
    (hn : n ≤ m) (hm : m ≤ cap) :
    Calls Try.prog 43 #[.pointer (some ⟨B3, 0, none⟩), .pointer (some ⟨B4, 0, none⟩), .pointer (some ⟨B5, 0, none⟩)] w fun e w' => e = .returned (.tuple #[]) ∧
      w'.heap[b]? = some (tapeObj (.slice (some ⟨g, 0, none⟩) n n) v1 c arm bu de) ∧ Keep (fun k => k = b) w w' := by
  subst hv
  have hnc : n ≤ cap := Nat.le_trans hn hm
  obtain ⟨⟨hc0, hc1, hc2, hc3, hc4, hc5⟩, hfz⟩ := tape_cells hb
  have lb := lt_of_cell hc0
  have l3 := lt_of_cell h3
  have l4 := lt_of_cell h4
  have l5 := lt_of_cell h5
  have hf0 : w.frozen? ⟨b, 0, none⟩ = false := hfz 0
  have HB := Lib.hid hb
  clear hfz hb hc2 hc3 hc4 hc5
  go_enter Try.func43, Try.ntmps43
  go_wp2_with fail
  refine till_start (fun w' => w'.cell? ⟨B3, 0, none⟩ = some (.pointer (some ⟨b, 0, none⟩)) ∧ w'.cell? ⟨B4, 0, none⟩ = some (.int .i64 0) ∧ w'.cell? ⟨b, 0, none⟩ = some (.slice (some ⟨g, 0, none⟩) m cap) ∧ w'.cell? ⟨B5, 0, none⟩ = some (.int .i64 (n : Int))) 14 (by kernel_rfl) ?_
  have hS0 : w.drew.cell? ⟨B3, 0, none⟩ = some (.pointer (some ⟨b, 0, none⟩)) ∧ w.drew.cell? ⟨B4, 0, none⟩ = some (.int .i64 0) ∧ w.drew.cell? ⟨b, 0, none⟩ = some (.slice (some ⟨g, 0, none⟩) m cap) ∧ w.drew.cell? ⟨B5, 0, none⟩ = some (.int .i64 (n : Int)) := ⟨h3, h4, hc0, h5⟩
  refine till_take 0 (v := ?_) rfl (by kernel_rfl) (by kernel_rfl) (by kernel_rfl) (by kernel_rfl) (by kernel_rfl) (by kernel_rfl) (fun _ _ _ h => h) (Or.inl ⟨by rfl, fun w2 hS => ?_⟩) hS0 ?_
  rotate_left
  · obtain ⟨s3, s4, sb, s5⟩ := hS; go_simp; first | done | with_reducible rfl
  try simp only [Act.put, List.setIfInBounds_toArray, List.set_cons_zero, List.set_cons_succ]
  refine till_take 1 (v := ?_) rfl (by kernel_rfl) (by kernel_rfl) (by kernel_rfl) (by kernel_rfl) (by kernel_rfl) (by kernel_rfl) (fun _ _ _ h => h) (Or.inl ⟨by rfl, fun w2 hS => ?_⟩) hS0 ?_
  rotate_left
  · obtain ⟨s3, s4, sb, s5⟩ := hS; go_simp; first | done | with_reducible rfl
  try simp only [Act.put, List.setIfInBounds_toArray, List.set_cons_zero, List.set_cons_succ]
  refine till_take 2 (v := ?_) rfl (by kernel_rfl) (by kernel_rfl) (by kernel_rfl) (by kernel_rfl) (by kernel_rfl) (by kernel_rfl) (fun _ _ _ h => h) (Or.inl ⟨by rfl, fun w2 hS => ?_⟩) hS0 ?_
  rotate_left
  · obtain ⟨s3, s4, sb, s5⟩ := hS; go_simp; first | done | with_reducible rfl
  try simp only [Act.put, List.setIfInBounds_toArray, List.set_cons_zero, List.set_cons_succ]
  refine till_take 3 (v := ?_) rfl (by kernel_rfl) (by kernel_rfl) (by kernel_rfl) (by kernel_rfl) (by kernel_rfl) (by kernel_rfl) (fun _ _ _ h => h) (Or.inl ⟨by rfl, fun w2 hS => ?_⟩) hS0 ?_
  rotate_left
  · obtain ⟨s3, s4, sb, s5⟩ := hS; go_simp; first | done | with_reducible rfl
  try simp only [Act.put, List.setIfInBounds_toArray, List.set_cons_zero, List.set_cons_succ]
  refine till_pure 4 (v := ?_) rfl (by kernel_rfl) (by kernel_rfl) (by kernel_rfl) (by kernel_rfl) (fun _ _ _ h => h) (Or.inl ⟨by rfl, fun w2 _ => ?_⟩) hS0 ?_
  rotate_left
  · go_simp; first | done | with_reducible rfl
  try simp only [Act.put, List.setIfInBounds_toArray, List.set_cons_zero, List.set_cons_succ]
  refine till_pure 5 (v := ?_) rfl (by kernel_rfl) (by kernel_rfl) (by kernel_rfl) (by kernel_rfl) (fun _ _ _ h => h) (Or.inl ⟨by rfl, fun w2 _ => ?_⟩) hS0 ?_
  rotate_left
  · go_simp; first | done | with_reducible rfl
  try simp only [Act.put, List.setIfInBounds_toArray, List.set_cons_zero, List.set_cons_succ]
  refine till_pure 6 (v := ?_) rfl (by kernel_rfl) (by kernel_rfl) (by kernel_rfl) (by kernel_rfl) (fun _ _ _ h => h) (Or.inl ⟨by rfl, fun w2 _ => ?_⟩) hS0 ?_
  rotate_left
  · go_simp; first | done | with_reducible rfl
  try simp only [Act.put, List.setIfInBounds_toArray, List.set_cons_zero, List.set_cons_succ]
  refine till_take 7 (v := ?_) rfl (by kernel_rfl) (by kernel_rfl) (by kernel_rfl) (by kernel_rfl) (by kernel_rfl) (by kernel_rfl) (fun _ _ _ h => h) (Or.inl ⟨by rfl, fun w2 hS => ?_⟩) hS0 ?_
  rotate_left
  · obtain ⟨s3, s4, sb, s5⟩ := hS; go_simp; first | done | with_reducible rfl
  try simp only [Act.put, List.setIfInBounds_toArray, List.set_cons_zero, List.set_cons_succ]
  refine till_take 8 (v := ?_) rfl (by kernel_rfl) (by kernel_rfl) (by kernel_rfl) (by kernel_rfl) (by kernel_rfl) (by kernel_rfl) (fun _ _ _ h => h) (Or.inl ⟨by rfl, fun w2 hS => ?_⟩) hS0 ?_
  rotate_left
  · obtain ⟨s3, s4, sb, s5⟩ := hS; go_simp; first | done | with_reducible rfl
  try simp only [Act.put, List.setIfInBounds_toArray, List.set_cons_zero, List.set_cons_succ]
  refine till_take 9 (v := ?_) rfl (by kernel_rfl) (by kernel_rfl) (by kernel_rfl) (by kernel_rfl) (by kernel_rfl) (by kernel_rfl) (fun _ _ _ h => h) (Or.inl ⟨by rfl, fun w2 hS => ?_⟩) hS0 ?_
  rotate_left
  · obtain ⟨s3, s4, sb, s5⟩ := hS; go_simp; first | done | with_reducible rfl
  try simp only [Act.put, List.setIfInBounds_toArray, List.set_cons_zero, List.set_cons_succ]
  refine till_pure 10 (v := ?_) rfl (by kernel_rfl) (by kernel_rfl) (by kernel_rfl) (by kernel_rfl) (fun _ _ _ h => h) (Or.inl ⟨by rfl, fun w2 _ => ?_⟩) hS0 ?_
  rotate_left
  · go_simp; first | done | with_reducible rfl
  try simp only [Act.put, List.setIfInBounds_toArray, List.set_cons_zero, List.set_cons_succ]
  refine till_pure 11 (v := ?_) rfl (by kernel_rfl) (by kernel_rfl) (by kernel_rfl) (by kernel_rfl) (fun _ _ _ h => h) (Or.inl ⟨by rfl, fun w2 _ => ?_⟩) hS0 ?_
  rotate_left
  · go_simp; first | done | with_reducible rfl
  try simp only [Act.put, List.setIfInBounds_toArray, List.set_cons_zero, List.set_cons_succ]
  refine till_pure 12 (v := ?_) rfl (by kernel_rfl) (by kernel_rfl) (by kernel_rfl) (by kernel_rfl) (fun _ _ _ h => h) (Or.inl ⟨by rfl, fun w2 _ => ?_⟩) hS0 ?_
  rotate_left
  · go_simp; first | done | with_reducible rfl
  try simp only [Act.put, List.setIfInBounds_toArray, List.set_cons_zero, List.set_cons_succ]
  refine till_pure 13 (v := ?_) rfl (by kernel_rfl) (by kernel_rfl) (by kernel_rfl) (by kernel_rfl) (fun _ _ _ h => h) (Or.inl ⟨by rfl, fun w2 _ => ?_⟩) hS0 ?_
  rotate_left
  · go_simp; first | done | with_reducible rfl
  try simp only [Act.put, List.setIfInBounds_toArray, List.set_cons_zero, List.set_cons_succ]
  refine till_step 14 (by kernel_rfl) rfl (fun K hK => ?_)
  go_simp
  refine hK.out _ _ (fun h => absurd (h.symm.trans (show _ = true from by kernel_rfl)) Bool.false_ne_true) ?_
  clear hK K
  try simp only [Act.put, List.setIfInBounds_toArray, List.set_cons_zero, List.set_cons_succ]
  refine till_done (by kernel_rfl) ?_ _
  go_end0
  refine ⟨rfl, (tape_set (w := w.drew) HB.out).1 _, ?_⟩
  exact ((Keep.refl (fun k => k = b) w).setCell (p := ⟨b, 0, none⟩) (fun _ => rfl) _).drew

set_option maxHeartbeats 1000000 in
/-- cut's inner function, at the area 1. -/
theorem cutdo1 (w : World) (B3 B4 B5 b g cap n m : Nat) (v0 v1 : Value) (c : Int) (arm : Bool) (bu : Int) (de : Bool) (hv : v1 = .slice (some ⟨g, 0, none⟩) m cap)
    (hb : w.heap[b]? = some (tapeObj v0 v1 c arm bu de)) (h3 : w.cell? ⟨B3, 0, none⟩ = some (.pointer (some ⟨b, 0, none⟩))) (h4 : w.cell? ⟨B4, 0, none⟩ = some (.int .i64 1)) (h5 : w.cell? ⟨B5, 0, none⟩ = some (.int .i64 (n : Int)))
    (hn : n ≤ m) (hm : m ≤ cap) :
    Calls Try.prog 43 #[.pointer (some ⟨B3, 0, none⟩), .pointer (some ⟨B4, 0, none⟩), .pointer (some ⟨B5, 0, none⟩)] w fun e w' => e = .returned (.tuple #[]) ∧
      w'.heap[b]? = some (tapeObj v0 (.slice (some ⟨g, 0, none⟩) n n) c arm bu de) ∧ Keep (fun k => k = b) w w' := by
  subst hv
  have hnc : n ≤ cap := Nat.le_trans hn hm
  obtain ⟨⟨hc0, hc1, hc2, hc3, hc4, hc5⟩, hfz⟩ := tape_cells hb
  have lb := lt_of_cell hc0
  have l3 := lt_of_cell h3
  have l4 := lt_of_cell h4
  have l5 := lt_of_cell h5
  have hf0 : w.frozen? ⟨b, 1, none⟩ = false := hfz 1
  have HB := Lib.hid hb
  clear hfz hb hc2 hc3 hc4 hc5
  go_enter Try.func43, Try.ntmps43
  go_wp2_with fail
  refine till_start (fun w' => w'.cell? ⟨B3, 0, none⟩ = some (.pointer (some ⟨b, 0, none⟩)) ∧ w'.cell? ⟨B4, 0, none⟩ = some (.int .i64 1) ∧ w'.cell? ⟨b, 1, none⟩ = some (.slice (some ⟨g, 0, none⟩) m cap) ∧ w'.cell? ⟨B5, 0, none⟩ = some (.int .i64 (n : Int))) 14 (by kernel_rfl) ?_
  have hS0 : w.drew.cell? ⟨B3, 0, none⟩ = some (.pointer (some ⟨b, 0, none⟩)) ∧ w.drew.cell? ⟨B4, 0, none⟩ = some (.int .i64 1) ∧ w.drew.cell? ⟨b, 1, none⟩ = some (.slice (some ⟨g, 0, none⟩) m cap) ∧ w.drew.cell? ⟨B5, 0, none⟩ = some (.int .i64 (n : Int)) := ⟨h3, h4, hc1, h5⟩
  refine till_take 0 (v := ?_) rfl (by kernel_rfl) (by kernel_rfl) (by kernel_rfl) (by kernel_rfl) (by kernel_rfl) (by kernel_rfl) (fun _ _ _ h => h) (Or.inl ⟨by rfl, fun w2 hS => ?_⟩) hS0 ?_
  rotate_left
  · obtain ⟨s3, s4, sb, s5⟩ := hS; go_simp; first | done | with_reducible rfl
  try simp only [Act.put, List.setIfInBounds_toArray, List.set_cons_zero, List.set_cons_succ]
  refine till_take 1 (v := ?_) rfl (by kernel_rfl) (by kernel_rfl) (by kernel_rfl) (by kernel_rfl) (by kernel_rfl) (by kernel_rfl) (fun _ _ _ h => h) (Or.inl ⟨by rfl, fun w2 hS => ?_⟩) hS0 ?_
  rotate_left
  · obtain ⟨s3, s4, sb, s5⟩ := hS; go_simp; first | done | with_reducible rfl
  try simp only [Act.put, List.setIfInBounds_toArray, List.set_cons_zero, List.set_cons_succ]
  refine till_take 2 (v := ?_) rfl (by kernel_rfl) (by kernel_rfl) (by kernel_rfl) (by kernel_rfl) (by kernel_rfl) (by kernel_rfl) (fun _ _ _ h => h) (Or.inl ⟨by rfl, fun w2 hS => ?_⟩) hS0 ?_
  rotate_left
  · obtain ⟨s3, s4, sb, s5⟩ := hS; go_simp; first | done | with_reducible rfl
  try simp only [Act.put, List.setIfInBounds_toArray, List.set_cons_zero, List.set_cons_succ]
  refine till_take 3 (v := ?_) rfl (by kernel_rfl) (by kernel_rfl) (by kernel_rfl) (by kernel_rfl) (by kernel_rfl) (by kernel_rfl) (fun _ _ _ h => h) (Or.inl ⟨by rfl, fun w2 hS => ?_⟩) hS0 ?_
  rotate_left
  · obtain ⟨s3, s4, sb, s5⟩ := hS; go_simp; first | done | with_reducible rfl
  try simp only [Act.put, List.setIfInBounds_toArray, List.set_cons_zero, List.set_cons_succ]
  refine till_pure 4 (v := ?_) rfl (by kernel_rfl) (by kernel_rfl) (by kernel_rfl) (by kernel_rfl) (fun _ _ _ h => h) (Or.inl ⟨by rfl, fun w2 _ => ?_⟩) hS0 ?_
  rotate_left
  · go_simp; first | done | with_reducible rfl
  try simp only [Act.put, List.setIfInBounds_toArray, List.set_cons_zero, List.set_cons_succ]
  refine till_pure 5 (v := ?_) rfl (by kernel_rfl) (by kernel_rfl) (by kernel_rfl) (by kernel_rfl) (fun _ _ _ h => h) (Or.inl ⟨by rfl, fun w2 _ => ?_⟩) hS0 ?_
  rotate_left
  · go_simp; first | done | with_reducible rfl
  try simp only [Act.put, List.setIfInBounds_toArray, List.set_cons_zero, List.set_cons_succ]
  refine till_pure 6 (v := ?_) rfl (by kernel_rfl) (by kernel_rfl) (by kernel_rfl) (by kernel_rfl) (fun _ _ _ h => h) (Or.inl ⟨by rfl, fun w2 _ => ?_⟩) hS0 ?_
  rotate_left
  · go_simp; first | done | with_reducible rfl
  try simp only [Act.put, List.setIfInBounds_toArray, List.set_cons_zero, List.set_cons_succ]
  refine till_take 7 (v := ?_) rfl (by kernel_rfl) (by kernel_rfl) (by kernel_rfl) (by kernel_rfl) (by kernel_rfl) (by kernel_rfl) (fun _ _ _ h => h) (Or.inl ⟨by rfl, fun w2 hS => ?_⟩) hS0 ?_
  rotate_left
  · obtain ⟨s3, s4, sb, s5⟩ := hS; go_simp; first | done | with_reducible rfl
  try simp only [Act.put, List.setIfInBounds_toArray, List.set_cons_zero, List.set_cons_succ]
  refine till_take 8 (v := ?_) rfl (by kernel_rfl) (by kernel_rfl) (by kernel_rfl) (by kernel_rfl) (by kernel_rfl) (by kernel_rfl) (fun _ _ _ h => h) (Or.inl ⟨by rfl, fun w2 hS => ?_⟩) hS0 ?_
  rotate_left
  · obtain ⟨s3, s4, sb, s5⟩ := hS; go_simp; first | done | with_reducible rfl
  try simp only [Act.put, List.setIfInBounds_toArray, List.set_cons_zero, List.set_cons_succ]
  refine till_take 9 (v := ?_) rfl (by kernel_rfl) (by kernel_rfl) (by kernel_rfl) (by kernel_rfl) (by kernel_rfl) (by kernel_rfl) (fun _ _ _ h => h) (Or.inl ⟨by rfl, fun w2 hS => ?_⟩) hS0 ?_
  rotate_left
  · obtain ⟨s3, s4, sb, s5⟩ := hS; go_simp; first | done | with_reducible rfl
  try simp only [Act.put, List.setIfInBounds_toArray, List.set_cons_zero, List.set_cons_succ]
  refine till_pure 10 (v := ?_) rfl (by kernel_rfl) (by kernel_rfl) (by kernel_rfl) (by kernel_rfl) (fun _ _ _ h => h) (Or.inl ⟨by rfl, fun w2 _ => ?_⟩) hS0 ?_
  rotate_left
  · go_simp; first | done | with_reducible rfl
  try simp only [Act.put, List.setIfInBounds_toArray, List.set_cons_zero, List.set_cons_succ]
  refine till_pure 11 (v := ?_) rfl (by kernel_rfl) (by kernel_rfl) (by kernel_rfl) (by kernel_rfl) (fun _ _ _ h => h) (Or.inl ⟨by rfl, fun w2 _ => ?_⟩) hS0 ?_
  rotate_left
  · go_simp; first | done | with_reducible rfl
  try simp only [Act.put, List.setIfInBounds_toArray, List.set_cons_zero, List.set_cons_succ]
  refine till_pure 12 (v := ?_) rfl (by kernel_rfl) (by kernel_rfl) (by kernel_rfl) (by kernel_rfl) (fun _ _ _ h => h) (Or.inl ⟨by rfl, fun w2 _ => ?_⟩) hS0 ?_
  rotate_left
  · go_simp; first | done | with_reducible rfl
  try simp only [Act.put, List.setIfInBounds_toArray, List.set_cons_zero, List.set_cons_succ]
  refine till_pure 13 (v := ?_) rfl (by kernel_rfl) (by kernel_rfl) (by kernel_rfl) (by kernel_rfl) (fun _ _ _ h => h) (Or.inl ⟨by rfl, fun w2 _ => ?_⟩) hS0 ?_
  rotate_left
  · go_simp; first | done | with_reducible rfl
  try simp only [Act.put, List.setIfInBounds_toArray, List.set_cons_zero, List.set_cons_succ]
  refine till_step 14 (by kernel_rfl) rfl (fun K hK => ?_)
  go_simp
  refine hK.out _ _ (fun h => absurd (h.symm.trans (show _ = true from by kernel_rfl)) Bool.false_ne_true) ?_
  clear hK K
  try simp only [Act.put, List.setIfInBounds_toArray, List.set_cons_zero, List.set_cons_succ]
  refine till_done (by kernel_rfl) ?_ _
  go_end0
  refine ⟨rfl, (tape_set (w := w.drew) HB.out).2.1 _, ?_⟩
  exact ((Keep.refl (fun k => k = b) w).setCell (p := ⟨b, 1, none⟩) (fun _ => rfl) _).drew
end Go.Proofs.Ytdclgmffgidcmaa
