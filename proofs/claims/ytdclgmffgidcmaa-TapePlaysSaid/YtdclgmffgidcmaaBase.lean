/- Small lemmas on worlds, slices and bytes that the walks of this seat share; no condition. -/
import Derived.WalkKit
import Derived.Deep.DeepCutAuto
import Derived.Lib.Hide
import Derived.Deep.AppendSrc
import Derived.Deep.Upon
import Derived.Laws.BytesArg
namespace Go.Proofs.Ytdclgmffgidcmaa
set_option linter.unusedSimpArgs false
set_option linter.unusedVariables false
open Go.RowKit

/-- Outside the blocks of S, and below its size, the world is as it was. -/
structure Keep (S : Nat → Prop) (w w' : World) : Prop where
  os : w'.os = w.os
  tape : w'.tape = w.tape
  output : w'.output = w.output
  size : w.heap.size ≤ w'.heap.size
  block : ∀ k, k < w.heap.size → ¬ S k → w'.heap[k]? = w.heap[k]?

namespace Keep
variable {S S' : Nat → Prop} {w w1 w2 : World}
theorem refl (S : Nat → Prop) (w : World) : Keep S w w := ⟨rfl, rfl, rfl, Nat.le_refl _, fun _ _ _ => rfl⟩
theorem trans (h : Keep S w w1) (k : Keep S' w1 w2) (hs : ∀ i, i < w.heap.size → S' i → S i) : Keep S w w2 :=
  ⟨k.os.trans h.os, k.tape.trans h.tape, k.output.trans h.output, Nat.le_trans h.size k.size, fun i hi hn =>
    (k.block i (Nat.lt_of_lt_of_le hi h.size) (fun q => hn (hs i hi q))).trans (h.block i hi hn)⟩
theorem mono (h : Keep S w w1) (hs : ∀ i, i < w.heap.size → S i → S' i) : Keep S' w w1 :=
  ⟨h.os, h.tape, h.output, h.size, fun i hi hn => h.block i hi (fun q => hn (hs i hi q))⟩
theorem ofBelow (h : Below w.heap.size w w1) : Keep S w w1 := ⟨h.os, h.tape, h.output, h.size, fun i hi _ => h.block i hi⟩
theorem toBelow (h : Keep S w w1) (hs : ∀ i, i < w.heap.size → ¬ S i) : Below w.heap.size w w1 := ⟨h.os, h.tape, h.output, h.size, fun i hi => h.block i hi (hs i hi)⟩
theorem ofGrown {r : Option Nat} (h : w.grownBy w1 r) : Keep (fun k => some k = r) w w1 := ⟨h.os, h.tape, h.output, h.size, fun i hi hn => h.block i hi hn⟩
theorem alloc (h : Keep S w w1) (o : Obj) : Keep S w (w1.alloc o) :=
  h.trans (S' := fun _ => False) ⟨rfl, rfl, rfl, by simp, fun k hk _ => Below.heap_alloc _ _ _ hk⟩ (fun _ _ f => f.elim)
theorem drew (h : Keep S w w1) : Keep S w w1.drew := ⟨h.os, h.tape, h.output, h.size, h.block⟩
theorem setCell (h : Keep S w w1) {p : Addr} (hp : p.block < w.heap.size → S p.block) (u : Value) : Keep S w (w1.setCell p u) :=
  h.trans (S' := fun k => k = p.block) ⟨rfl, rfl, rfl, by simp [World.setCell], fun k _ hk => Below.heap_setCell _ _ _ _ hk⟩ (fun i hi e => by subst e; exact hp hi)
theorem cell (h : Keep S w w1) {p : Addr} (hp : p.block < w.heap.size) (hn : ¬ S p.block) : w1.cell? p = w.cell? p := World.cell?_of_block (w := w) (h.block p.block hp hn)
theorem frozen (h : Keep S w w1) {p : Addr} (hp : p.block < w.heap.size) (hn : ¬ S p.block) : w1.frozen? p = w.frozen? p := World.frozen?_of_block (w := w) (h.block p.block hp hn)
theorem cells (h : Keep S w w1) : ∀ b o, b < w.heap.size → ¬ S b → w1.cell? ⟨b, o, none⟩ = w.cell? ⟨b, o, none⟩ := fun b o hb hn => h.cell (p := ⟨b, o, none⟩) hb hn
theorem frozens (h : Keep S w w1) : ∀ b o, b < w.heap.size → ¬ S b → w1.frozen? ⟨b, o, none⟩ = w.frozen? ⟨b, o, none⟩ := fun b o hb hn => h.frozen (p := ⟨b, o, none⟩) hb hn
end Keep

theorem bcell {W w1 : World} (hb : Below W.heap.size W w1) : (∀ b o, b < W.heap.size → w1.cell? ⟨b, o, none⟩ = W.cell? ⟨b, o, none⟩) ∧ (∀ b o, b < W.heap.size → w1.frozen? ⟨b, o, none⟩ = W.frozen? ⟨b, o, none⟩) :=
  ⟨fun b o h => hb.cell (p := ⟨b, o, none⟩) h, fun b o h => hb.frozen (p := ⟨b, o, none⟩) h⟩

theorem lt_of_cell {w : World} {b o : Nat} {v : Value} (h : w.cell? ⟨b, o, none⟩ = some v) : b < w.heap.size := World.block_lt_of_cell? w ⟨b, o, none⟩ h

theorem ret_int {k : IntKind} {a b : Int} (h : a = b) : Ending.returned (.int k a) = .returned (.int k b) := by rw [h]
theorem ret_val {a b : Value} (h : a = b) : Ending.returned a = .returned b := by rw [h]

/-- A slice value that reads as the cells xs: n elements of sz cells each. -/
def Rd (w : World) (sz n : Nat) (v : Value) (xs : List Value) : Prop :=
  xs.length = n * sz ∧ n ≤ maxLen ∧ ((v = .slice none 0 0 ∧ n = 0) ∨ ∃ b off cap, v = .slice (some ⟨b, off, none⟩) n cap ∧ n ≤ cap ∧ cap ≤ maxLen ∧ ∀ j, j < n * sz → w.cell? ⟨b, off + j, none⟩ = xs[j]?)

theorem Rd.keep {w w' : World} {sz n : Nat} {v : Value} {xs : List Value} (h : Rd w sz n v xs) (hk : ∀ b, v.ownBlock = some b → b < w.heap.size → w'.heap[b]? = w.heap[b]?) : Rd w' sz n v xs := by
  obtain ⟨hl, hm, hv⟩ := h
  refine ⟨hl, hm, hv.imp id ?_⟩
  rintro ⟨b, off, cap, rfl, hle, hcm, hc⟩
  refine ⟨b, off, cap, rfl, hle, hcm, fun j hj => ?_⟩
  have hx : j < xs.length := by omega
  have h1 := hc j hj
  rw [List.getElem?_eq_getElem hx] at h1
  rw [List.getElem?_eq_getElem hx, ← h1]
  exact World.cell?_of_block (a := ⟨b, off + j, none⟩) (hk b rfl (lt_of_cell h1))

theorem Rd.below {w w' : World} {sz n : Nat} {v : Value} {xs : List Value} (h : Rd w sz n v xs) (hb : Below w.heap.size w w') : Rd w' sz n v xs := h.keep fun b _ hl => hb.block b hl

theorem Rd.kept {S : Nat → Prop} {w w' : World} {sz n : Nat} {v : Value} {xs : List Value} (h : Rd w sz n v xs) (hb : Keep S w w') (hs : ∀ b, v.ownBlock = some b → b < w.heap.size → ¬ S b) : Rd w' sz n v xs :=
  h.keep fun b hv hl => hb.block b hl (hs b hv hl)

theorem Rd.ofOwn {w : World} {base : Nat} {e : TypeId} {sz n : Nat} {v : Value} {xs : List Value} (h : w.ownsRow base e sz v n xs) : Rd w sz n v xs := by
  obtain ⟨hl, hv⟩ := h
  rcases hv with ⟨rfl, rfl⟩ | ⟨g, cap, cur, rfl, hb, hg, hnc, hcm, hcs, ht⟩
  · exact ⟨hl, by unfold maxLen; omega, .inl ⟨rfl, rfl⟩⟩
  · refine ⟨hl, by omega, .inr ⟨g, 0, cap, rfl, hnc, hcm, fun j hj => ?_⟩⟩
    rw [Nat.zero_add, cell_of_row w g j cur e (0, 0) hg, ← ht, List.getElem?_take, if_pos hj]
    simp

/-- What is owned stays owned where the own block is kept. -/
theorem ownsRow_keep {w w' : World} {base : Nat} {e : TypeId} {sz n : Nat} {v : Value} {xs : List Value} (h : w.ownsRow base e sz v n xs) (hk : ∀ b, v.ownBlock = some b → b < w.heap.size → w'.heap[b]? = w.heap[b]?) : w'.ownsRow base e sz v n xs := by
  obtain ⟨h1, h2⟩ := h
  refine ⟨h1, h2.imp id ?_⟩
  rintro ⟨g, cap, cur, rfl, hb, hg, r⟩
  exact ⟨g, cap, cur, rfl, hb, by rw [hk g rfl (Array.getElem?_eq_some_iff.1 hg).1]; exact hg, r⟩

theorem ownsRow_mono {w : World} {base base' : Nat} {e : TypeId} {sz n : Nat} {v : Value} {xs : List Value} (h : w.ownsRow base e sz v n xs) (hb : base' ≤ base) : w.ownsRow base' e sz v n xs := by
  obtain ⟨h1, h2⟩ := h
  refine ⟨h1, h2.imp id ?_⟩
  rintro ⟨g, cap, cur, rfl, hg, r⟩
  exact ⟨g, cap, cur, rfl, by omega, r⟩

theorem grown_trans {w w1 w2 : World} {r r' : Option Nat} (h : w.grownBy w1 r) (k : w1.grownBy w2 r') (hr : ∀ i, r' = some i → i < w.heap.size → r = some i) : w.grownBy w2 r :=
  ⟨k.os.trans h.os, k.tape.trans h.tape, k.output.trans h.output, Nat.le_trans h.size k.size, fun i hi hn =>
    (k.block i (Nat.lt_of_lt_of_le hi h.size) (fun q => hn (hr i q.symm hi).symm)).trans (h.block i hi hn)⟩

theorem grown_below {w w1 : World} {r : Option Nat} (h : w.grownBy w1 r) (hr : ∀ i, r = some i → w.heap.size ≤ i) : Below w.heap.size w w1 :=
  ⟨h.os, h.tape, h.output, h.size, fun i hi => h.block i hi (fun e => by have := hr i e.symm; omega)⟩

theorem below_grown {w w1 : World} (r : Option Nat) (h : Below w.heap.size w w1) : w.grownBy w1 r := ⟨h.os, h.tape, h.output, h.size, fun i hi _ => h.block i hi⟩

/-- A byte's cell. -/
def bv (x : UInt8) : Value := .int .u8 (x.toNat : Int)
/-- The byte that a whole number is cut to. -/
def byteOf (n : Int) : UInt8 := UInt8.ofNat (n % 256).toNat

theorem byteOf_wrap (n : Int) : IntKind.u8.wrap n = ((byteOf n).toNat : Int) := by
  rw [IntKind.wrap_u8]
  unfold byteOf
  rw [UInt8.toNat_ofNat']
  omega

theorem bv_one (l : List UInt8) : ∀ u ∈ l.map bv, u.oneCell' = true := by
  intro u hu
  obtain ⟨x, _, rfl⟩ := List.mem_map.1 hu
  rfl

theorem bv_cut (n : Int) : Value.int .u8 (IntKind.u8.wrap n) = bv (byteOf n) := by rw [byteOf_wrap]; rfl

/-- The cells of a new row, as the laws on append ask for them. -/
theorem cells_new {w : World} {g : Nat} {l : List Value} {e : TypeId} (hg : w.heap[g]? = some (.cells l.toArray e (0, 0))) : ∀ j u, l[j]? = some u → w.cell? ((⟨g, 0, none⟩ : Addr).add j) = some u := by
  intro j u hu
  rw [Addr.add_lit, Nat.zero_add, cell_of_row w g j _ e (0, 0) hg]
  simpa using hu

/-- The slice value v, of n elements of type e, owns its row: nil, or a row from its head, not frozen, of at least its capacity; it reads as xs. -/
def Own (w : World) (e : TypeId) (sz n : Nat) (v : Value) (xs : List Value) : Prop :=
  xs.length = n * sz ∧ ((v = .slice none 0 0 ∧ n = 0) ∨ ∃ g cap cur, v = .slice (some ⟨g, 0, none⟩) n cap ∧ w.heap[g]? = some (.cells cur e (0, 0)) ∧ n ≤ cap ∧ cap ≤ maxLen ∧ cap * sz ≤ cur.size ∧ cur.toList.take (n * sz) = xs)

theorem Own.ofRow {w : World} {base : Nat} {e : TypeId} {sz n : Nat} {v : Value} {xs : List Value} (h : w.ownsRow base e sz v n xs) : Own w e sz n v xs := by
  obtain ⟨h1, h2⟩ := h
  refine ⟨h1, h2.imp id ?_⟩
  rintro ⟨g, cap, cur, rfl, _, hg, hnc, hcm, hcs, ht⟩
  exact ⟨g, cap, cur, rfl, hg, hnc, hcm, by omega, ht⟩
theorem Own.nil (w : World) (e : TypeId) (sz : Nat) : Own w e sz 0 (.slice none 0 0) [] := ⟨by simp, .inl ⟨rfl, rfl⟩⟩
theorem Own.rd {w : World} {e : TypeId} {sz n : Nat} {v : Value} {xs : List Value} (h : Own w e sz n v xs) : Rd w sz n v xs := by
  obtain ⟨hl, hv⟩ := h
  rcases hv with ⟨rfl, rfl⟩ | ⟨g, cap, cur, rfl, hg, hnc, hcm, hcs, ht⟩
  · exact ⟨hl, by unfold maxLen; omega, .inl ⟨rfl, rfl⟩⟩
  · refine ⟨hl, by omega, .inr ⟨g, 0, cap, rfl, hnc, hcm, fun j hj => ?_⟩⟩
    rw [Nat.zero_add, cell_of_row w g j cur e (0, 0) hg, ← ht, List.getElem?_take, if_pos hj]
    simp
theorem Own.keep {w w' : World} {e : TypeId} {sz n : Nat} {v : Value} {xs : List Value} (h : Own w e sz n v xs) (hk : ∀ b, v.ownBlock = some b → b < w.heap.size → w'.heap[b]? = w.heap[b]?) : Own w' e sz n v xs := by
  obtain ⟨h1, h2⟩ := h
  refine ⟨h1, h2.imp id ?_⟩
  rintro ⟨g, cap, cur, rfl, hg, r⟩
  exact ⟨g, cap, cur, rfl, by rw [hk g rfl (Array.getElem?_eq_some_iff.1 hg).1]; exact hg, r⟩
theorem Own.kept {S : Nat → Prop} {w w' : World} {e : TypeId} {sz n : Nat} {v : Value} {xs : List Value} (h : Own w e sz n v xs) (hb : Keep S w w') (hs : ∀ b, v.ownBlock = some b → b < w.heap.size → ¬ S b) : Own w' e sz n v xs :=
  h.keep fun b hv hl => hb.block b hl (hs b hv hl)
theorem Own.below {w w' : World} {e : TypeId} {sz n : Nat} {v : Value} {xs : List Value} (h : Own w e sz n v xs) (hb : Below w.heap.size w w') : Own w' e sz n v xs := h.keep fun b _ hl => hb.block b hl
theorem Own.alloc {w : World} {e : TypeId} {sz n : Nat} {v : Value} {xs : List Value} (h : Own w e sz n v xs) (o : Obj) : Own (w.alloc o) e sz n v xs := h.keep fun _ _ hb => Below.heap_alloc _ _ _ hb
theorem Own.len {w : World} {e : TypeId} {sz n : Nat} {v : Value} {xs : List Value} (h : Own w e sz n v xs) : xs.length = n * sz := h.1
theorem Own.lt {w : World} {e : TypeId} {sz n : Nat} {v : Value} {xs : List Value} (h : Own w e sz n v xs) : ∀ k, v.ownBlock = some k → k < w.heap.size := by
  intro k hk
  rcases h.2 with ⟨rfl, _⟩ | ⟨g, cap, cur, rfl, hg, _⟩
  · simp [Value.ownBlock] at hk
  · simp [Value.ownBlock] at hk
    subst hk
    exact (Array.getElem?_eq_some_iff.1 hg).1
theorem Own.cells {w : World} {e : TypeId} {sz n : Nat} {v : Value} {xs : List Value} (h : Own w e sz n v xs) {g : Nat} (hg : v.ownBlock = some g) : ∀ j u, xs[j]? = some u → w.cell? ((⟨g, 0, none⟩ : Addr).add j) = some u := by
  intro j u hu
  rcases h.2 with ⟨rfl, _⟩ | ⟨g', cap, cur, rfl, hgg, _, _, _, ht⟩
  · simp [Value.ownBlock] at hg
  · simp [Value.ownBlock] at hg
    subst hg
    rw [Addr.add_lit, Nat.zero_add, cell_of_row w g' j cur e (0, 0) hgg]
    rw [← ht, List.getElem?_take] at hu
    split at hu
    · simpa using hu
    · cases hu
theorem Own.shape {w : World} {e : TypeId} {sz n : Nat} {v : Value} {xs : List Value} (h : Own w e sz n v xs) :
    (v = .slice none 0 0 ∧ n = 0 ∧ xs = []) ∨ ∃ g cap, v = .slice (some ⟨g, 0, none⟩) n cap ∧ n ≤ cap ∧ cap ≤ maxLen ∧ g < w.heap.size ∧ ∀ j, j < n * sz → w.cell? ⟨g, j, none⟩ = xs[j]? ∧ w.frozen? ⟨g, j, none⟩ = false := by
  rcases h.2 with ⟨rfl, rfl⟩ | ⟨g, cap, cur, rfl, hg, hnc, hcm, hcs, ht⟩
  · exact .inl ⟨rfl, rfl, List.eq_nil_of_length_eq_zero (by simpa using h.1)⟩
  · refine .inr ⟨g, cap, rfl, hnc, hcm, (Array.getElem?_eq_some_iff.1 hg).1, fun j hj => ⟨?_, ?_⟩⟩
    · rw [cell_of_row w g j cur e (0, 0) hg, ← ht, List.getElem?_take, if_pos hj]
      simp
    · simp [World.frozen?, hg]
/-- The first m elements, and no room behind them. -/
theorem Own.cut {w : World} {e : TypeId} {sz n g cap : Nat} {xs : List Value} (h : Own w e sz n (.slice (some ⟨g, 0, none⟩) n cap) xs) (m : Nat) (hm : m ≤ n) : Own w e sz m (.slice (some ⟨g, 0, none⟩) m m) (xs.take (m * sz)) := by
  obtain ⟨h1, h2⟩ := h
  have hms : m * sz ≤ n * sz := Nat.mul_le_mul_right _ hm
  refine ⟨by rw [List.length_take]; omega, ?_⟩
  rcases h2 with ⟨hv, _⟩ | ⟨g', cap', cur, hv, hg, hnc, hcm, hcs, ht⟩
  · cases hv
  · cases hv
    have : n * sz ≤ cap * sz := Nat.mul_le_mul_right _ hnc
    exact .inr ⟨g, m, cur, rfl, hg, Nat.le_refl _, by omega, by omega, by rw [← ht, List.take_take, Nat.min_eq_left hms]⟩

/-- A store into an owned row. -/
theorem Own.store {w : World} {e : TypeId} {sz n : Nat} {g cap : Nat} {xs : List Value} (h : Own w e sz n (.slice (some ⟨g, 0, none⟩) n cap) xs) (j : Nat) (u : Value) :
    Own (w.setCell ⟨g, j, none⟩ u) e sz n (.slice (some ⟨g, 0, none⟩) n cap) (xs.set j u) := by
  obtain ⟨h1, h2⟩ := h
  refine ⟨by simpa using h1, ?_⟩
  rcases h2 with ⟨hv, _⟩ | ⟨g', cap', cur, hv, hg, hnc, hcm, hcs, ht⟩
  · cases hv
  · cases hv
    refine .inr ⟨g, cap, cur.setIfInBounds j u, rfl, ?_, hnc, hcm, by simpa using hcs, ?_⟩
    · simp only [World.setCell, Array.getElem?_modify, if_true, hg, Option.map_some]
      simp
    · rw [← ht, Array.toList_setIfInBounds, List.take_set]

/-- A row that has just been laid. -/
theorem own_new {w : World} (l : List Value) {e : TypeId} {sz n : Nat} (hl : l.length = n * sz) (hn : n ≤ maxLen) : Own (w.alloc (.cells l.toArray e)) e sz n (.slice (some ⟨w.heap.size, 0, none⟩) n n) l :=
  ⟨hl, .inr ⟨w.heap.size, n, l.toArray, rfl, heap_alloc_new w _, Nat.le_refl _, hn, by simp; omega, by simp [← hl]⟩⟩

theorem Below.alloc1 (w : World) (o : Obj) : Below w.heap.size w (w.alloc o) := (Below.refl _ _).alloc (Nat.le_refl _) o

/-- What an append leaves: only the old row and new blocks are written; the new value's row is the old one, or new. -/
structure Grew (w w' : World) (v v' : Value) : Prop where
  grown : w.grownBy w' v.ownBlock
  own : v'.ownBlock = v.ownBlock ∨ ∃ g, v'.ownBlock = some g ∧ w.heap.size ≤ g

theorem Grew.refl (w : World) (v : Value) : Grew w w v v := ⟨World.grownBy.refl _ _, .inl rfl⟩
theorem Grew.trans {w w1 w2 : World} {v v1 v2 : Value} (h : Grew w w1 v v1) (k : Grew w1 w2 v1 v2) : Grew w w2 v v2 := by
  refine ⟨grown_trans h.grown k.grown ?_, ?_⟩
  · intro i hi hl
    rcases h.own with e | ⟨g, e, hg⟩
    · rw [← e]; exact hi
    · rw [e] at hi; cases hi; omega
  · rcases k.own with e | ⟨g, e, hg⟩
    · rw [e]; exact h.own
    · exact .inr ⟨g, e, Nat.le_trans h.grown.size hg⟩
theorem Grew.alloc {w w1 : World} {v v1 : Value} (h : Grew w w1 v v1) (o : Obj) : Grew w (w1.alloc o) v v1 :=
  ⟨grown_trans h.grown (World.grownBy_alloc w1 o none) (fun _ q => by cases q), h.own⟩
theorem Grew.ofAlloc {w w2 : World} {v v1 : Value} {o : Obj} (h : Grew (w.alloc o) w2 v v1) : Grew w w2 v v1 :=
  ⟨grown_trans (World.grownBy_alloc w o _) h.grown (fun _ q _ => q), h.own.imp id fun ⟨g, e, hg⟩ => ⟨g, e, by simp at hg; omega⟩⟩
theorem Grew.below {w w1 w2 : World} {v v1 : Value} (h : Grew w1 w2 v v1) (hb : Below w.heap.size w w1) (hv : ∀ k, v.ownBlock = some k → w.heap.size ≤ k) : Below w.heap.size w w2 :=
  hb.grown h.grown hb.size hv
theorem Grew.keep {S : Nat → Prop} {w w1 w2 : World} {v v1 : Value} (h : Grew w1 w2 v v1) (hb : Keep S w w1) (hv : ∀ k, v.ownBlock = some k → k < w.heap.size → S k) : Keep S w w2 :=
  hb.trans (Keep.ofGrown h.grown) (fun i hi e => hv i e.symm hi)
/-- The new row stands apart from what was apart from the old one. -/
theorem Grew.apart {w w' : World} {v v' : Value} (h : Grew w w' v v') {b : Nat} (hb : b < w.heap.size) (hv : v.ownBlock ≠ some b) : v'.ownBlock ≠ some b := by
  rcases h.own with e | ⟨g, e, hg⟩
  · rw [e]; exact hv
  · rw [e]; intro q; cases q; omega
theorem Grew.from {w w' : World} {v v' : Value} (h : Grew w w' v v') {B : Nat} (hB : B ≤ w.heap.size) (hv : ∀ k, v.ownBlock = some k → B ≤ k) : ∀ k, v'.ownBlock = some k → B ≤ k := by
  intro k hk
  rcases h.own with e | ⟨g, e, hg⟩
  · exact hv k (e ▸ hk)
  · rw [e] at hk; cases hk; omega

theorem src_rd {P : Program} {w : World} {sz n : Nat} {tx e' : TypeId} {x : Value} {news : List Value} (hk : P.underlying tx = some (.slice e')) (h : Rd w sz n x news) (h1 : ∀ u ∈ news, u.oneCell' = true) : Src P sz tx x n news w := by
  obtain ⟨hl, hm, hv⟩ := h
  rcases hv with ⟨rfl, rfl⟩ | ⟨b, off, cap, rfl, hle, hcm, hc⟩
  · obtain rfl : news = [] := List.eq_nil_of_length_eq_zero (by simpa using hl)
    exact Src.ofNil w hk 0
  · refine Src.ofSlice w hk _ _ _ _ hl (fun j u hu => ?_) h1
    rw [Addr.add_lit]
    rw [← hu]
    have hj := (List.getElem?_eq_some_iff.1 hu).1
    exact hc j (by omega)

/-- One new cell, as what is appended. -/
theorem src_one {P : Program} {w : World} {tx e' e : TypeId} {u : Value} (hk : P.underlying tx = some (.slice e')) (h1 : u.oneCell' = true) : Src P 1 tx (.slice (some ⟨w.heap.size, 0, none⟩) 1 1) 1 [u] (w.alloc (.cells #[u] e)) :=
  src_rd hk (own_new [u] (sz := 1) (n := 1) rfl (by unfold maxLen; omega)).rd (by simpa using h1)

/-- Two new cells. -/
theorem src_two {P : Program} {w : World} {tx e' e : TypeId} {u v : Value} (hk : P.underlying tx = some (.slice e')) (h1 : u.oneCell' = true) (h2 : v.oneCell' = true) : Src P 1 tx (.slice (some ⟨w.heap.size, 0, none⟩) 2 2) 2 [u, v] (w.alloc (.cells #[u, v] e)) :=
  src_rd hk (own_new [u, v] (sz := 1) (n := 2) rfl (by unfold maxLen; omega)).rd (by simpa using ⟨h1, h2⟩)

theorem src_oneAt {P : Program} {w : World} {h : Nat} {tx e' e : TypeId} {u : Value} (hh : h = w.heap.size) (hk : P.underlying tx = some (.slice e')) (h1 : u.oneCell' = true) : Src P 1 tx (.slice (some ⟨h, 0, none⟩) 1 1) 1 [u] (w.alloc (.cells #[u] e)) := by
  subst hh; exact src_one hk h1
theorem src_twoAt {P : Program} {w : World} {h : Nat} {tx e' e : TypeId} {u v : Value} (hh : h = w.heap.size) (hk : P.underlying tx = some (.slice e')) (h1 : u.oneCell' = true) (h2 : v.oneCell' = true) : Src P 1 tx (.slice (some ⟨h, 0, none⟩) 2 2) 2 [u, v] (w.alloc (.cells #[u, v] e)) := by
  subst hh; exact src_two hk h1 h2

section
variable {P : Program}

/-- append, to a slice that owns its row, of whatever source. -/
theorem run_app (w : World) (t tx ty e : TypeId) (i : TypeInfo) (z : Value) (sz bytes : Nat) (ht : P.underlying t = some (.slice e)) (hi : P.info? e = some i) (hz : i.zero = some z)
    (hsize : i.size = sz) (hby : i.bytes = bytes) (hzs : z.cells.size = sz) (v : Value) (n : Nat) (xs : List Value) (hown : Own w e sz n v xs)
    (x : Value) (m : Nat) (news : List Value) (hs : Src P sz tx x m news w) (h63 : n + m ≤ maxLen) (hbytes : (n + m) * bytes ≤ 140737488355328) :
    ∃ v' w', (Builtin.append_ #[t, tx] ty #[v, x]).run P w = .ok v' w' ∧ Own w' e sz (n + m) v' (xs ++ news) ∧ Grew w w' v v' := by
  subst hsize
  subst hby
  have hnl := hs.newsLen
  have hlen : (xs ++ news).length = (n + m) * i.size := by rw [List.length_append, hown.1, hnl, Nat.add_mul]
  have hsmall : n + m ≤ 9223372036854775807 := by simp only [maxLen] at h63; omega
  have grow : ∀ (base : Option Addr) (sc : Nat), v = .slice base n sc → sc < n + m → (Builtin.firstCells i.size n (.slice base n sc)).run P w.drew = .ok xs.toArray w.drew →
      ∃ v' w', (Builtin.append_ #[t, tx] ty #[v, x]).run P w = .ok v' w' ∧ Own w' e i.size (n + m) v' (xs ++ news) ∧ Grew w w' v v' := by
    rintro base sc rfl hg hold
    have hrun := run_append_grow_src (P := P) w t tx ty e i z ht hi hz base n sc xs hold x m news hs hg (by omega) (growslice_fits hg hbytes)
    have hge := grownCap_ge w (n + m) sc e
    have hcm := grownCap_le_maxLen w (n + m) sc e h63
    refine ⟨_, _, hrun, ⟨hlen, .inr ⟨w.heap.size, _, _, rfl, heap_alloc_new w.drew _, hge, hcm, Nat.le_of_eq ?_, ?_⟩⟩, ⟨⟨rfl, rfl, rfl, by simp, fun k hk _ => Below.heap_alloc w.drew _ k hk⟩, .inr ⟨w.heap.size, rfl, Nat.le_refl _⟩⟩⟩
    · simp only [Array.size_append, List.size_toArray, size_zeroCells, hzs, hlen, ← Nat.add_mul]
      congr 1
      omega
    · simp only [Array.toList_append]
      rw [← hlen]
      exact List.take_left
  rcases hown.2 with ⟨rfl, rfl⟩ | ⟨g, cap, cur, rfl, hg, hnc, hcm, hcs, htake⟩
  · have hx : xs = [] := List.eq_nil_of_length_eq_zero (by simpa using hown.1)
    subst hx
    by_cases hm : m = 0
    · subst hm
      have hn : news = [] := List.eq_nil_of_length_eq_zero (by simpa using hnl)
      subst hn
      exact ⟨_, _, run_append_nothing w t tx ty e i ht hi none 0 0 (Nat.le_refl _) x hs, Own.nil w e i.size, Grew.refl _ _⟩
    · exact grow none 0 rfl (by omega) (run_firstCells_none w.drew i.size 0 0 0)
  · have hcell : ∀ j u, xs[j]? = some u → w.cell? ((⟨g, 0, none⟩ : Addr).add j) = some u := fun j u hu => hown.cells rfl j u hu
    by_cases hroom : n + m ≤ cap
    · have hfit : n * i.size + news.length ≤ cur.size := by rw [hnl, ← Nat.add_mul]; exact Nat.le_trans (Nat.mul_le_mul_right _ hroom) hcs
      have hr := run_append_room_src (P := P) w t tx ty e i ht hi g 0 n cap x m news hs hroom
        (fun j hj => by rw [cell_of_row w g _ cur e (0, 0) hg]; simp; omega)
        (fun j _ => by simp [World.frozen?, hg])
      have hst := run_storeCells_at P g (n * i.size) e news 0 cur w hg (by simpa using hfit) hs.one
      have hst2 := run_storeCells_cells (P := P) g (n * i.size) news 0 w
        (fun j hj => by rw [cell_of_row w g _ cur e (0, 0) hg]; simp; omega) (fun j _ => by simp [World.frozen?, hg]) hs.one
      rw [hst] at hst2
      simp only [Nat.zero_add, Nat.add_zero] at hst2 hr
      injection hst2 with _ hst2
      rw [← hst2] at hr
      refine ⟨_, _, hr, ⟨hlen, .inr ⟨g, cap, _, rfl, setRow_heap w g cur _ e _ hg, hroom, hcm, ?_, ?_⟩⟩, ⟨⟨rfl, rfl, rfl, by simp, fun k _ hk => setRow_other w g k _ (fun e => hk (by simp [Value.ownBlock, e]))⟩, .inl rfl⟩⟩
      · simp only [List.size_toArray, List.length_append, List.length_take, List.length_drop, Array.length_toList]
        omega
      · rw [List.append_assoc, ← List.append_assoc, htake, ← hlen, List.take_left]
    · exact grow (some ⟨g, 0, none⟩) cap rfl (by omega) (run_firstCells_some (P := P) w.drew i.size n ⟨g, 0, none⟩ n cap xs hown.1 (by simpa using hcell))

theorem wpList_app (w : World) {ops : Array Oper} {rest : List Oper} {o : Oper} {a : Act} {Q : Exit → Act → World → Prop}
    (hg : o.guard = none) (s x : Operand) (t tx e : TypeId) (hop : o.op = Op.call { callee := Callee.builtin Builtin.append, args := #[s, x], argTypes := #[t, tx] })
    (z : Value) (sz bytes : Nat) (ht : P.underlying t = some (.slice e)) (hi : (P.info? e).map (fun i => (i.zero, i.size, i.bytes)) = some (some z, sz, bytes)) (hzs : z.cells.size = sz)
    (v : Value) (hv : a.eval s = v) (n : Nat) (xs : List Value) (hown : Own w e sz n v xs) (xv : Value) (hx : a.eval x = xv) (m : Nat) (news : List Value) (hs : Src P sz tx xv m news w)
    (h63 : n + m ≤ maxLen) (hbytes : (n + m) * bytes ≤ 140737488355328)
    (hK : ∀ v' w', Own w' e sz (n + m) v' (xs ++ news) → Grew w w' v v' → wpList P ops Q rest (a.put o.dst v') w') : wpList P ops Q (o :: rest) a w := by
  refine wpList_plain hg fun K hK' => ?_
  obtain ⟨i, hi1, hi2, hi3, hi4⟩ := info_parts hi
  obtain ⟨v', w', hrun, r1, r2⟩ := run_app (P := P) w t tx o.type e i z sz bytes ht hi1 hi2 hi3 hi4 hzs v n xs hown xv m news hs h63 hbytes
  unfold Oper.wp
  simp [execOp, hop, resolve, invoke, builtin, hv, hx, hrun, Result.andThen]
  exact hK' _ _ (hK _ _ r1 r2)
end

/-- The text of bytes. -/
def str (l : List UInt8) : ByteArray := ⟨l.toArray⟩

theorem str_list (l : List UInt8) : (str l).toList = l := by rw [ByteArray.toList_eq]; rfl
theorem str_inj {a b : List UInt8} (h : str a = str b) : a = b := by have := congrArg (fun s : ByteArray => s.data.toList) h; simpa [str] using this
theorem str_size (l : List UInt8) : (str l).size = l.length := rfl
theorem str_of (s : ByteArray) : str s.data.toList = s := rfl

/-- Bytes made a text. -/
theorem run_str {P : Program} (w : World) (src dst e : TypeId) (hs : P.underlying src = some (.slice e)) (he : P.underlying e = some (.int .u8)) (hd : P.underlying dst = some .string) (v : Value) (l : List UInt8) (hv : Rd w 1 l.length v (l.map bv)) :
    (convert src dst v).run P w = .ok (.string (str l)) w := by
  obtain ⟨_, _, hv⟩ := hv
  rcases hv with ⟨rfl, h0⟩ | ⟨b, off, cap, rfl, hle, hcm, hc⟩
  · obtain rfl : l = [] := List.eq_nil_of_length_eq_zero h0
    exact run_convert_bytes_nil w src e hs he 0 0 dst hd
  · have := run_convert_bytes_arg (P := P) w src e hs he b off l.length cap (l.map fun x => (x.toNat : Int)) (by simp) (fun i hi => by
      rw [hc i (by omega), List.getElem?_map, List.getElem?_eq_getElem hi]
      simp [bv, List.getD, List.getElem?_eq_getElem hi]) dst hd
    rw [this]
    have e2 : strOfNums (l.map fun x => (x.toNat : Int)) = str l := by
      have e3 : ((fun n : Int => UInt8.ofNat n.toNat) ∘ fun x : UInt8 => (x.toNat : Int)) = id := by funext x; simp
      unfold strOfNums str
      rw [List.map_map, e3, List.map_id]
    rw [e2]

/-- The first n elements of a slice. -/
theorem Rd.take {w : World} {sz n : Nat} {v : Value} {xs : List Value} (h : Rd w sz n v xs) {b off cap : Nat} (hv : v = .slice (some ⟨b, off, none⟩) n cap) (m : Nat) (hm : m ≤ n) : Rd w sz m (.slice (some ⟨b, off, none⟩) m cap) (xs.take (m * sz)) := by
  obtain ⟨hl, hn, hc⟩ := h
  have hms : m * sz ≤ n * sz := Nat.mul_le_mul_right _ hm
  refine ⟨by rw [List.length_take]; omega, by omega, ?_⟩
  rcases hc with ⟨rfl, rfl⟩ | ⟨b', off', cap', hv', hle, hcm, hc⟩
  · cases hv
  · rw [hv] at hv'; cases hv'
    refine .inr ⟨b, off, cap, rfl, by omega, hcm, fun j hj => ?_⟩
    rw [hc j (by omega), List.getElem?_take, if_pos hj]
end Go.Proofs.Ytdclgmffgidcmaa
