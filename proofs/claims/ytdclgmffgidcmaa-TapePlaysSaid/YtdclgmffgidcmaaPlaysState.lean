/- TapePlays: what its round holds. -/
import Derived.Test.YtdclgmffgidcmaaArgs
import Derived.Test.YtdclgmffgidcmaaTellsWalk
namespace Go.Proofs.Ytdclgmffgidcmaa
set_option linter.unusedSimpArgs false
set_option linter.unusedVariables false
open Go.RowKit

section
open Go.ChangeShapes Go.WideShapes Go.ChangeAt Go.Deep
theorem choose_list {α : Type} {p : Nat → α → Prop} [Inhabited α] : ∀ (n : Nat), (∀ i, i < n → ∃ x, p i x) → ∃ l : List α, l.length = n ∧ ∀ i (hi : i < l.length), p i l[i]
  | 0, _ => ⟨[], rfl, fun i hi => by simp at hi⟩
  | n + 1, h => by
    obtain ⟨l, hl, hp⟩ := choose_list n (fun i hi => h i (by omega))
    obtain ⟨x, hx⟩ := h n (by omega)
    refine ⟨l ++ [x], by simp [hl], fun i hi => ?_⟩
    by_cases hin : i < l.length
    · rw [List.getElem_append_left hin]; exact hp i hin
    · simp at hi
      have : i = l.length := by omega
      subst this
      simp
      rw [hl]; exact hx

structure OpL where
  kind : Int
  n : Int
  notes : List Nt
instance : Inhabited OpL := ⟨⟨0, 0, []⟩⟩

/-- An operation at an address. -/
def OpAt (w : World) (b o : Nat) (x : OpL) : Prop :=
  w.cell? ⟨b, o, none⟩ = some (.int .i64 x.kind) ∧ w.cell? ⟨b, o + 1, none⟩ = some (.int .i64 x.n) ∧ ∃ u, w.cell? ⟨b, o + 2, none⟩ = some u ∧ Ns w u x.notes

/-- The slice value v reads as operations. -/
def NsO (w : World) (v : Value) (os : List OpL) : Prop :=
  os.length ≤ maxLen ∧ ((os = [] ∧ ∃ p c, v = .slice p 0 c ∧ c ≤ maxLen) ∨
    ∃ b off cap, v = .slice (some ⟨b, off, none⟩) os.length cap ∧ os.length ≤ cap ∧ cap ≤ maxLen ∧ ∀ j (hj : j < os.length), OpAt w b (off + j * 3) os[j])

theorem NsO.slice {w : World} {v : Value} {ls : List OpL} (h : NsO w v ls) : ∃ p c, v = .slice p ls.length c ∧ ls.length ≤ c ∧ c ≤ maxLen := by
  obtain ⟨hm, hv⟩ := h
  rcases hv with ⟨rfl, p, c, rfl, hc⟩ | ⟨b, off, cap, rfl, h1, h2, h3⟩
  · exact ⟨p, c, rfl, Nat.zero_le _, hc⟩
  · exact ⟨_, cap, rfl, h1, h2⟩
theorem NsO.cells {w : World} {p : Option Addr} {n c : Nat} {ls : List OpL} (h : NsO w (.slice p n c) ls) (hpos : 0 < ls.length) : ∃ b o, p = some ⟨b, o, none⟩ ∧ ∀ j (hj : j < ls.length), OpAt w b (o + j * 3) ls[j] := by
  rcases h.2 with ⟨rfl, _⟩ | ⟨b, o, c, hv, _, _, hc⟩
  · simp at hpos
  · cases hv; exact ⟨b, o, rfl, hc⟩

theorem OpAt.below {w w' : World} {b o : Nat} {x : OpL} (h : OpAt w b o x) (hb : Below w.heap.size w w') : OpAt w' b o x := by
  obtain ⟨h1, h2, u, h3, h4⟩ := h
  have hl := lt_of_cell h1
  exact ⟨(World.cell?_of_block (a := ⟨b, o, none⟩) (hb.block _ hl)).trans h1, (World.cell?_of_block (a := ⟨b, o + 1, none⟩) (hb.block _ hl)).trans h2, u, (World.cell?_of_block (a := ⟨b, o + 2, none⟩) (hb.block _ hl)).trans h3, h4.below hb⟩

theorem open_ops {H : Type} {enc : TypeId × Value → H} {w : World} {base b0 : Nat} {spare : Nat → Bool} {held : Bool} {r : Reach} {v : Value} {d : DataW H} {ps : List MemPlace}
    (hval : Value.okWide Try.prog w r b0 40 v) (hd : DataW.Trod enc Try.prog w base spare held 40 v d ps) : ∃ ls, NsO w v ls := by
  obtain ⟨p, n, c, rfl⟩ := okWide_slice Try.underlying40 hval
  obtain ⟨fuel, hf⟩ := hd
  rcases open_slice_fields (P := Try.prog) (e := 45) (fs := Try.prog.fieldsOf 45) Try.underlying40 (by kernel_rfl) (by kernel_rfl) (by kernel_rfl) hf with h1 | ⟨a, len, cap, m, h1, _, hl, hm, hlm, hi⟩
  · simp [Value.cells] at h1
    obtain ⟨rfl, rfl, rfl⟩ := h1
    exact ⟨[], by simp [maxLen], .inl ⟨rfl, none, 0, rfl, by unfold maxLen; omega⟩⟩
  · simp [Value.cells] at h1
    obtain ⟨rfl, rfl, rfl⟩ := h1
    rcases Nat.eq_zero_or_pos n with rfl | hpos
    · exact ⟨[], by simp [maxLen], .inl ⟨rfl, _, _, rfl, hm⟩⟩
    · have hF : Try.prog.fieldsOf 45 = #[⟨"Kind", 3, 0, false, "", "", 0⟩, ⟨"N", 3, 1, false, "", "", 8⟩, ⟨"Notes", 29, 2, false, "", "", 16⟩] := by kernel_rfl
      rw [hF] at hi
      have hsz : (#[⟨"Kind", 3, 0, false, "", "", 0⟩, ⟨"N", 3, 1, false, "", "", 8⟩, ⟨"Notes", 29, 2, false, "", "", 16⟩] : Array Field).size = 3 := rfl
      rw [hsz] at hi
      have hsp : a.spot = none := by
        obtain ⟨v, y, n', hv, hy⟩ := hi 0 (by omega) 0 _ rfl
        have := World.cell?_spot hv; simpa [Addr.add] using this
      obtain ⟨b, off, sp⟩ := a
      dsimp only at hsp
      subst hsp
      obtain ⟨ls, hls, hp⟩ := choose_list (α := OpL) (p := fun i l => OpAt w b (off + i * 3) l) n (fun i hin => by
        obtain ⟨v0, y0, n0, hv0, hy0⟩ := hi i (by omega) 0 _ rfl
        obtain ⟨v1, y1, n1, hv1, hy1⟩ := hi i (by omega) 1 _ rfl
        obtain ⟨v2, y2, n2, hv2, hy2⟩ := hi i (by omega) 2 _ rfl
        obtain ⟨z0, hz0, _⟩ := DataW.trod_int Try.underlying3 hy0
        obtain ⟨z1, hz1, _⟩ := DataW.trod_int Try.underlying3 hy1
        obtain ⟨v, ns, hv, hns⟩ := trod_notes hy2
        cases hz0
        cases hz1
        cases hv
        rw [Addr.add_lit] at hv0 hv1 hv2
        exact ⟨⟨z0, z1, ns⟩, hv0, by rw [show off + i * 3 + 1 = off + (i * 3 + 1) by omega]; exact hv1, v2, by rw [show off + i * 3 + 2 = off + (i * 3 + 2) by omega]; exact hv2, hns⟩)
      exact ⟨ls, by omega, .inr ⟨b, off, c, by rw [hls], by omega, hm, hp⟩⟩
end
theorem TapeB.apart {B b : Nat} {w w' : World} {F S : Nat → Prop} {s : TS} (h : TapeB B w b F s) (k : Keep S w w') (hs : ∀ j, F j → ¬ S j) : TapeB B w' b F s := ⟨h.1.kept k hs, h.2.1, Nat.le_trans h.2.2 k.size⟩
theorem ns_note (w : World) (t : TypeId) (n : Nt) : Ns (w.alloc (.cells #[.int .i64 n.k, .int .i64 n.a, .int .i64 n.b, .int .i64 n.c] t)) (.slice (some ⟨w.heap.size, 0, none⟩) 1 1) [n] :=
  Rd.ns (ns := [n]) ((own_new (w := w) (e := t) (cellsL [n]) (sz := 4) (n := 1) rfl (by unfold maxLen; omega)).rd)

theorem ns_note2 (w : World) (t t' : TypeId) (o : Obj) (n : Nt) : Ns ((w.alloc o).alloc (.cells #[.int .i64 n.k, .int .i64 n.a, .int .i64 n.b, .int .i64 n.c] t)) (.slice (some ⟨w.heap.size + 1, 0, none⟩) 1 1) [n] := by
  have h := ns_note (w.alloc o) t n
  rwa [show (w.alloc o).heap.size = w.heap.size + 1 by simp] at h
theorem below_alloc2 (w : World) (o o' : Obj) : Below w.heap.size w ((w.alloc o).alloc o') := (Below.alloc1 w o).alloc (by simp) o'

/-- What the loop that writes into what was read holds. -/
def BumpRel (w0 : World) (S : Nat → Prop) (g n : Nat) (iv : Value) (wr : World) : Prop :=
  ∃ k : Nat, iv = .int .i64 k ∧ k ≤ n ∧ Keep S w0 wr ∧ ∀ j, j < n → (∃ z : Int, wr.cell? ⟨g, j * 4 + 1, none⟩ = some (.int .i64 z)) ∧ wr.frozen? ⟨g, j * 4 + 1, none⟩ = false
theorem bump_step {w0 wr : World} {S : Nat → Prop} {g n k : Nat} (hS : S g) (hk : k < n) (hK : Keep S w0 wr) (hc : ∀ j, j < n → (∃ z : Int, wr.cell? ⟨g, j * 4 + 1, none⟩ = some (.int .i64 z)) ∧ wr.frozen? ⟨g, j * 4 + 1, none⟩ = false) (x : Int) :
    BumpRel w0 S g n (.int .i64 ((k + 1 : Nat) : Int)) (wr.setCell ⟨g, k * 4 + 1, none⟩ (.int .i64 x)) := by
  refine ⟨k + 1, rfl, hk, hK.setCell (p := ⟨g, k * 4 + 1, none⟩) (fun _ => hS) _, fun j hj => ⟨?_, ?_⟩⟩
  · obtain ⟨⟨z, hz⟩, _⟩ := hc j hj
    obtain ⟨⟨z', hz'⟩, _⟩ := hc k hk
    by_cases h : j = k
    · subst h; exact ⟨x, World.cell?_setCell_same _ _ _ hz⟩
    · exact ⟨z, by rw [World.cell?_setCell_other _ _ _ _ (by intro e; injection e with _ e; omega)]; exact hz⟩
  · rw [World.frozen?_setCell]; exact (hc j hj).2


/-- The reference's tape in its cell. -/
def PBox (wr : World) (bx : Nat) (r : RT) : Prop := wr.heap[bx]? = some (.cells #[.string (str r.now), .string (str r.other), .int .i64 r.budget, .bool r.dead] 42 (0, 0))
theorem PBox.lt {w : World} {bx : Nat} {r : RT} (h : PBox w bx r) : bx < w.heap.size := (Array.getElem?_eq_some_iff.1 h).1
theorem PBox.over {w w' : World} {bx : Nat} {r : RT} (h : PBox w bx r) (hb : Below w.heap.size w w') : PBox w' bx r := (hb.block _ h.lt).trans h
theorem PBox.kept {w w' : World} {bx : Nat} {r : RT} {F : Nat → Prop} (h : PBox w bx r) (hb : Keep F w w') (hn : ¬ F bx) : PBox w' bx r := (hb.block _ h.lt hn).trans h
theorem PBox.cells {w : World} {bx : Nat} {r : RT} (h : PBox w bx r) :
    (w.cell? ⟨bx, 0, none⟩ = some (.string (str r.now)) ∧ w.cell? ⟨bx, 1, none⟩ = some (.string (str r.other)) ∧ w.cell? ⟨bx, 2, none⟩ = some (.int .i64 r.budget) ∧ w.cell? ⟨bx, 3, none⟩ = some (.bool r.dead)) ∧ (∀ j, w.frozen? ⟨bx, j, none⟩ = false) := by
  refine ⟨⟨?_, ?_, ?_, ?_⟩, fun j => by unfold PBox at h; simp [World.frozen?, h]⟩
  all_goals
    rw [cell_of_row w _ _ _ _ _ h]; rfl

/-- The four cells stored. -/
def putW (w : World) (bx : Nat) (r : RT) : World := (((w.setCell ⟨bx, 0, none⟩ (.string (str r.now))).setCell ⟨bx, 1, none⟩ (.string (str r.other))).setCell ⟨bx, 2, none⟩ (.int .i64 r.budget)).setCell ⟨bx, 3, none⟩ (.bool r.dead)
theorem putW_box {w : World} {bx : Nat} {r : RT} (h : PBox w bx r) (r' : RT) : PBox (putW w bx r') bx r' := by
  unfold PBox at h ⊢
  unfold putW
  simp only [World.setCell, Array.getElem?_modify, if_true, h, Option.map_some]; simp
theorem putW_keep (w : World) (bx : Nat) (r : RT) : Keep (fun k => k = bx) w (putW w bx r) :=
  ⟨rfl, rfl, rfl, by simp [putW], fun i hi hn => by
    unfold putW
    have hn : i ≠ bx := hn
    exact (Below.heap_setCell _ _ _ _ hn).trans ((Below.heap_setCell _ _ _ _ hn).trans ((Below.heap_setCell _ _ _ _ hn).trans (Below.heap_setCell _ _ _ _ hn)))⟩

/-- The state of a round. -/
structure PS (w wr : World) (bx ob b : Nat) (F : Nat → Prop) (s : TS) (r : RT) (x : OpL) (u : Value) (v : Value) : Prop where
  tape : TapeB w.heap.size wr b F s
  box : PBox wr bx r
  obj : wr.heap[ob]? = some (.cells #[.int .i64 x.kind, .int .i64 x.n, u] 45 (0, 0))
  own : OwnF w.heap.size wr F 37 4 x.notes.length v (cellsL x.notes)
  nF : ¬ F bx ∧ ¬ F ob
  ne : bx ≠ ob ∧ w.heap.size ≤ bx ∧ w.heap.size ≤ ob
  nv : ∀ k, v.ownBlock = some k → k ≠ bx ∧ k ≠ ob
  below : Below w.heap.size w wr
section
variable {w wr : World} {bx ob b : Nat} {F : Nat → Prop} {s : TS} {r : RT} {x : OpL} {u v : Value} (h : PS w wr bx ob b F s r x u v)
include h
theorem PS.oblt : ob < wr.heap.size := (Array.getElem?_eq_some_iff.1 h.obj).1
theorem PS.over {w' : World} (hb : Below wr.heap.size wr w') : PS w w' bx ob b F s r x u v :=
  ⟨h.tape.over hb, h.box.over hb, (hb.block _ h.oblt).trans h.obj, h.own.over hb, h.nF, h.ne, h.nv, h.below.trans (hb.mono h.below.size)⟩
theorem PS.turn {w' : World} {s' : TS} (T : Turned w.heap.size wr b F s' w') : PS w w' bx ob b (Wider F wr w') s' r x u v :=
  ⟨T.tape, h.box.kept T.keep h.nF.1, (T.keep.block _ h.oblt h.nF.2).trans h.obj, h.own.step T.keep,
    ⟨fun q => Or.elim q h.nF.1 (fun q => absurd h.box.lt (by omega)), fun q => Or.elim q h.nF.2 (fun q => absurd h.oblt (by omega))⟩, h.ne, h.nv, h.below.trans T.below⟩
theorem PS.put (r' : RT) : PS w (putW wr bx r') bx ob b F s r' x u v :=
  have k := putW_keep wr bx r'
  ⟨⟨h.tape.1.kept k (fun k hk e => h.nF.1 (e ▸ hk)), h.tape.2.1, Nat.le_trans h.tape.2.2 k.size⟩, putW_box h.box r', (k.block _ h.oblt (fun e => h.ne.1 e.symm)).trans h.obj,
    ⟨h.own.1.kept k (fun b hb _ q => (h.nv b hb).1 q), h.own.2⟩, h.nF, h.ne, h.nv, h.below.trans ⟨k.os, k.tape, k.output, k.size, fun i hi => k.block i (Nat.lt_of_lt_of_le hi h.below.size) (fun e => by have e : i = bx := e; have := h.ne.2.1; omega)⟩⟩
theorem PS.ocells : wr.cell? ⟨ob, 0, none⟩ = some (.int .i64 x.kind) ∧ wr.cell? ⟨ob, 1, none⟩ = some (.int .i64 x.n) ∧ wr.cell? ⟨ob, 2, none⟩ = some u := by
  have h := h.obj
  refine ⟨?_, ?_, ?_⟩
  all_goals
    rw [cell_of_row wr _ _ _ _ _ h]; rfl
/-- Another tape in its place, of new blocks alone. -/
theorem PS.swap {w' : World} {b' : Nat} {s' : TS} (hb : Below wr.heap.size wr w') (t : TapeB wr.heap.size w' b' (fun k => wr.heap.size ≤ k ∧ k < w'.heap.size) s') : PS w w' bx ob b' (fun k => wr.heap.size ≤ k ∧ k < w'.heap.size) s' r x u v :=
  ⟨⟨t.1, fun k q => Nat.le_trans h.below.size q.1, Nat.le_trans h.below.size hb.size⟩, h.box.over hb, (hb.block _ h.oblt).trans h.obj,
    ⟨h.own.1.below hb, fun k hk => ⟨(h.own.2 k hk).1, fun q => absurd (h.own.1.lt k hk) (by omega)⟩⟩,
    ⟨fun q => absurd h.box.lt (by omega), fun q => absurd h.oblt (by omega)⟩, h.ne, h.nv, h.below.trans (hb.mono h.below.size)⟩
theorem PS.take {B' b' : Nat} {F' : Nat → Prop} {s' : TS} (t : TapeB B' wr b' F' s') (hB : w.heap.size ≤ B') (hbx : bx < B') (hob : ob < B') (hv : ∀ k, v.ownBlock = some k → k < B') : PS w wr bx ob b' F' s' r x u v :=
  ⟨⟨t.1, fun k q => Nat.le_trans hB (t.2.1 k q), Nat.le_trans hB t.2.2⟩, h.box, h.obj,
    ⟨h.own.1, fun k hk => ⟨(h.own.2 k hk).1, fun q => absurd (t.2.1 k q) (by have := hv k hk; omega)⟩⟩,
    ⟨fun q => absurd (t.2.1 _ q) (by omega), fun q => absurd (t.2.1 _ q) (by omega)⟩, h.ne, h.nv, h.below⟩
end
end Go.Proofs.Ytdclgmffgidcmaa
