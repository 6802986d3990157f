/- The tape's methods, with the blocks that the tape has; rows beside it. -/
import Derived.Test.YtdclgmffgidcmaaHolds
namespace Go.Proofs.Ytdclgmffgidcmaa
set_option linter.unusedSimpArgs false
set_option linter.unusedVariables false
open Go.RowKit

/-- A tape at b, whose blocks are F's, all at B or above. -/
def TapeB (B : Nat) (w : World) (b : Nat) (F : Nat → Prop) (s : TS) : Prop := TapeAt w b F s ∧ (∀ k, F k → B ≤ k) ∧ B ≤ w.heap.size
/-- A row of the law's own beside the tape. -/
def OwnF (B : Nat) (w : World) (F : Nat → Prop) (e : TypeId) (sz n : Nat) (v : Value) (xs : List Value) : Prop := Own w e sz n v xs ∧ ∀ k, v.ownBlock = some k → B ≤ k ∧ ¬ F k
/-- What a method leaves. -/
structure Turned (B : Nat) (w : World) (b : Nat) (F : Nat → Prop) (s : TS) (w' : World) : Prop where
  tape : TapeB B w' b (Wider F w w') s
  keep : Keep F w w'
  below : Below B w w'

theorem TapeB.over {B b : Nat} {w w' : World} {F : Nat → Prop} {s : TS} (h : TapeB B w b F s) (hb : Below w.heap.size w w') : TapeB B w' b F s := ⟨h.1.below hb, h.2.1, Nat.le_trans h.2.2 hb.size⟩
theorem turned_of {B b : Nat} {w w' : World} {F : Nat → Prop} {s s' : TS} (h : TapeB B w b F s) (t : TapeAt w' b (Wider F w w') s') (k : Keep F w w') : Turned B w b F s' w' :=
  ⟨⟨t, fun k hk => Or.elim hk (h.2.1 k) (fun hk => Nat.le_trans h.2.2 hk.1), Nat.le_trans h.2.2 k.size⟩, k, k.os, k.tape, k.output, k.size, fun i hi => k.block i (Nat.lt_of_lt_of_le hi h.2.2) (fun q => absurd (h.2.1 i q) (by omega))⟩
theorem OwnF.step {B : Nat} {w w' : World} {F : Nat → Prop} {e : TypeId} {sz n : Nat} {v : Value} {xs : List Value} (h : OwnF B w F e sz n v xs) (k : Keep F w w') : OwnF B w' (Wider F w w') e sz n v xs :=
  ⟨h.1.kept k (fun b hb _ q => (h.2 b hb).2 q), fun b hb => ⟨(h.2 b hb).1, fun q => Or.elim q (h.2 b hb).2 (fun q => absurd (h.1.lt b hb) (by omega))⟩⟩
theorem OwnF.over {B : Nat} {w w' : World} {F : Nat → Prop} {e : TypeId} {sz n : Nat} {v : Value} {xs : List Value} (h : OwnF B w F e sz n v xs) (hb : Below w.heap.size w w') : OwnF B w' F e sz n v xs := ⟨h.1.below hb, h.2⟩
theorem TapeB.grew {B b : Nat} {w w' : World} {F : Nat → Prop} {s : TS} {v v' : Value} (h : TapeB B w b F s) (g : Grew w w' v v') (hv : ∀ k, v.ownBlock = some k → ¬ F k) : TapeB B w' b F s :=
  ⟨h.1.kept (Keep.ofGrown g.grown) (fun k hk e => hv k e.symm hk), h.2.1, Nat.le_trans h.2.2 g.grown.size⟩
theorem OwnF.grew {B b : Nat} {w w' : World} {F : Nat → Prop} {s : TS} {v v' : Value} {e : TypeId} {sz n : Nat} {xs : List Value} (h : TapeB B w b F s) (g : Grew w w' v v') (hv : ∀ k, v.ownBlock = some k → B ≤ k ∧ ¬ F k) (o : Own w' e sz n v' xs) : OwnF B w' F e sz n v' xs :=
  ⟨o, fun k hk => ⟨g.from h.2.2 (fun k e => (hv k e).1) k hk, fun q => by
    rcases g.own with e | ⟨g', e, hg⟩
    · exact (hv k (e ▸ hk)).2 q
    · rw [e] at hk; cases hk; exact absurd (h.1.lt _ q) (by omega)⟩⟩
theorem below_grew {B : Nat} {w0 w w' : World} {v v' : Value} (hb : Below B w0 w) (g : Grew w w' v v') (hB : B ≤ w.heap.size) (hv : ∀ k, v.ownBlock = some k → B ≤ k) : Below B w0 w' :=
  hb.trans ⟨g.grown.os, g.grown.tape, g.grown.output, g.grown.size, fun i hi => g.grown.block i (Nat.lt_of_lt_of_le hi hB) (fun e => absurd (hv i e.symm) (by omega))⟩

theorem tb_new (w : World) (B : Nat) (hB : B ≤ w.heap.size) : Calls Try.prog 9 #[] w fun e w' => e = .returned (.pointer (some ⟨w.heap.size, 0, none⟩)) ∧ TapeB B w' w.heap.size (fun k => k = w.heap.size) ⟨[], [], 0, false, 0, false⟩ ∧ Below w.heap.size w w' := by
  refine (new_any w).mono ?_
  rintro e w' ⟨rfl, t, hb⟩
  exact ⟨rfl, ⟨t, fun k h => by have h : k = w.heap.size := h; omega, Nat.le_trans hB hb.size⟩, hb⟩

section
variable {w : World} {B b : Nat} {F : Nat → Prop} {s : TS} (h : TapeB B w b F s)
include h
theorem tb_size (hs : fit s) : Calls Try.prog 17 #[.pointer (some ⟨b, 0, none⟩)] w fun e w' => e = .returned (.int .i64 ((s.area s.c).length : Int)) ∧ TapeB B w' b F s ∧ Below w.heap.size w w' := by
  refine (size_any w b _ s h.1 hs.2.2).mono ?_
  rintro e w' ⟨rfl, hb⟩
  exact ⟨rfl, h.over hb, hb⟩
theorem tb_read (hs : fit s) : Calls Try.prog 14 #[.pointer (some ⟨b, 0, none⟩)] w fun e w' => ∃ p cap, e = .returned (.slice p (readL (s.area s.c)).1.length cap) ∧
    OwnF w.heap.size w' F 37 4 (readL (s.area s.c)).1.length (.slice p (readL (s.area s.c)).1.length cap) (cellsL (readL (s.area s.c)).1) ∧ TapeB B w' b F s ∧ Below w.heap.size w w' := by
  refine (tread_any w b _ s h.1 hs.small).mono ?_
  rintro e w' ⟨v', rfl, ho, hb, hn⟩
  obtain ⟨p, cap, rfl⟩ := own_slice ho
  exact ⟨p, cap, rfl, ⟨ho, fun k hk => ⟨hn k hk, fun q => absurd (h.1.lt k q) (by have := hn k hk; omega)⟩⟩, h.over hb, hb⟩
theorem tb_arm (n : Nat) (hd : s.dead = false) (hn : n ≤ 2 ^ 40) : Calls Try.prog 11 #[.pointer (some ⟨b, 0, none⟩), .int .i64 (n : Int)] w fun e w' => e = .returned (.int .i64 0) ∧
    Turned B w b F { s with armed := true, budget := n } w' := by
  refine (arm_yes w b n _ s h.1 hd hn).mono ?_
  rintro e w' ⟨rfl, t, k⟩
  exact ⟨rfl, turned_of h (t.wider k.size) k⟩
theorem tb_append (ns : List Nt) (v : Value) (hs : fit s) (hv : Ns w v ns) (hL : ns.length ≤ 2 ^ 16) :
    Calls Try.prog 12 #[.pointer (some ⟨b, 0, none⟩), v] w fun e w' => e = .returned (.int .i64 (s.append ns).2) ∧ Turned B w b F (s.append ns).1 w' := by
  refine (append_any w b _ s ns v h.1 hs.small hv hL).mono ?_
  rintro e w' ⟨rfl, t, k⟩
  exact ⟨rfl, turned_of h t k⟩
theorem tb_compact (ns : List Nt) (v : Value) (hs : fit s) (hv : Ns w v ns) (hL : ns.length ≤ 2 ^ 16) :
    Calls Try.prog 21 #[.pointer (some ⟨b, 0, none⟩), v] w fun e w' => e = .returned (.int .i64 (s.compact ns).2) ∧ Turned B w b F (s.compact ns).1 w' := by
  refine (compact_any w b _ s ns v h.1 hs.small hv hL).mono ?_
  rintro e w' ⟨rfl, t, k⟩
  exact ⟨rfl, turned_of h t k⟩
theorem tb_repair (hs : fit s) : Calls Try.prog 16 #[.pointer (some ⟨b, 0, none⟩)] w fun e w' => e = .returned (.tuple #[.int .i64 s.repair.2.1, .int .i64 s.repair.2.2]) ∧ Turned B w b F s.repair.1 w' := by
  refine (repair_any w b _ s h.1 hs.small).mono ?_
  rintro e w' ⟨rfl, t, k⟩
  exact ⟨rfl, turned_of h t k⟩
/-- What is left: a tape of its own, in new blocks alone. -/
theorem tb_crash (hs : fit s) : Calls Try.prog 13 #[.pointer (some ⟨b, 0, none⟩)] w fun e w' => ∃ b', e = .returned (.pointer (some ⟨b', 0, none⟩)) ∧
    TapeB w.heap.size w' b' (fun k => w.heap.size ≤ k ∧ k < w'.heap.size) s.crash ∧ TapeB B w' b F s ∧ Below w.heap.size w w' := by
  refine (crash_any w b _ s h.1 hs.small).mono ?_
  rintro e w' ⟨b', rfl, t, hb⟩
  exact ⟨b', rfl, ⟨t, fun k h => h.1, hb.size⟩, h.over hb, hb⟩
end
end Go.Proofs.Ytdclgmffgidcmaa
