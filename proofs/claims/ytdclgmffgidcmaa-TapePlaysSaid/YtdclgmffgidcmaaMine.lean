/- The tape's methods, for a tape all of whose blocks are the caller's own. -/
import Derived.Test.YtdclgmffgidcmaaCrashWalk
namespace Go.Proofs.Ytdclgmffgidcmaa
set_option linter.unusedSimpArgs false
set_option linter.unusedVariables false
open Go.RowKit

def Above (B : Nat) (w : World) : Nat → Prop := fun k => B ≤ k ∧ k < w.heap.size
/-- A tape at b, all of its blocks at B or above. -/
def Mine (B : Nat) (w : World) (b : Nat) (s : TS) : Prop := TapeAt w b (Above B w) s

theorem Mine.le {B b : Nat} {w : World} {s : TS} (h : Mine B w b s) : B ≤ b ∧ b < w.heap.size := h.me
theorem Mine.cut {B B' b : Nat} {w : World} {s : TS} (h : Mine B w b s) (hB : B' ≤ B) : Mine B' w b s := TapeAt.mono h (fun _ h => ⟨Nat.le_trans hB h.1, h.2⟩) (fun _ h => h.2)
theorem mine_of {B b : Nat} {w w' : World} {s : TS} (h : TapeAt w' b (Wider (Above B w) w w') s) (hs : w.heap.size ≤ w'.heap.size) (hB : B ≤ w.heap.size) : Mine B w' b s :=
  h.mono (fun _ h => h.elim (fun h => ⟨h.1, Nat.lt_of_lt_of_le h.2 hs⟩) (fun h => ⟨Nat.le_trans hB h.1, h.2⟩)) (fun _ h => h.2)
theorem mine_of0 {B b : Nat} {w w' : World} {s : TS} (h : TapeAt w' b (Above B w) s) (hs : w.heap.size ≤ w'.heap.size) : Mine B w' b s :=
  h.mono (fun _ h => ⟨h.1, Nat.lt_of_lt_of_le h.2 hs⟩) (fun _ h => h.2)
theorem below_of {B : Nat} {w w' : World} (h : Keep (Above B w) w w') (hB : B ≤ w.heap.size) : Below B w w' :=
  ⟨h.os, h.tape, h.output, h.size, fun i hi => h.block i (Nat.lt_of_lt_of_le hi hB) (fun q => absurd q.1 (by omega))⟩
/-- What is done elsewhere. -/
theorem Mine.over {B b : Nat} {w w' : World} {s : TS} (h : Mine B w b s) (hb : Below w.heap.size w w') : Mine B w' b s := mine_of0 (TapeAt.below h hb) hb.size

theorem mine_new (w : World) (B : Nat) (hB : B ≤ w.heap.size) : Calls Try.prog 9 #[] w fun e w' => e = .returned (.pointer (some ⟨w.heap.size, 0, none⟩)) ∧ Mine B w' w.heap.size ⟨[], [], 0, false, 0, false⟩ ∧ Below B w w' := by
  refine (new_any w).mono ?_
  rintro e w' ⟨rfl, t, hb⟩
  exact ⟨rfl, t.mono (fun k h => by subst h; exact ⟨hB, t.lt _ rfl⟩) (fun _ h => h.2), hb.mono hB⟩

section
variable {w : World} {B b : Nat} {s : TS} (h : Mine B w b s)
include h
theorem mine_size (hs : small s) : Calls Try.prog 17 #[.pointer (some ⟨b, 0, none⟩)] w fun e w' => e = .returned (.int .i64 ((s.area s.c).length : Int)) ∧ Mine B w' b s ∧ Below B w w' := by
  refine (size_any w b _ s h hs.2.2).mono ?_
  rintro e w' ⟨rfl, hb⟩
  exact ⟨rfl, h.over hb, hb.mono (Nat.le_trans h.le.1 (Nat.le_of_lt h.le.2))⟩
theorem mine_read (hs : small s) : Calls Try.prog 14 #[.pointer (some ⟨b, 0, none⟩)] w fun e w' => ∃ p cap, e = .returned (.slice p (readL (s.area s.c)).1.length cap) ∧
    Own w' 37 4 (readL (s.area s.c)).1.length (.slice p (readL (s.area s.c)).1.length cap) (cellsL (readL (s.area s.c)).1) ∧ Mine B w' b s ∧ Below w.heap.size w w' ∧ Below B w w' ∧ (∀ k, (Value.slice p (readL (s.area s.c)).1.length cap).ownBlock = some k → w.heap.size ≤ k) := by
  refine (tread_any w b _ s h hs).mono ?_
  rintro e w' ⟨v', rfl, ho, hb, hn⟩
  obtain ⟨p, cap, rfl⟩ := own_slice ho
  exact ⟨p, cap, rfl, ho, h.over hb, hb, hb.mono (Nat.le_trans h.le.1 (Nat.le_of_lt h.le.2)), hn⟩
theorem mine_arm (n : Nat) (hd : s.dead = false) (hn : n ≤ 2 ^ 40) : Calls Try.prog 11 #[.pointer (some ⟨b, 0, none⟩), .int .i64 (n : Int)] w fun e w' => e = .returned (.int .i64 0) ∧
    Mine B w' b { s with armed := true, budget := n } ∧ Below B w w' := by
  refine (arm_yes w b n _ s h hd hn).mono ?_
  rintro e w' ⟨rfl, t, k⟩
  exact ⟨rfl, mine_of0 t k.size, below_of k (Nat.le_trans h.le.1 (Nat.le_of_lt h.le.2))⟩
theorem mine_append (ns : List Nt) (v : Value) (hs : small s) (hv : Ns w v ns) (hL : ns.length ≤ 2 ^ 16) :
    Calls Try.prog 12 #[.pointer (some ⟨b, 0, none⟩), v] w fun e w' => e = .returned (.int .i64 (s.append ns).2) ∧ Mine B w' b (s.append ns).1 ∧ Keep (Above B w) w w' ∧ Below B w w' := by
  have hB := Nat.le_trans h.le.1 (Nat.le_of_lt h.le.2)
  refine (append_any w b _ s ns v h hs hv hL).mono ?_
  rintro e w' ⟨rfl, t, k⟩
  exact ⟨rfl, mine_of t k.size hB, k, below_of k hB⟩
theorem mine_repair (hs : small s) : Calls Try.prog 16 #[.pointer (some ⟨b, 0, none⟩)] w fun e w' => e = .returned (.tuple #[.int .i64 s.repair.2.1, .int .i64 s.repair.2.2]) ∧ Mine B w' b s.repair.1 ∧ Below B w w' := by
  have hB := Nat.le_trans h.le.1 (Nat.le_of_lt h.le.2)
  refine (repair_any w b _ s h hs).mono ?_
  rintro e w' ⟨rfl, t, k⟩
  exact ⟨rfl, mine_of t k.size hB, below_of k hB⟩
theorem mine_crash (hs : small s) : Calls Try.prog 13 #[.pointer (some ⟨b, 0, none⟩)] w fun e w' => ∃ b', e = .returned (.pointer (some ⟨b', 0, none⟩)) ∧ Mine w.heap.size w' b' s.crash ∧ Mine B w' b s ∧ Below w.heap.size w w' ∧ Below B w w' := by
  have hB := Nat.le_trans h.le.1 (Nat.le_of_lt h.le.2)
  refine (crash_any w b _ s h hs).mono ?_
  rintro e w' ⟨b', rfl, t, hb⟩
  exact ⟨b', rfl, t, h.over hb, hb, hb.mono hB⟩
end

end Go.Proofs.Ytdclgmffgidcmaa
