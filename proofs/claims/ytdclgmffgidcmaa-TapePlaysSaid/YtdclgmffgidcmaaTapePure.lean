/- The tape in plain Lean: what its operations do to two lists of bytes. -/
import Derived.Test.YtdclgmffgidcmaaBase
namespace Go.Proofs.Ytdclgmffgidcmaa
set_option linter.unusedSimpArgs false
set_option linter.unusedVariables false
open Go.RowKit

structure TS where
  a0 : List UInt8
  a1 : List UInt8
  c : Nat
  armed : Bool
  budget : Int
  dead : Bool

namespace TS
def area (s : TS) (k : Nat) : List UInt8 := if k = 0 then s.a0 else s.a1
def set (s : TS) (k : Nat) (l : List UInt8) : TS := if k = 0 then { s with a0 := l } else { s with a1 := l }
def unit (s : TS) (f : TS → TS) : TS :=
  if s.dead then s else if s.armed && s.budget == 0 then { s with dead := true } else f { s with budget := wrap64 (s.budget - 1) }
def put1 (k : Nat) (s : TS) (x : UInt8) : TS := s.unit fun s => s.set k (s.area k ++ [x])
def put (k : Nat) (s : TS) (l : List UInt8) : TS := l.foldl (put1 k) s
def cut (s : TS) (k n : Nat) : TS := if n < (s.area k).length then s.unit fun s => s.set k ((s.area k).take n) else s
def flip (s : TS) (k : Nat) : TS := s.unit fun s => { s with c := k }

theorem put1_len (k : Nat) (s : TS) (x : UInt8) : (s.put1 k x).a0.length ≤ s.a0.length + 1 ∧ (s.put1 k x).a1.length ≤ s.a1.length + 1 := by
  unfold put1 unit set area
  repeat' split
  all_goals simp
theorem put1_keeps (k : Nat) (s : TS) (x : UInt8) : (s.put1 k x).c = s.c ∧ (s.put1 k x).armed = s.armed := by
  unfold put1 unit set
  repeat' split
  all_goals simp
theorem put_succ (k : Nat) (s : TS) (l : List UInt8) (x : UInt8) : s.put k (l ++ [x]) = (s.put k l).put1 k x := by simp [put]
theorem put_len (k : Nat) (l : List UInt8) : ∀ s : TS, (s.put k l).a0.length ≤ s.a0.length + l.length ∧ (s.put k l).a1.length ≤ s.a1.length + l.length ∧ (s.put k l).c = s.c ∧ (s.put k l).armed = s.armed := by
  induction l with
  | nil => intro s; simp [put]
  | cons x l ih =>
    intro s
    have h1 := put1_len k s x
    have h2 := put1_keeps k s x
    have h := ih (s.put1 k x)
    simp only [put, List.foldl_cons] at h ⊢
    refine ⟨?_, ?_, h.2.2.1.trans h2.1, h.2.2.2.trans h2.2⟩ <;> simp only [List.length_cons] <;> omega
end TS

end Go.Proofs.Ytdclgmffgidcmaa
