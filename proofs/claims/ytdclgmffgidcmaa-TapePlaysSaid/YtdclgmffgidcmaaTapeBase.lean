/- The tape's memory: an append at a step of a region whose order is open; the tape's block. -/
import Derived.Test.YtdclgmffgidcmaaWriteWalk
import Derived.Deep.RegionHeld3
import Derived.Deep.AppendLies
namespace Go.Proofs.Ytdclgmffgidcmaa
set_option linter.unusedSimpArgs false
set_option linter.unusedVariables false
open Go.RowKit

section
variable {P : Program} {w : World}

/-- append of at least one element, at a step of a region whose order is open. -/
theorem step_app {ops : Array Oper} {o : Oper} {a : Act} {K : Act → World → Prop} {Q : Exit → Act → World → Prop} {E : Prop} (hgd : o.guard = none) (s x : Operand) (t tx : TypeId)
    (ho : o.op = .call { callee := .builtin .append, args := #[s, x], argTypes := #[t, tx] })
    (e : TypeId) (z : Value) (sz bytes : Nat) (ht : P.underlying t = some (.slice e)) (hi : (P.info? e).map (fun i => (i.zero, i.size, i.bytes)) = some (some z, sz, bytes)) (hzs : z.cells.size = sz)
    (v : Value) (n : Nat) (xs : List Value) (hs : a.eval s = v) (hown : Own w e sz n v xs)
    (xv : Value) (m : Nat) (news : List Value) (hx : a.eval x = xv) (hsrc : Src P sz tx xv m news w) (hm : 0 < m) (h63 : n + m ≤ maxLen) (hbytes : (n + m) * bytes ≤ 140737488355328)
    (h : ∀ g cap w', Own w' e sz (n + m) (.slice (some ⟨g, 0, none⟩) (n + m) cap) (xs ++ news) → Grew w w' v (.slice (some ⟨g, 0, none⟩) (n + m) cap) → g < w'.heap.size → K (a.put o.dst (.slice (some ⟨g, 0, none⟩) (n + m) cap)) w') :
    if Region.wanted o (yielded ops a.tmps) = true then Oper.wp P o a w K Q else E := by
  have hw : Region.wanted o (yielded ops a.tmps) = true := by simp [Region.wanted, hgd]
  rw [if_pos hw]
  obtain ⟨i, hi1, hi2, hi3, hi4⟩ := info_parts hi
  obtain ⟨v', w', hrun, r1, r2⟩ := run_app (P := P) w t tx o.type e i z sz bytes ht hi1 hi2 hi3 hi4 hzs v n xs hown xv m news hsrc h63 hbytes
  unfold Oper.wp
  simp [execOp, ho, resolve, invoke, builtin, hs, hx, hrun, Result.andThen]
  rcases r1.shape with ⟨_, h0, _⟩ | ⟨g, cap, hv, _, _, hg, _⟩
  · omega
  · subst hv
    exact h g cap w' r1 r2 hg
end

end Go.Proofs.Ytdclgmffgidcmaa
