/- slices.Clone of bytes. -/
import Derived.Test.YtdclgmffgidcmaaRepairWalk
import Derived.Lib.SliceRun
namespace Go.Proofs.Ytdclgmffgidcmaa
set_option linter.unusedSimpArgs false
set_option linter.unusedVariables false
open Go.RowKit

def CloneP (w : World) (L : List UInt8) (e : Ending) (w' : World) : Prop :=
  ∃ v', e = .returned v' ∧ Own w' 5 1 L.length v' (L.map bv) ∧ Below w.heap.size w w' ∧ ∀ k, v'.ownBlock = some k → w.heap.size ≤ k

theorem clone_any (w : World) (v : Value) (L : List UInt8) (hv : Own w 5 1 L.length v (L.map bv)) (hL : L.length ≤ 2 ^ 20) :
    Calls Try.prog 30 #[v] w fun e w' => CloneP w L e w' := by
  have HO := Lib.hid hv
  have hnil : ∀ p n c w, (binOp .eql 57 (.slice p n c) (.slice none 0 0)).run Try.prog w = .ok (.bool p.isNone) w := fun p n c w => Lib.run_eql_slice_nil w _ _ p n c 0 0 Try.underlying57
  rcases hv.shape with ⟨rfl, h0, h1⟩ | ⟨g, cap, rfl, hnc, hcm, hg, -⟩
  · obtain rfl : L = [] := List.eq_nil_of_length_eq_zero h0
    have h1 : ∀ w, (binOp .eql 57 (.slice none 0 0) (.slice none 0 0)).run Try.prog w = .ok (.bool true) w := fun w => hnil none 0 0 w
    clear hv hnil
    go_enter Try.func30, Try.ntmps30
    go_wp2
    go_ret
    exact ⟨_, rfl, HO.out, Below.refl _ _, fun k h => by simp [Value.ownBlock] at h⟩
  · have h1 : ∀ w, (binOp .eql 57 (.slice (some ⟨g, 0, none⟩) L.length cap) (.slice none 0 0)).run Try.prog w = .ok (.bool false) w := fun w => hnil _ _ _ w
    clear hv hnil
    go_enter Try.func30, Try.ntmps30
    have HS := Lib.hid (src_rd (P := Try.prog) (tx := 57) Try.underlying57 (HO.out.alloc (.cells #[] 5)).rd (bv_one _))
    go_wp2_with (at_builtin; refine wpList_app _ rfl _ _ 57 57 5 rfl (.int .u8 0) 1 1 Try.underlying57 Try.info_u8 rfl _ rfl _ _ (own_new (w := w) [] (sz := 1) (n := 0) rfl (by unfold maxLen; omega)) _ rfl _ _ HS.out ?h1 ?h2 ?hK)
    case h1 => unfold maxLen; omega
    case h2 => omega
    case hK =>
      intro v3 w3 ho3 hg3
      have HR : Hid (CloneP w L (.returned v3) w3) := ⟨v3, rfl, ho3, hg3.below (Below.alloc1 w _) (fun k e => by simp [Value.ownBlock] at e; omega), hg3.from (by simp) (fun k e => by simp [Value.ownBlock] at e; omega)⟩
      obtain ⟨p, c, rfl⟩ := own_slice ho3
      clear ho3 hg3 HS HO
      go_wp2
      go_ret
      exact HR.out

end Go.Proofs.Ytdclgmffgidcmaa
