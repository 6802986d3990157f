/- The tape: unit, in its three cases; Compact's inner function. -/
import Derived.Test.YtdclgmffgidcmaaTapeWalk
namespace Go.Proofs.Ytdclgmffgidcmaa
set_option linter.unusedSimpArgs false
set_option linter.unusedVariables false
open Go.RowKit

theorem unit_dead (w : World) (b : Nat) (v0 v1 fn : Value) (c : Int) (arm : Bool) (bu : Int) (hb : w.heap[b]? = some (tapeObj v0 v1 c arm bu true)) :
    Calls Try.prog 37 #[.pointer (some ⟨b, 0, none⟩), fn] w fun e w' => e = .returned (.tuple #[]) ∧ w' = w := by
  obtain ⟨⟨hc0, hc1, hc2, hc3, hc4, hc5⟩, hfz⟩ := tape_cells hb
  have lb := lt_of_cell hc0
  have hf5 := hfz 5
  clear hb hc0 hc1 hfz
  go_enter Try.func37, Try.ntmps37
  go_wp2_with fail
  first | go_end0 | refine bodyPost_ret (results_none rfl _ _ _) rfl ?_
  exact ⟨rfl, rfl⟩

theorem unit_out (w : World) (b : Nat) (v0 v1 fn : Value) (c : Int) (hb : w.heap[b]? = some (tapeObj v0 v1 c true 0 false)) :
    Calls Try.prog 37 #[.pointer (some ⟨b, 0, none⟩), fn] w fun e w' => e = .returned (.tuple #[]) ∧ w' = w.setCell ⟨b, 5, none⟩ (.bool true) := by
  obtain ⟨⟨hc0, hc1, hc2, hc3, hc4, hc5⟩, hfz⟩ := tape_cells hb
  have lb := lt_of_cell hc0
  have hf5 := hfz 5
  clear hb hc0 hc1 hfz
  go_enter Try.func37, Try.ntmps37
  go_wp2_with fail
  first | go_end0 | refine bodyPost_ret (results_none rfl _ _ _) rfl ?_
  exact ⟨rfl, rfl⟩

theorem unit_do (w : World) (b k : Nat) (v0 v1 : Value) (caps : Array Value) (c : Int) (arm : Bool) (bu : Int) (hb : w.heap[b]? = some (tapeObj v0 v1 c arm bu false)) (hz : arm = false ∨ bu ≠ 0) (hcf : ∀ ar w, (callFunc k ar).run Try.prog w = .ok (.enter k ar) w) {R : World → Prop}
    (hdo : Calls Try.prog k caps (w.setCell ⟨b, 4, none⟩ (.int .i64 (wrap64 (bu - 1)))) fun e w' => e = .returned (.tuple #[]) ∧ R w') :
    Calls Try.prog 37 #[.pointer (some ⟨b, 0, none⟩), .func (.func k) #[] caps] w fun e w' => e = .returned (.tuple #[]) ∧ R w' := by
  obtain ⟨⟨hc0, hc1, hc2, hc3, hc4, hc5⟩, hfz⟩ := tape_cells hb
  have lb := lt_of_cell hc0
  have hf3 := hfz 4
  have hf5 := hfz 5
  clear hb hc0 hc1 hfz
  go_enter Try.func37, Try.ntmps37
  rcases hz with rfl | hz
  · go_wp2_with (refine hdo.mono ?_; rintro e w1 ⟨rfl, hr⟩)
    first | go_end0 | refine bodyPost_ret (results_none rfl _ _ _) rfl ?_
    exact ⟨rfl, hr⟩
  · have hz' : (bu == 0) = false := by simpa using hz
    cases arm
    · go_wp2_with (refine hdo.mono ?_; rintro e w1 ⟨rfl, hr⟩)
      first | go_end0 | refine bodyPost_ret (results_none rfl _ _ _) rfl ?_
      exact ⟨rfl, hr⟩
    · go_wp2_with (refine hdo.mono ?_; rintro e w1 ⟨rfl, hr⟩)
      first | go_end0 | refine bodyPost_ret (results_none rfl _ _ _) rfl ?_
      exact ⟨rfl, hr⟩

end Go.Proofs.Ytdclgmffgidcmaa
