/- The tape: what its methods that only read answer; cut, put. -/
import Derived.Test.YtdclgmffgidcmaaPutWalk
import Derived.Test.YtdclgmffgidcmaaReadWalk
import Derived.Test.YtdclgmffgidcmaaWriteWalk
import Derived.Deep.QuietTactic
import Derived.BigQuiet
namespace Go.Proofs.Ytdclgmffgidcmaa
set_option linter.unusedSimpArgs false
set_option linter.unusedVariables false
open Go.RowKit

theorem TapeAt.area {w : World} {b ar : Nat} {F : Nat → Prop} {s : TS} (h : TapeAt w b F s) (har : ar = 0 ∨ ar = 1) :
    ∃ v, w.cell? ⟨b, ar, none⟩ = some v ∧ Own w 5 1 (s.area ar).length v ((s.area ar).map bv) ∧ ∀ k, v.ownBlock = some k → F k := by
  obtain ⟨⟨v0, v1, hb, h0, h1, a0, a1⟩, hm, hl⟩ := h
  obtain ⟨hc, _⟩ := tape_cells hb
  rcases har with rfl | rfl
  · exact ⟨v0, hc.1, h0, fun k e => (a0 k e).1⟩
  · exact ⟨v1, hc.2.1, h1, fun k e => (a1 k e).1⟩
theorem TapeAt.counts {w : World} {b : Nat} {F : Nat → Prop} {s : TS} (h : TapeAt w b F s) : w.cell? ⟨b, 2, none⟩ = some (.int .i64 (s.c : Int)) := by
  obtain ⟨⟨v0, v1, hb, -⟩, -⟩ := h; exact (tape_cells hb).1.2.2.1
theorem TapeAt.isDead {w : World} {b : Nat} {F : Nat → Prop} {s : TS} (h : TapeAt w b F s) : w.cell? ⟨b, 5, none⟩ = some (.bool s.dead) := by
  obtain ⟨⟨v0, v1, hb, -⟩, -⟩ := h; exact (tape_cells hb).1.2.2.2.2.2

/-- The value of a slice's length: as the walk asks it. -/
theorem own_slice {w : World} {e : TypeId} {sz n : Nat} {v : Value} {xs : List Value} (h : Own w e sz n v xs) : ∃ p cap, v = .slice p n cap := by
  rcases h.shape with ⟨rfl, rfl, _⟩ | ⟨g, cap, rfl, _⟩
  · exact ⟨_, _, rfl⟩
  · exact ⟨_, _, rfl⟩

theorem size_any (w : World) (b : Nat) (F : Nat → Prop) (s : TS) (hT : TapeAt w b F s) (hc : s.c = 0 ∨ s.c = 1) :
    Calls Try.prog 17 #[.pointer (some ⟨b, 0, none⟩)] w fun e w' => e = .returned (.int .i64 ((s.area s.c).length : Int)) ∧ Below w.heap.size w w' := by
  obtain ⟨v, hv, ho, -⟩ := hT.area hc
  obtain ⟨p, cap, rfl⟩ := own_slice ho
  have h2 := hT.counts
  have lb := lt_of_cell h2
  generalize (s.area s.c).length = n at *
  generalize s.c = c at *
  clear hT ho
  rcases hc with rfl | rfl
  all_goals
    go_enter Try.func17, Try.ntmps17
    go_wp2_with fail
    go_quiet (fail)
  all_goals
    go_wp2
    refine bodyPost_ret (v := .int .i64 (n : Int)) (by simp [results, Try.results17, go_sem]) rfl ⟨rfl, below_draws (Below.refl _ _) _⟩

end Go.Proofs.Ytdclgmffgidcmaa
