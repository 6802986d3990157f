/- Arm, of any number. -/
import Derived.Test.YtdclgmffgidcmaaTapeOps
import Derived.Test.YtdclgmffgidcmaaSim
namespace Go.Proofs.Ytdclgmffgidcmaa
set_option linter.unusedSimpArgs false
set_option linter.unusedVariables false
open Go.RowKit

theorem arm_no (w : World) (b : Nat) (n : Int) (F : Nat → Prop) (s : TS) (hT : TapeAt w b F s) (hd : s.dead = false) (hn : n < 0 ∨ 1099511627776 < n) :
    Calls Try.prog 11 #[.pointer (some ⟨b, 0, none⟩), .int .i64 n] w fun e w' => e = .returned (.int .i64 1) ∧ w' = w := by
  have h5 := hT.isDead
  rw [hd] at h5
  have lb := lt_of_cell h5
  clear hT hd
  rcases hn with hn | hn
  · go_enter Try.func11, Try.ntmps11
    go_wp2
    go_ret
    exact ⟨rfl, rfl⟩
  · have hn2 : ¬ n < 0 := by omega
    go_enter Try.func11, Try.ntmps11
    go_wp2
    go_ret
    exact ⟨rfl, rfl⟩

theorem tb_same {w : World} {B b : Nat} {F : Nat → Prop} {s : TS} (h : TapeB B w b F s) : Turned B w b F s w :=
  turned_of h (h.1.wider (Nat.le_refl _)) (Keep.refl _ _)

theorem tb_armAny {w : World} {B b : Nat} {F : Nat → Prop} {s : TS} (h : TapeB B w b F s) (n : Int) :
    Calls Try.prog 11 #[.pointer (some ⟨b, 0, none⟩), .int .i64 n] w fun e w' => e = .returned (.int .i64 (s.arm n).2) ∧ Turned B w b F (s.arm n).1 w' := by
  by_cases hd : s.dead = true
  · have e : s.arm n = (s, 190) := by unfold TS.arm; rw [if_pos hd]
    rw [e]
    refine (arm_dead w b n _ s h.1 hd).mono ?_
    rintro e w' ⟨rfl, rfl⟩
    exact ⟨rfl, tb_same h⟩
  · have hd : s.dead = false := by simpa using hd
    by_cases hn : n < 0 ∨ 1099511627776 < n
    · have e : s.arm n = (s, 1) := by unfold TS.arm; rw [if_neg (by rw [hd]; decide), if_pos hn]
      rw [e]
      refine (arm_no w b n _ s h.1 hd hn).mono ?_
      rintro e w' ⟨rfl, rfl⟩
      exact ⟨rfl, tb_same h⟩
    · have e : s.arm n = ({ s with armed := true, budget := n }, 0) := by unfold TS.arm; rw [if_neg (by rw [hd]; decide), if_neg hn]
      rw [e]
      obtain ⟨m, hm⟩ : ∃ m : Nat, n = m := ⟨n.toNat, (Int.toNat_of_nonneg (by omega)).symm⟩
      subst hm
      exact tb_arm h m hd (by omega)
end Go.Proofs.Ytdclgmffgidcmaa
