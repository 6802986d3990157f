/- The tape: Repair; slices.Clone. -/
import Derived.Test.YtdclgmffgidcmaaCutWalk
namespace Go.Proofs.Ytdclgmffgidcmaa
set_option linter.unusedSimpArgs false
set_option linter.unusedVariables false
open Go.RowKit

/-- Repair, in plain Lean. -/
def TS.repair (s : TS) : TS × Int × Int :=
  if s.dead then (s, 0, 190) else if (s.cut s.c (readL (s.area s.c)).2).dead then (s.cut s.c (readL (s.area s.c)).2, 0, 190)
  else (s.cut s.c (readL (s.area s.c)).2, ((s.area s.c).length : Int) - ((readL (s.area s.c)).2 : Int), 0)

def RepP (w : World) (b : Nat) (F : Nat → Prop) (s : TS) (e : Ending) (w' : World) : Prop :=
  e = .returned (.tuple #[.int .i64 s.repair.2.1, .int .i64 s.repair.2.2]) ∧ TapeAt w' b (Wider F w w') s.repair.1 ∧ Keep F w w'

theorem repair_any (w : World) (b : Nat) (F : Nat → Prop) (s : TS) (hT : TapeAt w b F s) (hs : small s) :
    Calls Try.prog 16 #[.pointer (some ⟨b, 0, none⟩)] w fun e w' => RepP w b F s e w' := by
  have h5 := hT.isDead
  have lb := lt_of_cell h5
  have HT := Lib.hid hT
  cases hd : s.dead
  case true =>
    have hX : Hid (s.repair = (s, 0, 190)) := by unfold Hid TS.repair; simp [hd]
    rw [hd] at h5
    clear hT hs hd
    go_enter Try.func16, Try.ntmps16
    go_wp2
    go_ret2
    unfold RepP
    rw [hX.out]
    exact ⟨rfl, HT.out.wider (Nat.le_refl _), Keep.refl _ _⟩
  case false =>
    rw [hd] at h5
    have hlen := small_area hs s.c
    have hX : Hid (s.repair = if (s.cut s.c (readL (s.area s.c)).2).dead then (s.cut s.c (readL (s.area s.c)).2, 0, 190)
      else (s.cut s.c (readL (s.area s.c)).2, ((s.area s.c).length : Int) - ((readL (s.area s.c)).2 : Int), 0)) := by unfold Hid TS.repair; simp [hd]
    have HG := Lib.hid (good_any w b F s HT.out hs)
    have HS := Lib.hid (fun w2 h => size_any w2 b F s (HT.out.below h) hs.2.2)
    have HC := Lib.hid (fun w2 h => cut_any w2 b s.c (readL (s.area s.c)).2 F s (HT.out.below h) hs.2.2)
    have hrl : (readL (s.area s.c)).2 ≤ (s.area s.c).length := readL_le _
    generalize hS' : s.cut s.c (readL (s.area s.c)).2 = s' at *
    generalize (readL (s.area s.c)).2 = r at *
    generalize (s.area s.c).length = n at *
    clear hT hs hd hS'
    go_enter Try.func16, Try.ntmps16
    go_wp2_with fail
    refine HG.out.mono ?_
    rintro e w1 ⟨rfl, hb1⟩
    have HB1 := Lib.hid hb1
    clear hb1
    go_wp2_with fail
    refine (HS.out w1 HB1.out).mono ?_
    rintro e w2 ⟨rfl, hb2⟩
    have HB2 := Lib.hid (HB1.out.trans (hb2.mono HB1.out.size))
    have hc2 := (HT.out.below HB2.out).counts
    have l2 := lt_of_cell hc2
    clear hb2 HS HG
    go_wp2_with fail
    refine (HC.out w2 HB2.out).mono ?_
    rintro e w3 ⟨rfl, t3, k3⟩
    have hd3 := t3.isDead
    have l3 := lt_of_cell hd3
    have HZ : Hid (TapeAt w3 b (Wider F w w3) s' ∧ Keep F w w3) := ⟨t3.mono (fun k h => h.imp id fun h => ⟨Nat.le_trans HB2.out.size h.1, h.2⟩) (fun k h => h.elim (fun h => t3.lt k (.inl h)) And.right), (Keep.ofBelow HB2.out).trans k3 fun _ _ h => h⟩
    clear t3 k3 HC
    cases hd' : s'.dead
    all_goals
      rw [hd'] at hd3
      have hX' := hX.out
      rw [hd'] at hX'
      simp only [Bool.false_eq_true, if_false, if_true] at hX'
      have HX := Lib.hid hX'
      clear hX hX' hd'
      go_wp2
      go_ret2
      unfold RepP
      rw [HX.out]
      exact ⟨rfl, HZ.out.1, HZ.out.2⟩

end Go.Proofs.Ytdclgmffgidcmaa
