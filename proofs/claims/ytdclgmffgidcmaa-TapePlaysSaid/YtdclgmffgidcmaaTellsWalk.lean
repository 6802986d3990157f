/- Tells: what the tape tells is the reference's. -/
import Derived.Test.YtdclgmffgidcmaaArmWalk
import Derived.RegionTactic
import Derived.ChangeAlike
import Derived.Deep.RegionHeld3
namespace Go.Proofs.Ytdclgmffgidcmaa
set_option linter.unusedSimpArgs false
set_option linter.unusedVariables false
open Go.RowKit

set_option maxHeartbeats 1000000 in
theorem tells_any {w : World} {B b : Nat} {F : Nat → Prop} {s : TS} {r : RT} (hT : TapeB B w b F s) (hs : Sim s r) :
    Calls Try.prog 25 #[.pointer (some ⟨b, 0, none⟩), r.val] w fun e w' => e = .returned (.bool true) ∧ Below w.heap.size w w' := by
  have hfit := hs.fit
  have hL := hfit.area s.c
  obtain ⟨now, other, bu, de⟩ := r
  have hnow := hs.now
  dsimp only at hnow
  unfold RT.val
  dsimp only
  rw [← hnow] at hL
  obtain ⟨cap, w1, hrun, hrd, hb⟩ := conv_bytes (w.alloc (.cells #[.string (str now), .string (str other), .int .i64 bu, .bool de] 42)) now (by omega)
  rw [show (w.alloc (.cells #[.string (str now), .string (str other), .int .i64 bu, .bool de] 42)).heap.size = w.heap.size + 1 by simp] at hrun hrd
  have HR := Lib.hid (rread_any _ now w1 hrd (by omega))
  have HB := Lib.hid (((Below.alloc1 w _).trans (hb.mono (by simp))) : Below w.heap.size w w1)
  have hbox : w1.cell? ⟨w.heap.size, 0, none⟩ = some (.string (str now)) := by
    have h := hb.block w.heap.size (by simp)
    rw [heap_alloc_new] at h
    rw [cell_of_row w1 _ _ _ _ _ h]; rfl
  have HT := Lib.hid hT
  have hsz := str_size now
  have HN := Lib.hid hnow
  have lb := lt_of_cell hT.1.isDead
  clear hrd hb hs hT hnow
  go_enter Try.func25, Try.ntmps25
  go_wp2_with fail
  refine HR.out.mono ?_
  rintro e w2 ⟨v', rfl, ho, hb2, hn2⟩
  obtain ⟨p2, c2, rfl⟩ := own_slice ho
  have HB2 := Lib.hid (HB.out.trans (hb2.mono HB.out.size))
  have HO := Lib.hid ho.rd.ns
  have hbox2 : w2.cell? ⟨w.heap.size, 0, none⟩ = some (.string (str now)) := (World.cell?_of_block (a := ⟨w.heap.size, 0, none⟩) (hb2.block _ (lt_of_cell hbox))).trans hbox
  clear hb2 HR ho hn2 HB hbox
  go_wp2_with fail
  have HSZ : Hid (∀ wq (hq : Below w.heap.size w wq), Calls Try.prog 17 #[.pointer (some ⟨b, 0, none⟩)] wq fun e w' => e = .returned (.int .i64 (now.length : Int)) ∧ TapeB B w' b F s ∧ Below wq.heap.size wq w') := by
    intro wq hq
    have h := tb_size (HT.out.over hq) hfit
    rw [← HN.out] at h
    exact h
  have hq1 : ((now.length : Int) == (now.length : Int)) = true := by simp
  have HRD : Hid (∀ wq (hq : Below w.heap.size w wq), Calls Try.prog 14 #[.pointer (some ⟨b, 0, none⟩)] wq fun e w' => ∃ p cap, e = .returned (.slice p (readL now).1.length cap) ∧
      Ns w' (.slice p (readL now).1.length cap) (readL now).1 ∧ Below wq.heap.size wq w') := by
    intro wq hq
    have h := tb_read (HT.out.over hq) hfit
    rw [← HN.out] at h
    refine h.mono ?_
    rintro e w' ⟨p, c, rfl, ho, -, hb⟩
    exact ⟨p, c, rfl, ho.1.rd.ns, hb⟩
  generalize (readL now).1 = LL at *
  generalize (readL now).2 = RR at *
  have HSM : Hid (∀ v1 v2 wq, Ns wq v1 LL → Ns wq v2 LL → Calls Try.prog 15 #[v1, v2] wq fun e w' => e = .returned (.bool true) ∧ Below wq.heap.size wq w') := by
    intro v1 v2 wq h1 h2
    have h := same_any v1 v2 LL LL wq h1 h2
    rw [decide_eq_true (rfl : LL = LL)] at h
    exact h
  go_region_held3 (fun w' => w'.cell? ⟨w.heap.size, 0, none⟩ = some (.string (str now))) (go_keep) (first
    | (go_at_call 17; refine (HSZ.out _ (HB2.out.trans ((below_drew1 w2).mono HB2.out.size))).mono ?_; rintro e w3 ⟨rfl, -, hb3⟩; have hb3 := below_undrew hb3; have hbox3 : w3.cell? ⟨w.heap.size, 0, none⟩ = some (.string (str now)) := (World.cell?_of_block (a := ⟨w.heap.size, 0, none⟩) (hb3.block _ (lt_of_cell hbox2))).trans hbox2; have HO3 := Lib.hid (HO.out.below hb3); have HB3 := Lib.hid (HB2.out.trans (hb3.mono HB2.out.size)); clear hb3)
    | (go_at_call 14; refine (HRD.out _ HB3.out).mono ?_; rintro e w4 ⟨p4, c4, rfl, ho4, hb4⟩; have hbox4 : w4.cell? ⟨w.heap.size, 0, none⟩ = some (.string (str now)) := (World.cell?_of_block (a := ⟨w.heap.size, 0, none⟩) (hb4.block _ (lt_of_cell hbox3))).trans hbox3; have HO4 := Lib.hid (HO3.out.below hb4); have HP4 := Lib.hid ho4; have HB4 := Lib.hid (HB3.out.trans (hb4.mono HB3.out.size)); clear hb4 ho4)
    | (go_at_call 15; refine (HSM.out _ _ _ HP4.out HO4.out).mono ?_; rintro e w5 ⟨rfl, hb5⟩; have hbox5 : w5.cell? ⟨w.heap.size, 0, none⟩ = some (.string (str now)) := (World.cell?_of_block (a := ⟨w.heap.size, 0, none⟩) (hb5.block _ (lt_of_cell hbox4))).trans hbox4; have HB5 := Lib.hid (HB4.out.trans (hb5.mono HB4.out.size)); clear hb5))
  all_goals
    go_wp2
    go_ret
    exact ⟨rfl, HB5.out⟩
end Go.Proofs.Ytdclgmffgidcmaa
