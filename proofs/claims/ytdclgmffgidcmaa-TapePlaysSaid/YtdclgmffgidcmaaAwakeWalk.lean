/- awake of stillagelaw19. -/
import Derived.Test.YtdclgmffgidcmaaMine
namespace Go.Proofs.Ytdclgmffgidcmaa
set_option linter.unusedSimpArgs false
set_option linter.unusedVariables false
open Go.RowKit

def nOne : Nt := ⟨3, 1, 0, 0⟩
def tsArm : TS := ⟨[], [], 0, true, 4, false⟩
def tsCut : TS := ⟨(encB nOne).take 4, [], 0, false, 0, false⟩
def tsNew : TS := ⟨[], [], 0, false, -1, false⟩
theorem aw1 : (tsArm.append [nOne]).2 = 190 := by kernel_rfl
theorem aw2 : (tsArm.append [nOne]).1.crash = tsCut := by kernel_rfl
theorem aw3 : (tsCut.area 0).length = 4 := by kernel_rfl
theorem aw4 : (readL (tsCut.area 0)).1.length = 0 := by kernel_rfl
theorem aw5 : tsCut.repair = (tsNew, 4, 0) := by kernel_rfl
theorem aw6 : (tsNew.append [nOne]).2 = 0 := by kernel_rfl
theorem aw7 : (readL ((tsNew.append [nOne]).1.area 0)).1.length = 1 := by kernel_rfl
theorem aw8 : (tsNew.append [nOne]).1.c = 0 := by kernel_rfl
theorem aw9 : small (tsNew.append [nOne]).1 :=
  ⟨by rw [show (tsNew.append [nOne]).1.a0.length = 5 by kernel_rfl]; decide, by rw [show (tsNew.append [nOne]).1.a1.length = 0 by kernel_rfl]; decide, .inl aw8⟩
theorem small_lit (s : TS) (h0 : s.a0.length ≤ 5) (h1 : s.a1.length ≤ 5) (hc : s.c = 0) : small s := ⟨by omega, by omega, .inl hc⟩

/-- A call with one note in a new block. -/
theorem one_rd (w : World) (t : TypeId) : Rd (w.alloc (.cells #[.int .i64 3, .int .i64 1, .int .i64 0, .int .i64 0] t)) 4 [nOne].length (.slice (some ⟨w.heap.size, 0, none⟩) 1 1) (cellsL [nOne]) :=
  (own_new (w := w) (e := t) (cellsL [nOne]) (sz := 4) (n := 1) rfl (by unfold maxLen; omega)).rd

theorem aw10 : (tsNew.append [nOne]).1.area (tsNew.append [nOne]).1.c = (tsNew.append [nOne]).1.area 0 := by rw [aw8]
theorem aw11 : small (tsArm.append [nOne]).1 :=
  ⟨by rw [show (tsArm.append [nOne]).1.a0.length = 4 by kernel_rfl]; decide, by rw [show (tsArm.append [nOne]).1.a1.length = 0 by kernel_rfl]; decide, .inl (by kernel_rfl)⟩
theorem aw12 : small tsCut := ⟨by rw [show tsCut.a0.length = 4 by kernel_rfl]; decide, by rw [show tsCut.a1.length = 0 by kernel_rfl]; decide, .inl rfl⟩

set_option maxHeartbeats 1000000 in
theorem awake_any (w : World) : Calls Try.prog 10 #[] w fun e w' => e = .returned (.bool true) ∧ Below w.heap.size w w' := by
  have HN := Lib.hid (mine_new w w.heap.size (Nat.le_refl _))
  go_enter Try.func10, Try.ntmps10
  go_wp2_with fail
  refine HN.out.mono ?_
  rintro e w1 ⟨rfl, t1, hb1⟩
  have HB1 := Lib.hid hb1
  have HA := Lib.hid (mine_arm t1 4 rfl (by decide))
  clear hb1 t1 HN
  go_wp2_with fail
  refine HA.out.mono ?_
  rintro e w2 ⟨rfl, t2, hb2⟩
  have HB2 := Lib.hid (HB1.out.trans hb2)
  have HA2 := Lib.hid (fun q => (mine_append (s := tsArm) (t2.over (Below.alloc1 w2 (.cells #[.int .i64 3, .int .i64 1, .int .i64 0, .int .i64 0] q))) [nOne] _ (small_lit _ (by decide) (by decide) rfl) (one_rd w2 q).ns (by decide)))
  clear t2 hb2 HA HB1
  go_wp2_with fail
  refine (HA2.out _).mono ?_
  rintro e w3 ⟨rfl, t3, -, hb3⟩
  rw [aw1]
  have HB3 := Lib.hid ((HB2.out.alloc HB2.out.size _).trans hb3)
  have HC := Lib.hid (mine_crash t3 aw11)
  rw [aw2] at HC
  clear t3 hb3 HA2 HB2
  go_wp2_with fail
  refine HC.out.mono ?_
  rintro e w4 ⟨c, rfl, t4, -, -, hb4⟩
  have HB4 := Lib.hid (HB3.out.trans hb4)
  have t4 := t4.cut HB3.out.size
  have HS := Lib.hid (mine_size t4 aw12)
  rw [show ((tsCut.area tsCut.c).length : Int) = 4 by kernel_rfl] at HS
  clear t4 hb4 HC HB3
  go_wp2_with fail
  refine HS.out.mono ?_
  rintro e w5 ⟨rfl, t5, hb5⟩
  have HB5 := Lib.hid (HB4.out.trans hb5)
  have HR := Lib.hid (mine_read t5 aw12)
  rw [show (readL (tsCut.area tsCut.c)).1.length = 0 by kernel_rfl] at HR
  clear t5 hb5 HS HB4
  go_wp2_with fail
  refine HR.out.mono ?_
  rintro e w6 ⟨p, cap, rfl, -, t6, -, hb6, -⟩
  have HB6 := Lib.hid (HB5.out.trans hb6)
  have HP := Lib.hid (mine_repair t6 aw12)
  rw [aw5] at HP
  clear t6 hb6 HR HB5
  go_wp2_with fail
  refine HP.out.mono ?_
  rintro e w7 ⟨rfl, t7, hb7⟩
  have HB7 := Lib.hid (HB6.out.trans hb7)
  have HA7 := Lib.hid (fun q => (mine_append (s := tsNew) (t7.over (Below.alloc1 w7 (.cells #[.int .i64 3, .int .i64 1, .int .i64 0, .int .i64 0] q))) [nOne] _ (small_lit _ (by decide) (by decide) rfl) (one_rd w7 q).ns (by decide)))
  clear t7 hb7 HP HB6
  go_wp2_with fail
  refine (HA7.out _).mono ?_
  rintro e w8 ⟨rfl, t8, -, hb8⟩
  rw [aw6]
  have HB8 := Lib.hid ((HB7.out.alloc HB7.out.size _).trans hb8)
  have HR8 := Lib.hid (mine_read t8 aw9)
  rw [aw10, aw7] at HR8
  clear t8 hb8 HA7 HB7
  go_wp2_with fail
  refine HR8.out.mono ?_
  rintro e w9 ⟨p, cap, rfl, -, t9, -, hb9, -⟩
  have HB9 := Lib.hid (HB8.out.trans hb9)
  clear t9 hb9 HR8 HB8
  go_wp2
  go_ret
  exact ⟨rfl, HB9.out⟩

end Go.Proofs.Ytdclgmffgidcmaa
