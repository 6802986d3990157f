/- The tape: Crash. -/
import Derived.Test.YtdclgmffgidcmaaCloneWalk
namespace Go.Proofs.Ytdclgmffgidcmaa
set_option linter.unusedSimpArgs false
set_option linter.unusedVariables false
open Go.RowKit

/-- Crash, in plain Lean. -/
def TS.crash (s : TS) : TS := ⟨s.a0, s.a1, s.c, false, 0, false⟩

set_option maxHeartbeats 1000000 in
theorem crash_any (w : World) (b : Nat) (F : Nat → Prop) (s : TS) (hT : TapeAt w b F s) (hs : small s) :
    Calls Try.prog 13 #[.pointer (some ⟨b, 0, none⟩)] w fun e w' => ∃ b', e = .returned (.pointer (some ⟨b', 0, none⟩)) ∧
      TapeAt w' b' (fun k => w.heap.size ≤ k ∧ k < w'.heap.size) s.crash ∧ Below w.heap.size w w' := by
  have hc2 := hT.counts
  have lb := lt_of_cell hc2
  obtain ⟨⟨v0, v1, hb, h0, h1, a0, a1⟩, hm, hlt⟩ := hT
  obtain ⟨hc0, hc1, -⟩ := (tape_cells hb).1
  have hl0 := hs.1
  have hl1 := hs.2.1
  have H0 := Lib.hid h0
  have H1 := Lib.hid h1
  obtain ⟨s0, s1, c, arm, bu, de⟩ := s
  dsimp only at *
  clear h0 h1 hb hs a0 a1 hm hlt
  have hS0 : w.drew.cell? ⟨b, 0, none⟩ = some v0 ∧ w.drew.cell? ⟨b, 1, none⟩ = some v1 ∧ w.drew.cell? ⟨b, 2, none⟩ = some (.int .i64 (c : Int)) := ⟨hc0, hc1, hc2⟩
  go_enter Try.func13, Try.ntmps13
  go_wp2_with fail
  refine till_start (fun w' => w'.cell? ⟨b, 0, none⟩ = some v0 ∧ w'.cell? ⟨b, 1, none⟩ = some v1 ∧ w'.cell? ⟨b, 2, none⟩ = some (.int .i64 (c : Int))) 19 (by kernel_rfl) ?_
  refine till_pure 0 (v := ?_) rfl (by kernel_rfl) (by kernel_rfl) (by kernel_rfl) (by kernel_rfl) (fun _ _ _ h => h) (Or.inl ⟨by rfl, fun w2 _ => ?_⟩) hS0 ?_
  rotate_left
  · go_simp; first | done | with_reducible rfl
  try simp only [Act.put, List.setIfInBounds_toArray, List.set_cons_zero, List.set_cons_succ]
  refine till_pure 1 (v := ?_) rfl (by kernel_rfl) (by kernel_rfl) (by kernel_rfl) (by kernel_rfl) (fun _ _ _ h => h) (Or.inl ⟨by rfl, fun w2 _ => ?_⟩) hS0 ?_
  rotate_left
  · go_simp; first | done | with_reducible rfl
  try simp only [Act.put, List.setIfInBounds_toArray, List.set_cons_zero, List.set_cons_succ]
  refine till_pure 2 (v := ?_) rfl (by kernel_rfl) (by kernel_rfl) (by kernel_rfl) (by kernel_rfl) (fun _ _ _ h => h) (Or.inl ⟨by rfl, fun w2 _ => ?_⟩) hS0 ?_
  rotate_left
  · go_simp; first | done | with_reducible rfl
  try simp only [Act.put, List.setIfInBounds_toArray, List.set_cons_zero, List.set_cons_succ]
  refine till_pure 3 (v := ?_) rfl (by kernel_rfl) (by kernel_rfl) (by kernel_rfl) (by kernel_rfl) (fun _ _ _ h => h) (Or.inl ⟨by rfl, fun w2 _ => ?_⟩) hS0 ?_
  rotate_left
  · go_simp; first | done | with_reducible rfl
  try simp only [Act.put, List.setIfInBounds_toArray, List.set_cons_zero, List.set_cons_succ]
  refine till_take 4 (v := ?_) rfl (by kernel_rfl) (by kernel_rfl) (by kernel_rfl) (by kernel_rfl) (by kernel_rfl) (by kernel_rfl) (fun _ _ _ h => h) (Or.inl ⟨by rfl, fun w2 hS => ?_⟩) hS0 ?_
  rotate_left
  · obtain ⟨s0, s1, s2⟩ := hS; go_simp; first | done | with_reducible rfl
  try simp only [Act.put, List.setIfInBounds_toArray, List.set_cons_zero, List.set_cons_succ]
  refine till_pure 6 (v := ?_) rfl (by kernel_rfl) (by kernel_rfl) (by kernel_rfl) (by kernel_rfl) (fun _ _ _ h => h) (Or.inl ⟨by rfl, fun w2 _ => ?_⟩) hS0 ?_
  rotate_left
  · go_simp; first | done | with_reducible rfl
  try simp only [Act.put, List.setIfInBounds_toArray, List.set_cons_zero, List.set_cons_succ]
  refine till_pure 7 (v := ?_) rfl (by kernel_rfl) (by kernel_rfl) (by kernel_rfl) (by kernel_rfl) (fun _ _ _ h => h) (Or.inl ⟨by rfl, fun w2 _ => ?_⟩) hS0 ?_
  rotate_left
  · go_simp; first | done | with_reducible rfl
  try simp only [Act.put, List.setIfInBounds_toArray, List.set_cons_zero, List.set_cons_succ]
  refine till_pure 8 (v := ?_) rfl (by kernel_rfl) (by kernel_rfl) (by kernel_rfl) (by kernel_rfl) (fun _ _ _ h => h) (Or.inl ⟨by rfl, fun w2 _ => ?_⟩) hS0 ?_
  rotate_left
  · go_simp; first | done | with_reducible rfl
  try simp only [Act.put, List.setIfInBounds_toArray, List.set_cons_zero, List.set_cons_succ]
  refine till_pure 9 (v := ?_) rfl (by kernel_rfl) (by kernel_rfl) (by kernel_rfl) (by kernel_rfl) (fun _ _ _ h => h) (Or.inl ⟨by rfl, fun w2 _ => ?_⟩) hS0 ?_
  rotate_left
  · go_simp; first | done | with_reducible rfl
  try simp only [Act.put, List.setIfInBounds_toArray, List.set_cons_zero, List.set_cons_succ]
  refine till_take 10 (v := ?_) rfl (by kernel_rfl) (by kernel_rfl) (by kernel_rfl) (by kernel_rfl) (by kernel_rfl) (by kernel_rfl) (fun _ _ _ h => h) (Or.inl ⟨by rfl, fun w2 hS => ?_⟩) hS0 ?_
  rotate_left
  · obtain ⟨s0, s1, s2⟩ := hS; go_simp; first | done | with_reducible rfl
  try simp only [Act.put, List.setIfInBounds_toArray, List.set_cons_zero, List.set_cons_succ]
  refine till_pure 13 (v := ?_) rfl (by kernel_rfl) (by kernel_rfl) (by kernel_rfl) (by kernel_rfl) (fun _ _ _ h => h) (Or.inl ⟨by rfl, fun w2 _ => ?_⟩) hS0 ?_
  rotate_left
  · go_simp; first | done | with_reducible rfl
  try simp only [Act.put, List.setIfInBounds_toArray, List.set_cons_zero, List.set_cons_succ]
  refine till_pure 14 (v := ?_) rfl (by kernel_rfl) (by kernel_rfl) (by kernel_rfl) (by kernel_rfl) (fun _ _ _ h => h) (Or.inl ⟨by rfl, fun w2 _ => ?_⟩) hS0 ?_
  rotate_left
  · go_simp; first | done | with_reducible rfl
  try simp only [Act.put, List.setIfInBounds_toArray, List.set_cons_zero, List.set_cons_succ]
  refine till_pure 15 (v := ?_) rfl (by kernel_rfl) (by kernel_rfl) (by kernel_rfl) (by kernel_rfl) (fun _ _ _ h => h) (Or.inl ⟨by rfl, fun w2 _ => ?_⟩) hS0 ?_
  rotate_left
  · go_simp; first | done | with_reducible rfl
  try simp only [Act.put, List.setIfInBounds_toArray, List.set_cons_zero, List.set_cons_succ]
  refine till_take 16 (v := ?_) rfl (by kernel_rfl) (by kernel_rfl) (by kernel_rfl) (by kernel_rfl) (by kernel_rfl) (by kernel_rfl) (fun _ _ _ h => h) (Or.inl ⟨by rfl, fun w2 hS => ?_⟩) hS0 ?_
  rotate_left
  · obtain ⟨s0, s1, s2⟩ := hS; go_simp; first | done | with_reducible rfl
  try simp only [Act.put, List.setIfInBounds_toArray, List.set_cons_zero, List.set_cons_succ]
  refine till_step 5 (by kernel_rfl) rfl (fun K hK => ?_)
  go_simp
  refine (clone_any _ v0 s0 H0.out.drew (Nat.le_trans hl0 (by decide))).mono ?_
  rintro e w1 ⟨v0', rfl, ho0, hb1, hn0⟩
  obtain ⟨p0, k0, rfl⟩ := own_slice ho0
  have hbc := (bcell hb1).1
  have hS1 : w1.cell? ⟨b, 0, none⟩ = some v0 ∧ w1.cell? ⟨b, 1, none⟩ = some v1 ∧ w1.cell? ⟨b, 2, none⟩ = some (.int .i64 (c : Int)) := ⟨(hbc _ _ lb).trans hc0, (hbc _ _ lb).trans hc1, (hbc _ _ lb).trans hc2⟩
  go_simp
  refine hK.out _ _ (fun _ => hS1) ?_
  clear hK K
  try simp only [Act.put, List.setIfInBounds_toArray, List.set_cons_zero, List.set_cons_succ]
  refine till_step 11 (by kernel_rfl) rfl (fun K hK => ?_)
  go_simp
  refine (clone_any _ v1 s1 (H1.out.drew.below hb1) (Nat.le_trans hl1 (by decide))).mono ?_
  rintro e w2 ⟨v1', rfl, ho1, hb2, hn1⟩
  obtain ⟨p1, k1, rfl⟩ := own_slice ho1
  have hB2 := hb1.trans (hb2.mono hb1.size)
  have hbc2 := (bcell hB2).1
  have hS2 : w2.cell? ⟨b, 0, none⟩ = some v0 ∧ w2.cell? ⟨b, 1, none⟩ = some v1 ∧ w2.cell? ⟨b, 2, none⟩ = some (.int .i64 (c : Int)) := ⟨(hbc2 _ _ lb).trans hc0, (hbc2 _ _ lb).trans hc1, (hbc2 _ _ lb).trans hc2⟩
  go_simp
  refine hK.out _ _ (fun _ => hS2) ?_
  clear hK K
  try simp only [Act.put, List.setIfInBounds_toArray, List.set_cons_zero, List.set_cons_succ]
  refine till_pure 12 (v := ?_) rfl (by kernel_rfl) (by kernel_rfl) (by kernel_rfl) (by kernel_rfl) (fun _ _ _ h => h) (Or.inl ⟨by rfl, fun w2 _ => ?_⟩) hS2 ?_
  rotate_left
  · go_simp; first | done | with_reducible rfl
  try simp only [Act.put, List.setIfInBounds_toArray, List.set_cons_zero, List.set_cons_succ]
  refine till_pure 17 (v := ?_) rfl (by kernel_rfl) (by kernel_rfl) (by kernel_rfl) (by kernel_rfl) (fun _ _ _ h => h) (Or.inl ⟨by rfl, fun w2 _ => ?_⟩) hS2 ?_
  rotate_left
  · go_simp; first | done | with_reducible rfl
  try simp only [Act.put, List.setIfInBounds_toArray, List.set_cons_zero, List.set_cons_succ]
  refine till_step 18 (by kernel_rfl) rfl (fun K hK => ?_)
  go_simp
  refine hK.out _ _ (fun _ => ⟨(World.cell?_of_block (Below.heap_alloc w2 _ b (lt_of_cell hS2.1))).trans hS2.1, (World.cell?_of_block (Below.heap_alloc w2 _ b (lt_of_cell hS2.1))).trans hS2.2.1, (World.cell?_of_block (Below.heap_alloc w2 _ b (lt_of_cell hS2.1))).trans hS2.2.2⟩) ?_
  clear hK K
  try simp only [Act.put, List.setIfInBounds_toArray, List.set_cons_zero, List.set_cons_succ]
  refine till_step 19 (by kernel_rfl) rfl (fun K hK => ?_)
  go_simp
  refine hK.out _ _ (fun h => absurd (h.symm.trans (show _ = true from by kernel_rfl)) Bool.false_ne_true) ?_
  clear hK K
  try simp only [Act.put, List.setIfInBounds_toArray, List.set_cons_zero, List.set_cons_succ]
  refine till_done (by kernel_rfl) ?_ _
  go_wp2_with fail
  refine bodyPost_ret (v := .pointer (some ⟨w2.heap.size, 0, none⟩)) (by simp [results, Try.results13, go_sem]) rfl ⟨_, rfl, ?_, ?_⟩
  · have l0 := ho0.lt
    have l1 := ho1.lt
    have z1 := hb1.size
    have z2 := hb2.size
    rw [heap_drew] at hn0 z1
    refine ⟨⟨.slice p0 s0.length k0, .slice p1 s1.length k1, heap_alloc_new w2 _, (ho0.below hb2).alloc _, ho1.alloc _, fun k e => ?_, fun k e => ?_⟩, ?_, fun k h => h.2⟩
    · have q1 := hn0 k e
      have q2 := l0 k e
      refine ⟨⟨q1, ?_⟩, by omega⟩
      simp; omega
    · have q1 := hn1 k e
      have q2 := l1 k e
      refine ⟨⟨by omega, ?_⟩, by omega, fun e' => ?_⟩
      · simp; omega
      · have := l0 k e'; omega
    · refine ⟨by omega, ?_⟩
      simp
  · exact (⟨hB2.os, hB2.tape, hB2.output, hB2.size, hB2.block⟩ : Below w.heap.size w w2).alloc hB2.size _

end Go.Proofs.Ytdclgmffgidcmaa
