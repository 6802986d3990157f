/- The tape: good, Read. -/
import Derived.Test.YtdclgmffgidcmaaSizeWalk
import Derived.Test.YtdclgmffgidcmaaRegion
namespace Go.Proofs.Ytdclgmffgidcmaa
set_option linter.unusedSimpArgs false
set_option linter.unusedVariables false
open Go.RowKit

/-- Own's size: a bound of an area. -/
def small (s : TS) : Prop := s.a0.length ≤ 2 ^ 17 ∧ s.a1.length ≤ 2 ^ 17 ∧ (s.c = 0 ∨ s.c = 1)
theorem small_area {s : TS} (h : small s) (k : Nat) : (s.area k).length ≤ 2 ^ 17 := by
  unfold TS.area; split
  · exact h.1
  · exact h.2.1

theorem _root_.Go.RowKit.Below.ofDrew1 {w w1 : World} (h : Below (w.drewN 1).heap.size (w.drewN 1) w1) : Below w.heap.size w w1 := ⟨h.os, h.tape, h.output, h.size, h.block⟩

set_option maxHeartbeats 1000000 in
theorem good_any (w : World) (b : Nat) (F : Nat → Prop) (s : TS) (hT : TapeAt w b F s) (hs : small s) :
    Calls Try.prog 27 #[.pointer (some ⟨b, 0, none⟩)] w fun e w' => e = .returned (.int .i64 ((readL (s.area s.c)).2 : Int)) ∧ Below w.heap.size w w' := by
  obtain ⟨v, hv, ho, -⟩ := hT.area hs.2.2
  have hlen := small_area hs s.c
  have h2 := hT.counts
  have lb := lt_of_cell h2
  have hc := hs.2.2
  have HR := Lib.hid (fun q => read_any v (s.area s.c) (w.drewN q) (ho.keep fun _ _ _ => rfl).rd (Nat.le_trans hlen (by decide)))
  generalize s.area s.c = L at *
  generalize s.c = c at *
  clear hT ho hs hlen
  rcases hc with rfl | rfl
  all_goals
    go_enter Try.func27, Try.ntmps27
    go_wp2_with fail
    refine till_start (fun _ => True) 99 (by kernel_rfl) ?_
    refine till_pure 0 (v := ?_) rfl (by kernel_rfl) (by kernel_rfl) (by kernel_rfl) (by kernel_rfl) (fun _ _ _ h => h) (Or.inl ⟨by rfl, fun w2 _ => ?_⟩) trivial ?_
    rotate_left
    · go_simp; first | done | with_reducible rfl
    try simp only [Act.put, List.setIfInBounds_toArray, List.set_cons_zero, List.set_cons_succ]
    refine till_pure 5 (v := ?_) rfl (by kernel_rfl) (by kernel_rfl) (by kernel_rfl) (by kernel_rfl) (fun _ _ _ h => h) (Or.inl ⟨by rfl, fun w2 _ => ?_⟩) trivial ?_
    rotate_left
    · go_simp; first | done | with_reducible rfl
    try simp only [Act.put, List.setIfInBounds_toArray, List.set_cons_zero, List.set_cons_succ]
    refine till_pure 6 (v := ?_) rfl (by kernel_rfl) (by kernel_rfl) (by kernel_rfl) (by kernel_rfl) (fun _ _ _ h => h) (Or.inl ⟨by rfl, fun w2 _ => ?_⟩) trivial ?_
    rotate_left
    · go_simp; first | done | with_reducible rfl
    try simp only [Act.put, List.setIfInBounds_toArray, List.set_cons_zero, List.set_cons_succ]
    refine till_pure 1 (v := ?_) rfl (by kernel_rfl) (by kernel_rfl) (by kernel_rfl) (by kernel_rfl) (fun _ _ _ h => h) (Or.inl ⟨by rfl, fun w2 _ => ?_⟩) trivial ?_
    rotate_left
    · go_simp; first | done | with_reducible rfl
    try simp only [Act.put, List.setIfInBounds_toArray, List.set_cons_zero, List.set_cons_succ]
    refine till_pure 2 (v := ?_) rfl (by kernel_rfl) (by kernel_rfl) (by kernel_rfl) (by kernel_rfl) (fun _ _ _ h => h) (Or.inl ⟨by rfl, fun w2 _ => ?_⟩) trivial ?_
    rotate_left
    · go_simp; first | done | with_reducible rfl
    try simp only [Act.put, List.setIfInBounds_toArray, List.set_cons_zero, List.set_cons_succ]
    refine till_pure 3 (v := ?_) rfl (by kernel_rfl) (by kernel_rfl) (by kernel_rfl) (by kernel_rfl) (fun _ _ _ h => h) (Or.inl ⟨by rfl, fun w2 _ => ?_⟩) trivial ?_
    rotate_left
    · go_simp; first | done | with_reducible rfl
    try simp only [Act.put, List.setIfInBounds_toArray, List.set_cons_zero, List.set_cons_succ]
    refine till_step 4 (by kernel_rfl) rfl (fun K hK => ?_)
    go_simp
    refine hK.out _ _ (fun _ => trivial) ?_
    clear hK K
    try simp only [Act.put, List.setIfInBounds_toArray, List.set_cons_zero, List.set_cons_succ]
    refine till_pure 7 (v := ?_) rfl (by kernel_rfl) (by kernel_rfl) (by kernel_rfl) (by kernel_rfl) (fun _ _ _ h => h) (Or.inl ⟨by rfl, fun w2 _ => ?_⟩) trivial ?_
    rotate_left
    · go_simp; first | done | with_reducible rfl
    try simp only [Act.put, List.setIfInBounds_toArray, List.set_cons_zero, List.set_cons_succ]
    refine till_step 8 (by kernel_rfl) rfl (fun K hK => ?_)
    go_simp
    refine hK.out _ _ (fun _ => trivial) ?_
    clear hK K
    try simp only [Act.put, List.setIfInBounds_toArray, List.set_cons_zero, List.set_cons_succ]
    refine till_step 9 (by kernel_rfl) rfl (fun K hK => ?_)
    go_simp
    refine (HR.out _).mono ?_
    rintro e w1 ⟨v', rfl, ho1, hb1, hn1⟩
    go_simp
    refine hK.out _ _ (fun _ => trivial) ?_
    clear hK K
    try simp only [Act.put, List.setIfInBounds_toArray, List.set_cons_zero, List.set_cons_succ]
    refine till_pure 10 (v := ?_) rfl (by kernel_rfl) (by kernel_rfl) (by kernel_rfl) (by kernel_rfl) (fun _ _ _ h => h) (Or.inl ⟨by rfl, fun w2 _ => ?_⟩) trivial ?_
    rotate_left
    · go_simp; first | done | with_reducible rfl
    try simp only [Act.put, List.setIfInBounds_toArray, List.set_cons_zero, List.set_cons_succ]
    refine till_pure 11 (v := ?_) rfl (by kernel_rfl) (by kernel_rfl) (by kernel_rfl) (by kernel_rfl) (fun _ _ _ h => h) (Or.inl ⟨by rfl, fun w2 _ => ?_⟩) trivial ?_
    rotate_left
    · go_simp; first | done | with_reducible rfl
    try simp only [Act.put, List.setIfInBounds_toArray, List.set_cons_zero, List.set_cons_succ]
    refine till_pure 12 (v := ?_) rfl (by kernel_rfl) (by kernel_rfl) (by kernel_rfl) (by kernel_rfl) (fun _ _ _ h => h) (Or.inl ⟨by rfl, fun w2 _ => ?_⟩) trivial ?_
    rotate_left
    · go_simp; first | done | with_reducible rfl
    try simp only [Act.put, List.setIfInBounds_toArray, List.set_cons_zero, List.set_cons_succ]
    refine till_pure 13 (v := ?_) rfl (by kernel_rfl) (by kernel_rfl) (by kernel_rfl) (by kernel_rfl) (fun _ _ _ h => h) (Or.inl ⟨by rfl, fun w2 _ => ?_⟩) trivial ?_
    rotate_left
    · go_simp; first | done | with_reducible rfl
    try simp only [Act.put, List.setIfInBounds_toArray, List.set_cons_zero, List.set_cons_succ]
    refine till_pure 14 (v := ?_) rfl (by kernel_rfl) (by kernel_rfl) (by kernel_rfl) (by kernel_rfl) (fun _ _ _ h => h) (Or.inl ⟨by rfl, fun w2 _ => ?_⟩) trivial ?_
    rotate_left
    · go_simp; first | done | with_reducible rfl
    try simp only [Act.put, List.setIfInBounds_toArray, List.set_cons_zero, List.set_cons_succ]
    refine till_done (by kernel_rfl) ?_ _
    go_wp2_with fail
    refine bodyPost_ret (v := .int .i64 ((readL L).2 : Int)) (by simp [results, Try.results27, go_sem]) rfl ⟨rfl, hb1.ofDrew1⟩

set_option maxHeartbeats 1000000 in
theorem tread_any (w : World) (b : Nat) (F : Nat → Prop) (s : TS) (hT : TapeAt w b F s) (hs : small s) :
    Calls Try.prog 14 #[.pointer (some ⟨b, 0, none⟩)] w fun e w' => ∃ v', e = .returned v' ∧ Own w' 37 4 (readL (s.area s.c)).1.length v' (cellsL (readL (s.area s.c)).1) ∧ Below w.heap.size w w' ∧ ∀ b, v'.ownBlock = some b → w.heap.size ≤ b := by
  obtain ⟨v, hv, ho, -⟩ := hT.area hs.2.2
  have hlen := small_area hs s.c
  have h2 := hT.counts
  have lb := lt_of_cell h2
  have hc := hs.2.2
  have HR := Lib.hid (fun q => read_any v (s.area s.c) (w.drewN q) (ho.keep fun _ _ _ => rfl).rd (Nat.le_trans hlen (by decide)))
  generalize s.area s.c = L at *
  generalize s.c = c at *
  clear hT ho hs hlen
  rcases hc with rfl | rfl
  all_goals
    go_enter Try.func14, Try.ntmps14
    go_wp2_with fail
    refine till_start (fun _ => True) 99 (by kernel_rfl) ?_
    refine till_pure 0 (v := ?_) rfl (by kernel_rfl) (by kernel_rfl) (by kernel_rfl) (by kernel_rfl) (fun _ _ _ h => h) (Or.inl ⟨by rfl, fun w2 _ => ?_⟩) trivial ?_
    rotate_left
    · go_simp; first | done | with_reducible rfl
    try simp only [Act.put, List.setIfInBounds_toArray, List.set_cons_zero, List.set_cons_succ]
    refine till_pure 5 (v := ?_) rfl (by kernel_rfl) (by kernel_rfl) (by kernel_rfl) (by kernel_rfl) (fun _ _ _ h => h) (Or.inl ⟨by rfl, fun w2 _ => ?_⟩) trivial ?_
    rotate_left
    · go_simp; first | done | with_reducible rfl
    try simp only [Act.put, List.setIfInBounds_toArray, List.set_cons_zero, List.set_cons_succ]
    refine till_pure 6 (v := ?_) rfl (by kernel_rfl) (by kernel_rfl) (by kernel_rfl) (by kernel_rfl) (fun _ _ _ h => h) (Or.inl ⟨by rfl, fun w2 _ => ?_⟩) trivial ?_
    rotate_left
    · go_simp; first | done | with_reducible rfl
    try simp only [Act.put, List.setIfInBounds_toArray, List.set_cons_zero, List.set_cons_succ]
    refine till_pure 1 (v := ?_) rfl (by kernel_rfl) (by kernel_rfl) (by kernel_rfl) (by kernel_rfl) (fun _ _ _ h => h) (Or.inl ⟨by rfl, fun w2 _ => ?_⟩) trivial ?_
    rotate_left
    · go_simp; first | done | with_reducible rfl
    try simp only [Act.put, List.setIfInBounds_toArray, List.set_cons_zero, List.set_cons_succ]
    refine till_pure 2 (v := ?_) rfl (by kernel_rfl) (by kernel_rfl) (by kernel_rfl) (by kernel_rfl) (fun _ _ _ h => h) (Or.inl ⟨by rfl, fun w2 _ => ?_⟩) trivial ?_
    rotate_left
    · go_simp; first | done | with_reducible rfl
    try simp only [Act.put, List.setIfInBounds_toArray, List.set_cons_zero, List.set_cons_succ]
    refine till_pure 3 (v := ?_) rfl (by kernel_rfl) (by kernel_rfl) (by kernel_rfl) (by kernel_rfl) (fun _ _ _ h => h) (Or.inl ⟨by rfl, fun w2 _ => ?_⟩) trivial ?_
    rotate_left
    · go_simp; first | done | with_reducible rfl
    try simp only [Act.put, List.setIfInBounds_toArray, List.set_cons_zero, List.set_cons_succ]
    refine till_step 4 (by kernel_rfl) rfl (fun K hK => ?_)
    go_simp
    refine hK.out _ _ (fun _ => trivial) ?_
    clear hK K
    try simp only [Act.put, List.setIfInBounds_toArray, List.set_cons_zero, List.set_cons_succ]
    refine till_pure 7 (v := ?_) rfl (by kernel_rfl) (by kernel_rfl) (by kernel_rfl) (by kernel_rfl) (fun _ _ _ h => h) (Or.inl ⟨by rfl, fun w2 _ => ?_⟩) trivial ?_
    rotate_left
    · go_simp; first | done | with_reducible rfl
    try simp only [Act.put, List.setIfInBounds_toArray, List.set_cons_zero, List.set_cons_succ]
    refine till_step 8 (by kernel_rfl) rfl (fun K hK => ?_)
    go_simp
    refine hK.out _ _ (fun _ => trivial) ?_
    clear hK K
    try simp only [Act.put, List.setIfInBounds_toArray, List.set_cons_zero, List.set_cons_succ]
    refine till_step 9 (by kernel_rfl) rfl (fun K hK => ?_)
    go_simp
    refine (HR.out _).mono ?_
    rintro e w1 ⟨v', rfl, ho1, hb1, hn1⟩
    go_simp
    refine hK.out _ _ (fun _ => trivial) ?_
    clear hK K
    try simp only [Act.put, List.setIfInBounds_toArray, List.set_cons_zero, List.set_cons_succ]
    refine till_pure 10 (v := ?_) rfl (by kernel_rfl) (by kernel_rfl) (by kernel_rfl) (by kernel_rfl) (fun _ _ _ h => h) (Or.inl ⟨by rfl, fun w2 _ => ?_⟩) trivial ?_
    rotate_left
    · go_simp; first | done | with_reducible rfl
    try simp only [Act.put, List.setIfInBounds_toArray, List.set_cons_zero, List.set_cons_succ]
    refine till_pure 11 (v := ?_) rfl (by kernel_rfl) (by kernel_rfl) (by kernel_rfl) (by kernel_rfl) (fun _ _ _ h => h) (Or.inl ⟨by rfl, fun w2 _ => ?_⟩) trivial ?_
    rotate_left
    · go_simp; first | done | with_reducible rfl
    try simp only [Act.put, List.setIfInBounds_toArray, List.set_cons_zero, List.set_cons_succ]
    refine till_pure 12 (v := ?_) rfl (by kernel_rfl) (by kernel_rfl) (by kernel_rfl) (by kernel_rfl) (fun _ _ _ h => h) (Or.inl ⟨by rfl, fun w2 _ => ?_⟩) trivial ?_
    rotate_left
    · go_simp; first | done | with_reducible rfl
    try simp only [Act.put, List.setIfInBounds_toArray, List.set_cons_zero, List.set_cons_succ]
    refine till_pure 13 (v := ?_) rfl (by kernel_rfl) (by kernel_rfl) (by kernel_rfl) (by kernel_rfl) (fun _ _ _ h => h) (Or.inl ⟨by rfl, fun w2 _ => ?_⟩) trivial ?_
    rotate_left
    · go_simp; first | done | with_reducible rfl
    try simp only [Act.put, List.setIfInBounds_toArray, List.set_cons_zero, List.set_cons_succ]
    refine till_pure 14 (v := ?_) rfl (by kernel_rfl) (by kernel_rfl) (by kernel_rfl) (by kernel_rfl) (fun _ _ _ h => h) (Or.inl ⟨by rfl, fun w2 _ => ?_⟩) trivial ?_
    rotate_left
    · go_simp; first | done | with_reducible rfl
    try simp only [Act.put, List.setIfInBounds_toArray, List.set_cons_zero, List.set_cons_succ]
    refine till_done (by kernel_rfl) ?_ _
    go_wp2_with fail
    obtain ⟨p, cap, rfl⟩ := own_slice ho1
    refine bodyPost_ret (v := .slice p (readL L).1.length cap) (by simp [results, Try.results14, go_sem]) rfl ⟨_, rfl, ho1, hb1.ofDrew1, hn1⟩

end Go.Proofs.Ytdclgmffgidcmaa
