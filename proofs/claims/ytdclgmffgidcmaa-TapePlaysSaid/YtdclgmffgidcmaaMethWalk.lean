/- The tape: New, state, Arm, Append. -/
import Derived.Test.YtdclgmffgidcmaaPutLoop
import Derived.Test.YtdclgmffgidcmaaGoodWalk
namespace Go.Proofs.Ytdclgmffgidcmaa
set_option linter.unusedSimpArgs false
set_option linter.unusedVariables false
open Go.RowKit

theorem new_any (w : World) : Calls Try.prog 9 #[] w fun e w' => e = .returned (.pointer (some ⟨w.heap.size, 0, none⟩)) ∧
    TapeAt w' w.heap.size (fun k => k = w.heap.size) ⟨[], [], 0, false, 0, false⟩ ∧ Below w.heap.size w w' := by
  go_enter Try.func9, Try.ntmps9
  go_wp2
  refine bodyPost_ret (v := .pointer (some ⟨w.heap.size, 0, none⟩)) (by simp [results, Try.results9, go_sem]) rfl ⟨rfl, ?_, ?_⟩
  · have hno : ∀ k, (Value.slice none 0 0).ownBlock = some k → False := fun k h => by simp [Value.ownBlock] at h
    refine ⟨⟨.slice none 0 0, .slice none 0 0, heap_alloc_new w _, Own.nil _ _ _, Own.nil _ _ _, ?_, ?_⟩, rfl, fun k h => by subst h; simp⟩
    · exact fun k h => (hno k h).elim
    · exact fun k h => (hno k h).elim
  · exact Below.alloc1 w _

theorem state_any (w : World) (b : Nat) (F : Nat → Prop) (s : TS) (hT : TapeAt w b F s) :
    Calls Try.prog 29 #[.pointer (some ⟨b, 0, none⟩)] w fun e w' => e = .returned (.int .i64 (if s.dead then 190 else 0)) ∧ w' = w := by
  have h := hT.isDead
  have lb := lt_of_cell h
  generalize s.dead = d at *
  clear hT
  cases d
  all_goals
    go_enter Try.func29, Try.ntmps29
    go_wp2
    go_ret
    exact ⟨rfl, rfl⟩

theorem TapeAt.arms {w : World} {b : Nat} {F : Nat → Prop} {s : TS} (h : TapeAt w b F s) : TapeAt (w.setCell ⟨b, 3, none⟩ (.bool true)) b F { s with armed := true } := by
  obtain ⟨⟨v0, v1, hb, h0, h1, a0, a1⟩, hm, hl⟩ := h
  exact ⟨⟨v0, v1, (tape_set hb).2.2.2.1 _, own_set h0 (fun e => (a0 _ e).2 rfl) _ _, own_set h1 (fun e => (a1 _ e).2.1 rfl) _ _, a0, a1⟩, hm, fun k h => by simpa using hl k h⟩
theorem TapeAt.frozen {w : World} {b : Nat} {F : Nat → Prop} {s : TS} (h : TapeAt w b F s) (j : Nat) : w.frozen? ⟨b, j, none⟩ = false := by
  obtain ⟨⟨v0, v1, hb, -⟩, -⟩ := h; exact (tape_cells hb).2 j

theorem arm_yes (w : World) (b n : Nat) (F : Nat → Prop) (s : TS) (hT : TapeAt w b F s) (hd : s.dead = false) (hn : n ≤ 2 ^ 40) :
    Calls Try.prog 11 #[.pointer (some ⟨b, 0, none⟩), .int .i64 (n : Int)] w fun e w' => e = .returned (.int .i64 0) ∧
      TapeAt w' b F { s with armed := true, budget := n } ∧ Keep F w w' := by
  have h5 := hT.isDead
  rw [hd] at h5
  obtain ⟨c3, c4⟩ : w.cell? ⟨b, 3, none⟩ = some (.bool s.armed) ∧ w.cell? ⟨b, 4, none⟩ = some (.int .i64 s.budget) := by
    obtain ⟨⟨v0, v1, hb, -⟩, -⟩ := hT; exact ⟨(tape_cells hb).1.2.2.2.1, (tape_cells hb).1.2.2.2.2.1⟩
  have f3 := hT.frozen 3
  have f4 := hT.frozen 4
  have lb := lt_of_cell h5
  have HT := Lib.hid hT
  clear hT hd
  go_enter Try.func11, Try.ntmps11
  go_wp2
  go_ret
  exact ⟨rfl, HT.out.arms.pays _, (keep_set HT.out.me w 3 _).trans (keep_set HT.out.me _ 4 _) fun _ _ h => h⟩

theorem readL_le (L : List UInt8) : (readL L).2 ≤ L.length := by
  have h := readL_spec L
  rw [h.2.2.1]; exact h.2.1.length_le

/-- Append, in plain Lean. -/
def TS.append (s : TS) (ns : List Nt) : TS × Int :=
  if s.dead then (s, 190) else if ns.all goodB = false then (s, 180) else if (readL (s.area s.c)).2 < (s.area s.c).length then (s, 140)
  else if 2 ^ 16 < (s.area s.c).length + (encL ns).length then (s, 5) else (s.put s.c (encL ns), if (s.put s.c (encL ns)).dead then 190 else 0)

theorem TapeAt.below {w w' : World} {b : Nat} {F : Nat → Prop} {s : TS} (h : TapeAt w b F s) (hk : Below w.heap.size w w') : TapeAt w' b F s :=
  h.kept (S := fun _ => False) (Keep.ofBelow hk) (fun _ _ f => f)

def AppP (w : World) (b : Nat) (F : Nat → Prop) (s : TS) (ns : List Nt) (e : Ending) (w' : World) : Prop :=
  e = .returned (.int .i64 (s.append ns).2) ∧ TapeAt w' b (Wider F w w') (s.append ns).1 ∧ Keep F w w'

set_option maxHeartbeats 1000000 in
theorem append_any (w : World) (b : Nat) (F : Nat → Prop) (s : TS) (ns : List Nt) (v : Value) (hT : TapeAt w b F s) (hs : small s) (hv : Ns w v ns) (hL : ns.length ≤ 2 ^ 16) :
    Calls Try.prog 12 #[.pointer (some ⟨b, 0, none⟩), v] w fun e w' => AppP w b F s ns e w' := by
  have h5 := hT.isDead
  have lb := lt_of_cell h5
  have HT := Lib.hid hT
  cases hd : s.dead
  case true =>
    have hX : Hid (s.append ns = (s, 190)) := by unfold Hid TS.append; simp [hd]
    rw [hd] at h5
    clear hT hs hv hd
    go_enter Try.func12, Try.ntmps12
    go_wp2
    go_ret
    unfold AppP
    rw [hX.out]
    exact ⟨rfl, HT.out.wider (Nat.le_refl _), Keep.refl _ _⟩
  case false =>
    rw [hd] at h5
    have HW := Lib.hid (write_any v ns w hv (Nat.le_trans hL (by decide)))
    have hlen := small_area hs s.c
    clear hT hv
    go_enter Try.func12, Try.ntmps12
    go_wp2_with fail
    refine HW.out.mono ?_
    intro e w1 hw1
    unfold WriteP at hw1
    cases hg : ns.all goodB
    · rw [hg] at hw1
      simp only [Bool.false_eq_true, if_false] at hw1
      obtain ⟨rfl, hb1⟩ := hw1
      have hX : Hid (s.append ns = (s, 180)) := by unfold Hid TS.append; simp [hd, hg]
      have HB := Lib.hid hb1
      clear hg hb1 HW hd
      go_wp2
      go_ret
      unfold AppP
      rw [hX.out]
      exact ⟨rfl, (HT.out.below HB.out).wider HB.out.size, Keep.ofBelow HB.out⟩
    · rw [hg] at hw1
      simp only [if_true] at hw1
      obtain ⟨v', rfl, ho1, hb1, hn1⟩ := hw1
      have hl1 := encL_len ns (fun n hn => List.all_eq_true.1 hg n hn)
      have HT1 := Lib.hid (HT.out.below hb1)
      have HG := Lib.hid (good_any w1 b F s HT1.out hs)
      have HS := Lib.hid (fun w2 h => size_any w2 b F s (HT1.out.below h) hs.2.2)
      generalize hA : s.area s.c = A at *
      have hrl : (readL A).2 ≤ A.length := readL_le A
      generalize hR : (readL A).2 = r at *
      have HO1 := Lib.hid ho1
      have HB1 := Lib.hid hb1
      have HG1 := Lib.hid hg
      obtain ⟨p, cap, rfl⟩ := own_slice ho1
      clear ho1 hb1 hg HW
      go_wp2_with fail
      refine HG.out.mono ?_
      rintro e w2 ⟨rfl, hb2⟩
      have HB2 := Lib.hid hb2
      clear hb2
      go_wp2_with fail
      refine (HS.out w2 HB2.out).mono ?_
      rintro e w3 ⟨rfl, hb3⟩
      have HB3 := Lib.hid (HB2.out.trans (hb3.mono HB2.out.size))
      clear hb3
      have hA' := Lib.hid hA
      have hR' := Lib.hid hR
      have hd' := Lib.hid hd
      clear hA hR hd
      by_cases hlt : r < A.length
      · have hX : Hid (s.append ns = (s, 140)) := by unfold Hid TS.append; rw [hA'.out, hR'.out]; simp [hd'.out, HG1.out, hlt]
        clear hd' hl1 HG HS HO1 HG1 hL hs
        go_wp2
        go_ret
        unfold AppP
        rw [hX.out]
        have hB := HB1.out.trans (HB3.out.mono HB1.out.size)
        exact ⟨rfl, (HT.out.below hB).wider hB.size, Keep.ofBelow hB⟩
      · go_wp2_with fail
        refine (HS.out w3 HB3.out).mono ?_
        rintro e w4 ⟨rfl, hb4⟩
        have HB4 := Lib.hid (HB3.out.trans (hb4.mono HB3.out.size))
        have HT4 := Lib.hid (HT1.out.below HB4.out)
        have hc2 := HT4.out.counts
        have hb4s := lt_of_cell hc2
        clear hb4 HG HS
        by_cases hsz : A.length + (encL ns).length ≤ 2 ^ 16
        · have hX : Hid (s.append ns = (s.put s.c (encL ns), if (s.put s.c (encL ns)).dead then 190 else 0)) := by
            unfold Hid TS.append; rw [hA'.out, hR'.out]; simp only [hd'.out, HG1.out, hlt, Nat.not_lt.2 hsz]; simp
          have HP := Lib.hid (put_any w4 b F s s.c (encL ns) _ HT4.out hs.2.2 (HO1.out.below HB4.out).rd (fun k e h => absurd (HT.out.lt k h) (by have := hn1 k e; omega))
            ⟨by have := hs.1; omega, by have := hs.2.1; omega⟩)
          have hkeep : Hid (Below w.heap.size w w4) := HB1.out.trans (HB4.out.mono HB1.out.size)
          clear hd' HG1 HO1 hs hn1 hL hl1 HT1
          generalize hn : (encL ns).length = n at *
          go_wp2_with fail
          refine HP.out.mono ?_
          rintro e w5 ⟨rfl, t5, k5⟩
          have HS5 := Lib.hid (state_any w5 b _ _ t5)
          have HX5 : Hid (TapeAt w5 b (Wider F w w5) (s.put s.c (encL ns)) ∧ Keep F w w5) :=
            ⟨t5.mono (fun k h => h.imp id fun h => ⟨Nat.le_trans hkeep.out.size h.1, h.2⟩) (fun k h => h.elim (fun h => t5.lt k (.inl h)) And.right), (Keep.ofBelow hkeep.out).trans k5 fun _ _ h => h⟩
          clear t5 k5 HP
          go_wp2_with fail
          refine HS5.out.mono ?_
          rintro e w6 ⟨rfl, rfl⟩
          generalize (if (s.put s.c (encL ns)).dead = true then (190 : Int) else 0) = z at *
          generalize (s.put s.c (encL ns)) = s' at *
          clear HS5
          go_wp2
          go_ret
          unfold AppP
          rw [hX.out]
          exact ⟨rfl, HX5.out.1, HX5.out.2⟩
        · have hX : Hid (s.append ns = (s, 5)) := by
            unfold Hid TS.append; rw [hA'.out, hR'.out]; simp only [hd'.out, HG1.out, hlt, Nat.not_le.1 hsz]; simp
          clear hd' HG1 HO1 hs hn1 HT1
          generalize hn : (encL ns).length = n at *
          go_wp2
          go_ret
          unfold AppP
          rw [hX.out]
          have hB := HB1.out.trans (HB4.out.mono HB1.out.size)
          exact ⟨rfl, (HT.out.below hB).wider hB.size, Keep.ofBelow hB⟩

end Go.Proofs.Ytdclgmffgidcmaa
