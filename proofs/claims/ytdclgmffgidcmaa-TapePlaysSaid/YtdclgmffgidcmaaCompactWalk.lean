/- The tape: Compact; Arm where it refuses. -/
import Derived.Test.YtdclgmffgidcmaaMine
import Derived.Outline
namespace Go.Proofs.Ytdclgmffgidcmaa
set_option linter.unusedSimpArgs false
set_option linter.unusedVariables false
open Go.RowKit

theorem flip_do (w : World) (B7 B2 b o : Nat) (F : Nat → Prop) (s : TS) (hT : TapeAt w b F s) (h7 : w.cell? ⟨B7, 0, none⟩ = some (.int .i64 (o : Int))) (h2 : w.cell? ⟨B2, 0, none⟩ = some (.pointer (some ⟨b, 0, none⟩))) :
    Calls Try.prog 38 #[.pointer (some ⟨B7, 0, none⟩), .pointer (some ⟨B2, 0, none⟩)] w fun e w' => e = .returned (.tuple #[]) ∧ TapeAt w' b (Wider F w w') { s with c := o } ∧ Keep F w w' := by
  have hc := hT.counts
  have f2 := hT.frozen 2
  have lb := lt_of_cell hc
  have HT := Lib.hid hT
  clear hT
  go_enter Try.func38, Try.ntmps38
  go_wp2_with fail
  go_end0
  exact ⟨rfl, (HT.out.flips o).wider (by simp), keep_set HT.out.me w 2 _⟩

theorem flip_unit (w : World) (b B7 B2 o : Nat) (F : Nat → Prop) (s : TS) (hT : TapeAt w b F s)
    (h7 : w.cell? ⟨B7, 0, none⟩ = some (.int .i64 (o : Int))) (h2 : w.cell? ⟨B2, 0, none⟩ = some (.pointer (some ⟨b, 0, none⟩))) (f7 : ¬ F B7) (f2 : ¬ F B2) :
    Calls Try.prog 37 #[.pointer (some ⟨b, 0, none⟩), .func (.func 38) #[] #[.pointer (some ⟨B7, 0, none⟩), .pointer (some ⟨B2, 0, none⟩)]] w
      fun e w' => e = .returned (.tuple #[]) ∧ TapeAt w' b (Wider F w w') (s.flip o) ∧ Keep F w w' := by
  refine unit_any w b _ F s (fun s => { s with c := o }) _ hT (by intro ar w; rfl) ?_
  intro w1 hk hsz h1
  exact flip_do w1 B7 B2 b o F _ h1 ((hk.cell (lt_of_cell h7) f7).trans h7) ((hk.cell (lt_of_cell h2) f2).trans h2)

/-- Compact, in plain Lean. -/
def TS.turned (s : TS) (ns : List Nt) : TS := ((s.cut (1 - s.c) 0).put (1 - s.c) (encL ns)).flip (1 - s.c)
def TS.compact (s : TS) (ns : List Nt) : TS × Int :=
  if s.dead then (s, 190) else if ns.all goodB = false then (s, 180)
  else if 2 ^ 16 < (encL ns).length then (s, 5) else (s.turned ns, if (s.turned ns).dead then 190 else 0)

/-- F's blocks, and those from B on. -/
def RangeF (F : Nat → Prop) (B : Nat) (w : World) : Nat → Prop := fun k => F k ∨ (B ≤ k ∧ k < w.heap.size)
theorem rangeF_of {w w' : World} {b B : Nat} {F : Nat → Prop} {s : TS} (h : TapeAt w' b (Wider F w w') s) (hB : B = w.heap.size) : TapeAt w' b (RangeF F B w') s := by subst hB; exact h
theorem rangeF_wider {w w' : World} {b B : Nat} {F : Nat → Prop} {s : TS} (h : TapeAt w' b (Wider (RangeF F B w) w w') s) (hB : B ≤ w.heap.size) (hs : w.heap.size ≤ w'.heap.size) : TapeAt w' b (RangeF F B w') s :=
  h.mono (fun k h => by
    rcases h with (h | h) | h
    · exact .inl h
    · exact .inr ⟨h.1, by omega⟩
    · exact .inr ⟨by omega, h.2⟩) (fun k h' => by
    rcases h' with h' | h'
    · exact h.lt k (.inl (.inl h'))
    · exact h'.2)

theorem rangeF_not {F : Nat → Prop} {B k : Nat} {w : World} (h1 : ¬ F k) (h2 : k < B) : ¬ RangeF F B w k := fun h => Or.elim h h1 (fun h => absurd h.1 (by omega))
theorem rangeF_low {F : Nat → Prop} {B k : Nat} {w : World} (h : RangeF F B w k) (h2 : k < B) : F k := Or.elim h id (fun h => absurd h.1 (by omega))
theorem rangeF_end {w w' : World} {b B : Nat} {F : Nat → Prop} {s : TS} (h : TapeAt w' b (RangeF F B w') s) (hB : w.heap.size ≤ B) : TapeAt w' b (Wider F w w') s :=
  h.mono (fun k h => Or.elim h Or.inl (fun h => Or.inr ⟨by omega, h.2⟩)) (fun k h' => Or.elim h' (fun h' => h.lt k (.inl h')) (fun h => h.2))

def ComP (w : World) (b : Nat) (F : Nat → Prop) (s : TS) (ns : List Nt) (e : Ending) (w' : World) : Prop :=
  e = .returned (.int .i64 (s.compact ns).2) ∧ TapeAt w' b (Wider F w w') (s.compact ns).1 ∧ Keep F w w'

theorem cut_len (s : TS) (k n : Nat) : (s.cut k n).a0.length ≤ s.a0.length ∧ (s.cut k n).a1.length ≤ s.a1.length ∧ (s.cut k n).c = s.c := by
  unfold TS.cut TS.unit TS.set TS.area
  repeat' split
  all_goals simp
  all_goals omega

set_option maxHeartbeats 1000000 in
theorem compact_any (w : World) (b : Nat) (F : Nat → Prop) (s : TS) (ns : List Nt) (v : Value) (hT : TapeAt w b F s) (hs : small s) (hv : Ns w v ns) (hL : ns.length ≤ 2 ^ 16) :
    Calls Try.prog 21 #[.pointer (some ⟨b, 0, none⟩), v] w fun e w' => ComP w b F s ns e w' := by
  have h5 := hT.isDead
  have lb := lt_of_cell h5
  have HT := Lib.hid hT
  cases hd : s.dead
  case true =>
    have hX : Hid (s.compact ns = (s, 190)) := by unfold Hid TS.compact; simp [hd]
    rw [hd] at h5
    clear hT hs hv hd
    go_enter Try.func21, Try.ntmps21
    go_wp2
    go_ret
    unfold ComP
    rw [hX.out]
    have hB := Below.alloc1 w (.cells #[.pointer (some ⟨b, 0, none⟩)] 23)
    exact ⟨rfl, (HT.out.below hB).wider hB.size, Keep.ofBelow hB⟩
  case false =>
    rw [hd] at h5
    have HW := Lib.hid (fun q => write_any v ns (w.alloc q) (hv.below (Below.alloc1 w q)) (Nat.le_trans hL (by decide)))
    clear hT hv
    go_enter Try.func21, Try.ntmps21
    go_wp2_with fail
    refine (HW.out _).mono ?_
    intro e w1 hw1
    unfold WriteP at hw1
    cases hg : ns.all goodB
    · rw [hg] at hw1
      simp only [Bool.false_eq_true, if_false] at hw1
      obtain ⟨rfl, hb1⟩ := hw1
      have hX : Hid (s.compact ns = (s, 180)) := by unfold Hid TS.compact; simp [hd, hg]
      have HB := Lib.hid ((Below.alloc1 w (.cells #[.pointer (some ⟨b, 0, none⟩)] 23)).trans (hb1.mono (by simp)))
      clear hg hb1 HW hd
      go_wp2
      go_ret
      unfold ComP
      rw [hX.out]
      exact ⟨rfl, (HT.out.below HB.out).wider HB.out.size, Keep.ofBelow HB.out⟩
    · rw [hg] at hw1
      simp only [if_true] at hw1
      obtain ⟨v', rfl, ho1, hb1, hn1⟩ := hw1
      have hl1 := encL_len ns (fun n hn => List.all_eq_true.1 hg n hn)
      have HB := Lib.hid ((Below.alloc1 w (.cells #[.pointer (some ⟨b, 0, none⟩)] 23)).trans (hb1.mono (by simp)))
      have c2 : w1.cell? ⟨w.heap.size, 0, none⟩ = some (.pointer (some ⟨b, 0, none⟩)) := (hb1.cell (p := ⟨w.heap.size, 0, none⟩) (by simp)).trans (by simp [go_sem])
      have hsz' : w.heap.size < w1.heap.size := by have := hb1.size; simp at this; omega
      have HT1 := Lib.hid (HT.out.below HB.out)
      have HO1 := Lib.hid ho1
      have HN1 := Lib.hid hn1
      have hcc := HT1.out.counts
      have lb1 := lt_of_cell hcc
      obtain ⟨p, cap, rfl⟩ := own_slice ho1
      have Hs := Lib.hid hs
      have Hd := Lib.hid hd
      have Hg := Lib.hid hg
      have hc := hs.2.2
      clear hb1 ho1 hn1 hg hd HW hs
      by_cases hsz : 2 ^ 16 < (encL ns).length
      · have hX : Hid (s.compact ns = (s, 5)) := by unfold Hid TS.compact; simp [Hd.out, Hg.out, hsz]
        generalize hn : (encL ns).length = n at *
        clear hn
        go_wp2
        go_ret
        unfold ComP
        rw [hX.out]
        exact ⟨rfl, (HT.out.below HB.out).wider HB.out.size, Keep.ofBelow HB.out⟩
      · have hX : Hid (s.compact ns = (s.turned ns, if (s.turned ns).dead then 190 else 0)) := by unfold Hid TS.compact; simp [Hd.out, Hg.out, hsz]
        generalize hn : (encL ns).length = n at *
        rcases hc with hc | hc
        · rw [hc] at hcc
          have HX : Hid (s.turned ns = ((s.cut 1 0).put 1 (encL ns)).flip 1) := by unfold Hid TS.turned; rw [hc]
          have hn' := Lib.hid hn
          have lt0 := Lib.hid (fun k (h : F k) => HT.out.lt k h)
          have nF0 : ¬ F w.heap.size := fun h => absurd (lt0.out _ h) (Nat.lt_irrefl _)
          have nF7 : ¬ F w1.heap.size := fun h => absurd (lt0.out _ h) (by omega)
          have HC := Lib.hid (fun q => cut_any (w1.alloc q) b 1 0 F s (HT1.out.below (Below.alloc1 w1 q)) (by decide))
          clear hn hc
          go_wp2_with fail
          refine (HC.out _).mono ?_
          rintro e w2 ⟨rfl, t2, k2⟩
          have T2 := Lib.hid (rangeF_of (B := w1.heap.size + 1) t2 (by simp))
          have s2 : w1.heap.size + 1 ≤ w2.heap.size := by have := k2.size; simpa using this
          have K2 := Lib.hid (((Keep.ofBelow HB.out (S := F)).alloc _).trans k2 (fun _ _ h => h))
          have d2 : w2.cell? ⟨w.heap.size, 0, none⟩ = some (.pointer (some ⟨b, 0, none⟩)) := (k2.cell (p := ⟨w.heap.size, 0, none⟩) (by simp; omega) nF0).trans (by simp [go_sem, c2, hsz'])
          have d7 : w2.cell? ⟨w1.heap.size, 0, none⟩ = some (.int .i64 1) := (k2.cell (p := ⟨w1.heap.size, 0, none⟩) (by simp) nF7).trans (by simp [go_sem])
          have O2 : Hid (Own w2 5 1 n (.slice p n cap) ((encL ns).map bv)) := (HO1.out.alloc _).kept k2 (fun j e _ h => absurd (lt0.out _ h) (by have := HN1.out j e; simp at this; omega))
          have HP := Lib.hid (put_any w2 b _ (s.cut 1 0) 1 (encL ns) (.slice p n cap) T2.out (by decide) (by rw [hn'.out]; exact O2.out.rd)
            (fun k e => rangeF_not (fun h => absurd (lt0.out _ h) (by have := HN1.out k e; simp at this; omega)) (Nat.lt_succ_of_lt (HO1.out.lt k e)))
            ⟨by have := cut_len s 1 0; have := Hs.out.1; rw [hn'.out]; omega, by have := cut_len s 1 0; have := Hs.out.2.1; rw [hn'.out]; omega⟩)
          clear t2 k2 HC c2
          go_wp2_with fail
          refine HP.out.mono ?_
          rintro e w3 ⟨rfl, t3, k3⟩
          have T3 := Lib.hid (rangeF_wider t3 s2 k3.size)
          have s3 : w1.heap.size + 1 ≤ w3.heap.size := Nat.le_trans s2 k3.size
          have K3 := Lib.hid (K2.out.trans k3 (fun i hi h => rangeF_low h (by omega)))
          have n0 : ¬ RangeF F (w1.heap.size + 1) w2 w.heap.size := rangeF_not nF0 (by omega)
          have n7 : ¬ RangeF F (w1.heap.size + 1) w2 w1.heap.size := rangeF_not nF7 (by omega)
          have e2 : w3.cell? ⟨w.heap.size, 0, none⟩ = some (.pointer (some ⟨b, 0, none⟩)) := (k3.cell (p := ⟨w.heap.size, 0, none⟩) (by simp; omega) n0).trans d2
          have e7 : w3.cell? ⟨w1.heap.size, 0, none⟩ = some (.int .i64 1) := (k3.cell (p := ⟨w1.heap.size, 0, none⟩) (by simp; omega) n7).trans d7
          have HU := Lib.hid (flip_unit w3 b w1.heap.size w.heap.size 1 _ _ T3.out e7 e2 (rangeF_not nF7 (by omega)) (rangeF_not nF0 (by omega)))
          clear t3 k3 HP d2 d7 O2 n0 n7
          go_wp2_with fail
          refine HU.out.mono ?_
          rintro e w4 ⟨rfl, t4, k4⟩
          have T4 := Lib.hid (rangeF_wider t4 s3 k4.size)
          have K4 := Lib.hid (K3.out.trans k4 (fun i hi h => rangeF_low h (by omega)))
          rw [← HX.out] at T4
          have n0 : ¬ RangeF F (w1.heap.size + 1) w3 w.heap.size := rangeF_not nF0 (by omega)
          have f2 : w4.cell? ⟨w.heap.size, 0, none⟩ = some (.pointer (some ⟨b, 0, none⟩)) := (k4.cell (p := ⟨w.heap.size, 0, none⟩) (by simp; omega) n0).trans e2
          have HS := Lib.hid (state_any w4 b _ _ T4.out)
          clear t4 k4 HU e2 e7 n0
          go_wp2_with fail
          refine HS.out.mono ?_
          rintro e w5 ⟨rfl, rfl⟩
          have hT4 := T4.out
          generalize (if (s.turned ns).dead = true then (190 : Int) else 0) = z at *
          generalize s.turned ns = s' at *
          have HT4 := Lib.hid (rangeF_end (w := w) hT4 (by omega))
          clear HS hT4 T4 f2
          go_wp2
          go_ret
          unfold ComP
          rw [hX.out]
          exact ⟨rfl, HT4.out, K4.out⟩
        · rw [hc] at hcc
          have HX : Hid (s.turned ns = ((s.cut 0 0).put 0 (encL ns)).flip 0) := by unfold Hid TS.turned; rw [hc]
          have hn' := Lib.hid hn
          have lt0 := Lib.hid (fun k (h : F k) => HT.out.lt k h)
          have nF0 : ¬ F w.heap.size := fun h => absurd (lt0.out _ h) (Nat.lt_irrefl _)
          have nF7 : ¬ F w1.heap.size := fun h => absurd (lt0.out _ h) (by omega)
          have HC := Lib.hid (fun q => cut_any (w1.alloc q) b 0 0 F s (HT1.out.below (Below.alloc1 w1 q)) (by decide))
          clear hn hc
          go_wp2_with fail
          refine (HC.out _).mono ?_
          rintro e w2 ⟨rfl, t2, k2⟩
          have T2 := Lib.hid (rangeF_of (B := w1.heap.size + 1) t2 (by simp))
          have s2 : w1.heap.size + 1 ≤ w2.heap.size := by have := k2.size; simpa using this
          have K2 := Lib.hid (((Keep.ofBelow HB.out (S := F)).alloc _).trans k2 (fun _ _ h => h))
          have d2 : w2.cell? ⟨w.heap.size, 0, none⟩ = some (.pointer (some ⟨b, 0, none⟩)) := (k2.cell (p := ⟨w.heap.size, 0, none⟩) (by simp; omega) nF0).trans (by simp [go_sem, c2, hsz'])
          have d7 : w2.cell? ⟨w1.heap.size, 0, none⟩ = some (.int .i64 0) := (k2.cell (p := ⟨w1.heap.size, 0, none⟩) (by simp) nF7).trans (by simp [go_sem])
          have O2 : Hid (Own w2 5 1 n (.slice p n cap) ((encL ns).map bv)) := (HO1.out.alloc _).kept k2 (fun j e _ h => absurd (lt0.out _ h) (by have := HN1.out j e; simp at this; omega))
          have HP := Lib.hid (put_any w2 b _ (s.cut 0 0) 0 (encL ns) (.slice p n cap) T2.out (by decide) (by rw [hn'.out]; exact O2.out.rd)
            (fun k e => rangeF_not (fun h => absurd (lt0.out _ h) (by have := HN1.out k e; simp at this; omega)) (Nat.lt_succ_of_lt (HO1.out.lt k e)))
            ⟨by have := cut_len s 0 0; have := Hs.out.1; rw [hn'.out]; omega, by have := cut_len s 0 0; have := Hs.out.2.1; rw [hn'.out]; omega⟩)
          clear t2 k2 HC c2
          go_wp2_with fail
          refine HP.out.mono ?_
          rintro e w3 ⟨rfl, t3, k3⟩
          have T3 := Lib.hid (rangeF_wider t3 s2 k3.size)
          have s3 : w1.heap.size + 1 ≤ w3.heap.size := Nat.le_trans s2 k3.size
          have K3 := Lib.hid (K2.out.trans k3 (fun i hi h => rangeF_low h (by omega)))
          have n0 : ¬ RangeF F (w1.heap.size + 1) w2 w.heap.size := rangeF_not nF0 (by omega)
          have n7 : ¬ RangeF F (w1.heap.size + 1) w2 w1.heap.size := rangeF_not nF7 (by omega)
          have e2 : w3.cell? ⟨w.heap.size, 0, none⟩ = some (.pointer (some ⟨b, 0, none⟩)) := (k3.cell (p := ⟨w.heap.size, 0, none⟩) (by simp; omega) n0).trans d2
          have e7 : w3.cell? ⟨w1.heap.size, 0, none⟩ = some (.int .i64 0) := (k3.cell (p := ⟨w1.heap.size, 0, none⟩) (by simp; omega) n7).trans d7
          have HU := Lib.hid (flip_unit w3 b w1.heap.size w.heap.size 0 _ _ T3.out e7 e2 (rangeF_not nF7 (by omega)) (rangeF_not nF0 (by omega)))
          clear t3 k3 HP d2 d7 O2 n0 n7
          go_wp2_with fail
          refine HU.out.mono ?_
          rintro e w4 ⟨rfl, t4, k4⟩
          have T4 := Lib.hid (rangeF_wider t4 s3 k4.size)
          have K4 := Lib.hid (K3.out.trans k4 (fun i hi h => rangeF_low h (by omega)))
          rw [← HX.out] at T4
          have n0 : ¬ RangeF F (w1.heap.size + 1) w3 w.heap.size := rangeF_not nF0 (by omega)
          have f2 : w4.cell? ⟨w.heap.size, 0, none⟩ = some (.pointer (some ⟨b, 0, none⟩)) := (k4.cell (p := ⟨w.heap.size, 0, none⟩) (by simp; omega) n0).trans e2
          have HS := Lib.hid (state_any w4 b _ _ T4.out)
          clear t4 k4 HU e2 e7 n0
          go_wp2_with fail
          refine HS.out.mono ?_
          rintro e w5 ⟨rfl, rfl⟩
          have hT4 := T4.out
          generalize (if (s.turned ns).dead = true then (190 : Int) else 0) = z at *
          generalize s.turned ns = s' at *
          have HT4 := Lib.hid (rangeF_end (w := w) hT4 (by omega))
          clear HS hT4 T4 f2
          go_wp2
          go_ret
          unfold ComP
          rw [hX.out]
          exact ⟨rfl, HT4.out, K4.out⟩

end Go.Proofs.Ytdclgmffgidcmaa
