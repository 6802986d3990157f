/- TapeTorn: the plain law; its argument, a slice of slices of notes, opened. -/
import Derived.Test.YtdclgmffgidcmaaFullWalk
import Derived.Test.YtdclgmffgidcmaaArgs
namespace Go.Proofs.Ytdclgmffgidcmaa
set_option linter.unusedSimpArgs false
set_option linter.unusedVariables false
open Go.RowKit Go.ChangeShapes Go.WideShapes Go.ChangeAt Go.Deep

/-- The slice value v reads as lists of notes. -/
def NsL (w : World) (v : Value) (ls : List (List Nt)) : Prop :=
  ls.length ≤ maxLen ∧ ((ls = [] ∧ ∃ p c, v = .slice p 0 c ∧ c ≤ maxLen) ∨
    ∃ b off cap, v = .slice (some ⟨b, off, none⟩) ls.length cap ∧ ls.length ≤ cap ∧ cap ≤ maxLen ∧ ∀ j (hj : j < ls.length), ∃ u, w.cell? ⟨b, off + j, none⟩ = some u ∧ Ns w u ls[j])

theorem NsL.slice {w : World} {v : Value} {ls : List (List Nt)} (h : NsL w v ls) : ∃ p c, v = .slice p ls.length c ∧ ls.length ≤ c ∧ c ≤ maxLen := by
  obtain ⟨hm, hv⟩ := h
  rcases hv with ⟨rfl, p, c, rfl, hc⟩ | ⟨b, off, cap, rfl, h1, h2, h3⟩
  · exact ⟨p, c, rfl, Nat.zero_le _, hc⟩
  · exact ⟨_, cap, rfl, h1, h2⟩
theorem NsL.cells {w : World} {p : Option Addr} {n c : Nat} {ls : List (List Nt)} (h : NsL w (.slice p n c) ls) (hpos : 0 < ls.length) : ∃ b o, p = some ⟨b, o, none⟩ ∧ ∀ j (hj : j < ls.length), ∃ u, w.cell? ⟨b, o + j, none⟩ = some u ∧ Ns w u ls[j] := by
  rcases h.2 with ⟨rfl, _⟩ | ⟨b, o, c, hv, _, _, hc⟩
  · simp at hpos
  · cases hv; exact ⟨b, o, rfl, hc⟩

theorem choose_list {α : Type} {p : Nat → α → Prop} [Inhabited α] : ∀ (n : Nat), (∀ i, i < n → ∃ x, p i x) → ∃ l : List α, l.length = n ∧ ∀ i (hi : i < l.length), p i l[i]
  | 0, _ => ⟨[], rfl, fun i hi => by simp at hi⟩
  | n + 1, h => by
    obtain ⟨l, hl, hp⟩ := choose_list n (fun i hi => h i (by omega))
    obtain ⟨x, hx⟩ := h n (by omega)
    refine ⟨l ++ [x], by simp [hl], fun i hi => ?_⟩
    by_cases hin : i < l.length
    · rw [List.getElem_append_left hin]; exact hp i hin
    · simp at hi
      have : i = l.length := by omega
      subst this
      simp
      rw [hl]; exact hx

theorem open_noteLists {H : Type} {enc : TypeId × Value → H} {w : World} {base b0 : Nat} {spare : Nat → Bool} {held : Bool} {r : Reach} {v : Value} {d : DataW H} {ps : List MemPlace}
    (hval : Value.okWide Try.prog w r b0 22 v) (hd : DataW.Trod enc Try.prog w base spare held 22 v d ps) : ∃ ls, NsL w v ls := by
  obtain ⟨p, n, c, rfl⟩ := okWide_slice Try.underlying22 hval
  obtain ⟨fuel, hf⟩ := hd
  rcases open_slice1 (P := Try.prog) (e := 29) Try.underlying22 (by kernel_rfl) hf with ⟨h0, _⟩ | ⟨a, len, cap, m, n', V, D, Pl, h1, hb, hl, hm, hmm, hx, hi⟩
  · simp [Value.cells] at h0
    obtain ⟨rfl, rfl, rfl⟩ := h0
    exact ⟨[], by simp [maxLen], .inl ⟨rfl, none, 0, rfl, by unfold maxLen; omega⟩⟩
  · simp [Value.cells] at h1
    obtain ⟨rfl, rfl, rfl⟩ := h1
    have hlm : n ≤ m := by rw [hmm]; split <;> omega
    rcases Nat.eq_zero_or_pos n with rfl | hpos
    · exact ⟨[], by simp [maxLen], .inl ⟨rfl, _, _, rfl, hm⟩⟩
    · have hsp : a.spot = none := by have := World.cell?_spot (hi 0 (by omega)).1; simpa [Addr.add] using this
      obtain ⟨b, off, sp⟩ := a
      dsimp only at hsp
      subst hsp
      obtain ⟨ls, hls, hp⟩ := choose_list (α := List Nt) (p := fun i l => ∃ u, w.cell? ⟨b, off + i, none⟩ = some u ∧ Ns w u l) n (fun i hin => by
        obtain ⟨h1, h2⟩ := hi i (by omega)
        obtain ⟨v, ns, hv, hns⟩ := trod_notes h2
        cases hv
        rw [Addr.add_lit] at h1
        exact ⟨ns, V i, h1, hns⟩)
      exact ⟨ls, by omega, .inr ⟨b, off, c, by rw [hls], by omega, hm, hp⟩⟩

/-! The plain law. -/
def tornS (L : List UInt8) (bu : Int) (de : Bool) : TS := ⟨L, [], 0, true, bu, de⟩

/-- An append to a tape that has a budget. -/
theorem torn_append (want ns : List Nt) (n : Nat) (hw : ∀ m ∈ want, goodB m = true) (hn : n ≤ 5000) (hl : (encL want).length ≤ 40000) (hns : ns.length ≤ 30) :
    (ns.all goodB = false ∧ (tornS (encL want) n false).append ns = (tornS (encL want) n false, 180)) ∨
    ((∀ m ∈ ns, goodB m = true) ∧ (encL ns).length ≤ n ∧ (tornS (encL want) n false).append ns = (tornS (encL (want ++ ns)) ((n - (encL ns).length : Nat) : Int) false, 0)) ∨
    ((∀ m ∈ ns, goodB m = true) ∧ n < (encL ns).length ∧ (tornS (encL want) n false).append ns = (tornS (encL want ++ (encL ns).take n) 0 true, 190)) := by
  have hr : readL (encL want) = (want, (encL want).length) := readL_just want hw
  have hp := TS.put_paid 0 (encL ns) (tornS (encL want) n false) n rfl rfl rfl (by omega)
  cases hg : ns.all goodB
  · left
    refine ⟨rfl, ?_⟩
    unfold TS.append tornS
    simp [hg]
  · right
    have hgn : ∀ m ∈ ns, goodB m = true := List.all_eq_true.1 hg
    have hle := encL_len ns hgn
    have e : (tornS (encL want) n false).append ns = ((tornS (encL want) n false).put 0 (encL ns), if ((tornS (encL want) n false).put 0 (encL ns)).dead then 190 else 0) := by
      unfold TS.append
      have h1 : ¬ (readL ((tornS (encL want) n false).area (tornS (encL want) n false).c)).2 < ((tornS (encL want) n false).area (tornS (encL want) n false).c).length := by
        show ¬ (readL (encL want)).2 < (encL want).length
        rw [hr]; exact Nat.lt_irrefl _
      have h2 : ¬ 2 ^ 16 < ((tornS (encL want) n false).area (tornS (encL want) n false).c).length + (encL ns).length := by
        show ¬ 2 ^ 16 < (encL want).length + (encL ns).length
        omega
      simp only [hg, h1, h2, Bool.false_eq_true, Bool.true_eq_false, if_false]
      rfl
    by_cases hc : (encL ns).length ≤ n
    · left
      refine ⟨hgn, hc, ?_⟩
      rw [e, hp.1 hc, encL_append]
      unfold tornS TS.set TS.area
      simp
      omega
    · right
      refine ⟨hgn, by omega, ?_⟩
      rw [e, hp.2 (by omega)]
      unfold tornS TS.set TS.area
      simp

/-- What is left of the tape. -/
theorem torn_left (want last : List Nt) (s : TS) (n : Nat) (hs : s.area s.c = encL want ++ (encL last).take n) (hf : fit s) (hw : ∀ m ∈ want, goodB m = true) (hl : ∀ m ∈ last, goodB m = true) :
    ∃ k s1 z, k ≤ last.length ∧ (readL (s.area s.c)).1 = want ++ last.take k ∧ s.crash.repair = (s1, z, 0) ∧ Holds s1 (want ++ last.take k) ∧ ∃ s2, s1.append [] = (s2, 0) ∧ Holds s2 (want ++ last.take k) ∧ s2.repair = (s2, 0, 0) := by
  obtain ⟨k, r, hk, ht, hr⟩ := take_encL last n hl
  have hg : ∀ m ∈ want ++ last.take k, goodB m = true := fun m hm => (List.mem_append.1 hm).elim (hw m) (fun h => hl m (List.mem_of_mem_take h))
  have hread : readL (s.area s.c) = (want ++ last.take k, (encL (want ++ last.take k)).length) := by
    rw [hs, ht, ← List.append_assoc, ← encL_append]
    exact readL_two _ r hg hr
  obtain ⟨s1, h1, h2⟩ := crash_repair s hf
  rw [hread] at h2
  have hlen : (encL (want ++ last.take k)).length ≤ 2 ^ 16 := by
    have h3 := (readL_spec (s.area s.c)).2.2.2.2.1
    rw [hread] at h3
    exact Nat.le_trans h3 (hf.area s.c)
  obtain ⟨s2, h3, h4⟩ := h2.append [] (fun m hm => by cases hm) (by simpa [encL] using hlen)
  rw [List.append_nil] at h4
  exact ⟨k, s1, _, hk, by rw [hread], h1, h2, s2, h3, h4, h4.repair⟩
end Go.Proofs.Ytdclgmffgidcmaa
