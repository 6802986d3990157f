/- Notes read from the front on, as a plain function; no condition. -/
import Derived.Test.YtdclgmffgidcmaaDecPure
namespace Go.Proofs.Ytdclgmffgidcmaa
set_option linter.unusedSimpArgs false
set_option linter.unusedVariables false
open Go.RowKit

theorem okB_len {L : List UInt8} (h : okB L = true) : 4 ≤ (encB (rdNote L)).length ∧ (encB (rdNote L)).length ≤ 19 ∧ (encB (rdNote L)).length ≤ L.length ∧ goodB (rdNote L) = true ∧ encB (rdNote L) <+: L := by
  unfold okB at h
  rw [Bool.and_eq_true, List.isPrefixOf_iff_prefix] at h
  have := encB_len h.1
  exact ⟨this.2, this.1, h.2.length_le, h.1, h.2⟩

/-- Notes from the front on, so many at most, and how many bytes they are. -/
def readF : Nat → List UInt8 → List Nt × Nat
  | 0, _ => ([], 0)
  | k + 1, L => if okB L = true then (rdNote L :: (readF k (L.drop (encB (rdNote L)).length)).1, (encB (rdNote L)).length + (readF k (L.drop (encB (rdNote L)).length)).2) else ([], 0)

theorem readF_no (k : Nat) {L : List UInt8} (h : okB L = false) : readF k L = ([], 0) := by
  cases k with
  | zero => rfl
  | succ k => unfold readF; rw [if_neg (by rw [h]; decide)]

theorem readF_eq : ∀ (k k' : Nat) (L : List UInt8), L.length ≤ k → L.length ≤ k' → readF k L = readF k' L := by
  intro k
  induction k with
  | zero =>
    intro k' L h _
    cases hok : okB L with
    | false => rw [readF_no 0 hok, readF_no k' hok]
    | true => have := okB_len hok; omega
  | succ k ih =>
    intro k' L h h'
    cases hok : okB L with
    | false => rw [readF_no _ hok, readF_no k' hok]
    | true =>
      have hl := okB_len hok
      obtain ⟨m, rfl⟩ : ∃ m, k' = m + 1 := ⟨k' - 1, by omega⟩
      unfold readF
      rw [if_pos hok, if_pos hok, ih m (L.drop (encB (rdNote L)).length) (by rw [List.length_drop]; omega) (by rw [List.length_drop]; omega)]

/-- Notes from the front on, and how many bytes they are. -/
def readL (L : List UInt8) : List Nt × Nat := readF L.length L

theorem readL_no {L : List UInt8} (h : okB L = false) : readL L = ([], 0) := readF_no _ h
theorem readL_yes {L : List UInt8} (h : okB L = true) : readL L = (rdNote L :: (readL (L.drop (encB (rdNote L)).length)).1, (encB (rdNote L)).length + (readL (L.drop (encB (rdNote L)).length)).2) := by
  have hl := okB_len h
  unfold readL
  obtain ⟨m, hm⟩ : ∃ m, L.length = m + 1 := ⟨L.length - 1, by omega⟩
  rw [readF_eq L.length (m + 1) L (Nat.le_refl _) (by omega)]
  conv => lhs; unfold readF
  rw [if_pos h, readF_eq m (L.drop (encB (rdNote L)).length).length (L.drop (encB (rdNote L)).length) (by rw [List.length_drop]; omega) (Nat.le_refl _)]

/-- The notes' bytes, one behind the other. -/
def encL (ns : List Nt) : List UInt8 := ns.flatMap encB

theorem encL_cons (n : Nt) (ns : List Nt) : encL (n :: ns) = encB n ++ encL ns := rfl
theorem encL_append (a b : List Nt) : encL (a ++ b) = encL a ++ encL b := by unfold encL; simp

theorem readL_spec (L : List UInt8) : (∀ n ∈ (readL L).1, goodB n = true) ∧ encL (readL L).1 <+: L ∧ (readL L).2 = (encL (readL L).1).length ∧ 4 * (readL L).1.length ≤ (readL L).2 ∧ (readL L).2 ≤ L.length ∧ okB (L.drop (readL L).2) = false := by
  induction hn : L.length using Nat.strongRecOn generalizing L with
  | _ n ih =>
    cases hok : okB L with
    | false =>
      rw [readL_no hok]
      exact ⟨fun _ h => (by cases h), List.nil_prefix, rfl, Nat.le_refl _, Nat.zero_le _, by simpa using hok⟩
    | true =>
      obtain ⟨h1, h2, h3, hg, hp⟩ := okB_len hok
      have hl : (L.drop (encB (rdNote L)).length).length < n := by rw [List.length_drop]; omega
      obtain ⟨i1, i2, i3, i4, i5, i6⟩ := ih _ hl (L.drop (encB (rdNote L)).length) rfl
      rw [readL_yes hok]
      refine ⟨?_, ?_, ?_, ?_, ?_, ?_⟩
      · intro m hm
        rcases List.mem_cons.1 hm with rfl | hm
        · exact hg
        · exact i1 m hm
      · rw [encL_cons]
        obtain ⟨s, hs⟩ := i2
        exact ⟨s, by rw [List.append_assoc, hs]; exact List.prefix_iff_eq_append.1 hp⟩
      · rw [encL_cons, List.length_append, i3]
      · simp only [List.length_cons]; omega
      · rw [List.length_drop] at i5; simp only; omega
      · rw [List.drop_drop] at i6; exact i6

/-- What is written is read. -/
theorem readL_encL (ns : List Nt) (hg : ∀ n ∈ ns, goodB n = true) (rest : List UInt8) : readL (encL ns ++ rest) = (ns ++ (readL rest).1, (encL ns).length + (readL rest).2) := by
  induction ns with
  | nil => simp [encL]
  | cons n ns ih =>
    have hn := hg n (List.mem_cons_self)
    have ih := ih fun m hm => hg m (List.mem_cons_of_mem _ hm)
    have hp : encB n <+: encL (n :: ns) ++ rest := ⟨encL ns ++ rest, by rw [encL_cons, List.append_assoc]⟩
    obtain ⟨h1, h2⟩ := okB_note hn hp
    have hd : (encL (n :: ns) ++ rest).drop (encB n).length = encL ns ++ rest := by rw [encL_cons, List.append_assoc, List.drop_left]
    rw [readL_yes h1, h2, hd, ih, encL_cons, List.length_append, Nat.add_assoc]
    rfl

/-- The cells of notes. -/
def cellsL (ns : List Nt) : List Value := ns.flatMap Nt.cells
theorem cellsL_len (ns : List Nt) : (cellsL ns).length = ns.length * 4 := by
  unfold cellsL
  induction ns with
  | nil => rfl
  | cons n ns ih => simp only [List.flatMap_cons, List.length_append, ih, List.length_cons]; simp [Nt.cells]; omega
theorem cellsL_append (a b : List Nt) : cellsL (a ++ b) = cellsL a ++ cellsL b := by unfold cellsL; simp
theorem cellsL_one (ns : List Nt) : ∀ u ∈ cellsL ns, u.oneCell' = true := by
  intro u hu
  obtain ⟨n, _, hn⟩ := List.mem_flatMap.1 hu
  simp [Nt.cells] at hn
  rcases hn with rfl | rfl | rfl | rfl <;> rfl
theorem cellsL_at (ns : List Nt) (i j : Nat) (hi : i < ns.length) (hj : j < 4) : (cellsL ns)[i * 4 + j]? = (ns[i]).cells[j]? := by
  unfold cellsL
  induction ns generalizing i with
  | nil => simp at hi
  | cons n ns ih =>
    have hl : n.cells.length = 4 := rfl
    cases i with
    | zero => rw [List.flatMap_cons, Nat.zero_mul, Nat.zero_add, List.getElem?_append_left (by omega)]; rfl
    | succ i =>
      rw [List.flatMap_cons, List.getElem?_append_right (by omega), hl, show (i + 1) * 4 + j - 4 = i * 4 + j by omega]
      simpa using ih i (by simpa using hi)
end Go.Proofs.Ytdclgmffgidcmaa
