/- The reference's notes: what first reads, in plain Lean. -/
import Derived.Test.YtdclgmffgidcmaaReadPure
namespace Go.Proofs.Ytdclgmffgidcmaa
set_option linter.unusedSimpArgs false
set_option linter.unusedVariables false
open Go.RowKit

def numOf (n : Nt) (i : Nat) : Int := [n.a, n.b, n.c].getD i 0

theorem nums_pre (n : Nt) (i u : Nat) (h : i ≤ u) : ∃ t, nums n u = nums n i ++ t := by
  unfold nums
  refine ⟨(([n.a, n.b, n.c].take u).drop i).flatMap (fun x => numB x.toNat), ?_⟩
  rw [← List.flatMap_append]
  congr 1
  have := List.take_append_drop i ([n.a, n.b, n.c].take u)
  rw [List.take_take, Nat.min_eq_left h] at this
  exact this.symm

theorem enc_len5 {n : Nt} (hn : goodB n = true) : 5 ≤ (encB n).length := by
  have hu := (good_of hn).2.2.2
  obtain ⟨t, ht⟩ := nums_pre n 1 (usesZ n.k).toNat (by omega)
  have h1 := nums_succ n 0 (by omega)
  have hp := numB_pos ([n.a, n.b, n.c].getD 0 0).toNat
  have hl : 1 ≤ (nums n (usesZ n.k).toNat).length := by rw [ht, h1]; simp only [List.length_append]; omega
  unfold encB headB bodyB
  simp only [List.length_append, List.length_cons, List.length_nil]
  omega

/-- Where the i-th number lies. -/
theorem enc_num {n : Nt} {L : List UInt8} (hn : goodB n = true) (hp : encB n <+: L) (i : Nat) (hi : (i : Int) < usesZ n.k) :
    (∃ rest, L.drop (2 + (nums n i).length) = numB (numOf n i).toNat ++ rest) ∧ 2 + (nums n (i + 1)).length ≤ (L[0]?.getD 0).toNat + 1 := by
  obtain ⟨h0, h1, h2, h3, rest, h4⟩ := enc_head hn hp
  have hu := usesZ_le n.k
  obtain ⟨t, ht⟩ := nums_pre n (i + 1) (usesZ n.k).toNat (by omega)
  have hs := nums_succ n i (by omega)
  refine ⟨⟨t ++ rest, ?_⟩, ?_⟩
  · rw [← List.drop_drop, h4, ht, hs]
    simp [numOf]
  · rw [h0]
    unfold bodyB
    rw [ht]
    simp only [List.length_append, List.length_cons]
    omega

/-- What first answers. -/
def firstN (L : List UInt8) : Nt × Nat := if okB L then (rdNote L, (encB (rdNote L)).length) else (⟨0, 0, 0, 0⟩, 0)

theorem first_short {L : List UInt8} (h : L.length < 5 ∨ L.length < (L[0]?.getD 0).toNat + 3) : firstN L = (⟨0, 0, 0, 0⟩, 0) := by
  have : okB L = false := by
    cases h' : okB L
    · rfl
    · obtain ⟨n, hn, hp⟩ := okB_iff.1 h'
      have h1 := enc_len5 hn
      have h2 := (enc_head hn hp)
      have h3 := hp.length_le
      omega
  unfold firstN; rw [this]; rfl

/-- What holds of the numbers that were read when i of them are: of a note that stands there they are right. -/
def Right (L : List UInt8) (i at_ : Nat) (l0 l1 l2 : Int) : Prop :=
  ∀ n, goodB n = true → encB n <+: L → at_ = 2 + (nums n i).length ∧ l0 = (if 0 < i then n.a else 0) ∧ l1 = (if 1 < i then n.b else 0) ∧ l2 = (if 2 < i then n.c else 0)

/-- The i-th number while it is read. -/
def Reads1 (L : List UInt8) (i at_ j : Nat) (acc : Int) : Prop :=
  ∀ n, goodB n = true → encB n <+: L → ∃ y : Nat, at_ + (numB y).length = 2 + (nums n (i + 1)).length ∧ (∃ rest, L.drop at_ = numB y ++ rest) ∧ acc + (y : Int) * 128 ^ j = numOf n i ∧ (0 < j → 0 < y)

theorem reads1_start {L : List UInt8} {i at_ : Nat} {l0 l1 l2 : Int} (h : Right L i at_ l0 l1 l2) (hi : ∀ n, goodB n = true → encB n <+: L → (i : Int) < usesZ n.k) : Reads1 L i at_ 0 0 := by
  intro n hn hp
  obtain ⟨h1, _⟩ := h n hn hp
  obtain ⟨⟨rest, h2⟩, _⟩ := enc_num hn hp i (hi n hn hp)
  have hu := usesZ_le n.k
  have hg : 0 ≤ numOf n i := by
    have hi3 := hi n hn hp
    obtain ⟨a, b, c, _⟩ := good_of hn
    unfold numOf
    match i, (by omega : i < 3) with
    | 0, _ => exact a.1
    | 1, _ => exact b.1
    | 2, _ => exact c.1
  refine ⟨(numOf n i).toNat, ?_, ⟨rest, by rw [h1]; exact h2⟩, by simp; omega, fun h => by omega⟩
  rw [nums_succ n i (by have := hi n hn hp; omega), h1, List.length_append]
  unfold numOf; omega

theorem drop_at {L : List UInt8} {p : Nat} {c : UInt8} {t : List UInt8} (h : L.drop p = c :: t) : L[p]?.getD 0 = c ∧ p < L.length ∧ L.drop (p + 1) = t := by
  have h0 : (L.drop p)[0]? = some c := by rw [h]; rfl
  rw [List.getElem?_drop, Nat.add_zero] at h0
  refine ⟨by rw [h0]; rfl, (List.getElem?_eq_some_iff.1 h0).1, ?_⟩
  rw [← List.drop_drop, h]; rfl

/-- A byte more: the number is whole, or goes on. -/
theorem reads1_step {L : List UInt8} {i at_ j : Nat} {acc : Int} (h : Reads1 L i at_ j acc) (hj : j ≤ 5) :
    (∀ n, goodB n = true → encB n <+: L → (L[at_]?.getD 0).toNat < 128 → acc + ((L[at_]?.getD 0).toNat : Int) % 128 * 128 ^ j = numOf n i ∧ at_ + 1 = 2 + (nums n (i + 1)).length) ∧
    (¬ (L[at_]?.getD 0).toNat < 128 → Reads1 L i (at_ + 1) (j + 1) (acc + ((L[at_]?.getD 0).toNat : Int) % 128 * 128 ^ j)) := by
  constructor
  · intro n hn hp hb
    obtain ⟨y, h1, ⟨rest, h2⟩, h3, h5⟩ := h n hn hp
    by_cases hy : y < 128
    · rw [numB_lt y hy] at h1 h2
      obtain ⟨e1, _, _⟩ := drop_at h2
      rw [e1, byteOf_toNat y (by omega)]
      refine ⟨?_, by simpa using h1⟩
      rw [← h3]; congr 2; omega
    · rw [numB_ge y hy] at h2
      obtain ⟨e1, _, _⟩ := drop_at h2
      rw [e1, byteOf_toNat _ (by omega)] at hb
      omega
  · intro hb n hn hp
    obtain ⟨y, h1, ⟨rest, h2⟩, h3, h5⟩ := h n hn hp
    by_cases hy : y < 128
    · rw [numB_lt y hy] at h2
      obtain ⟨e1, _, _⟩ := drop_at h2
      rw [e1, byteOf_toNat y (by omega)] at hb
      omega
    · rw [numB_ge y hy] at h1 h2
      obtain ⟨e1, _, e3⟩ := drop_at h2
      refine ⟨y / 128, by rw [List.length_cons] at h1; omega, ⟨rest, e3⟩, ?_, fun _ => by omega⟩
      rw [← h3, e1, byteOf_toNat _ (by omega)]
      have e4 : (((y % 128 + 128 : Nat)) : Int) % 128 = (y : Int) % 128 := by omega
      rw [e4, Int.pow_succ]
      have e5 : (y : Int) = (y : Int) % 128 + 128 * ((y / 128 : Nat) : Int) := by omega
      generalize (128 : Int) ^ j = z
      conv => rhs; rw [e5]
      rw [Int.add_mul, Int.mul_comm z 128, ← Int.mul_assoc, Int.mul_comm ((y / 128 : Nat) : Int) 128]
      omega

/-- The number isn't whole yet: then there are more bytes, and not too many were read. -/
theorem reads1_more {L : List UInt8} {i at_ j : Nat} {acc : Int} (h : Reads1 L i at_ j acc) (ha : 0 ≤ acc) (n : Nt) (hn : goodB n = true) (hp : encB n <+: L) (hi : (i : Int) < usesZ n.k) : at_ < (L[0]?.getD 0).toNat + 1 := by
  obtain ⟨y, h1, _, _, _⟩ := h n hn hp
  have := numB_pos y
  have h2 := (enc_num hn hp i hi).2
  omega

theorem num_le {n : Nt} (hn : goodB n = true) (i : Nat) : numOf n i ≤ 2147483647 := by
  obtain ⟨a, b, c, _⟩ := good_of hn
  unfold numOf
  match i with
  | 0 => exact a.2
  | 1 => exact b.2
  | 2 => exact c.2
  | k + 3 => simp

/-- Six bytes that all go on are no note's number. -/
theorem reads1_six {L : List UInt8} {i at_ : Nat} {acc : Int} (h : Reads1 L i at_ 6 acc) (ha : 0 ≤ acc) (n : Nt) (hn : goodB n = true) (hp : encB n <+: L) : False := by
  obtain ⟨y, _, _, h3, h5⟩ := h n hn hp
  have := num_le hn i
  have h6 : (128 : Int) ^ 6 = 4398046511104 := by decide
  rw [h6] at h3
  have := h5 (by omega)
  omega

theorem good_zero {n : Nt} (hn : goodB n = true) : (usesZ n.k ≤ 1 → n.b = 0) ∧ (usesZ n.k ≤ 2 → n.c = 0) := by
  unfold goodB okNum at hn
  simp at hn
  omega

/-- All numbers are read. -/
theorem right_end {L : List UInt8} {i at_ : Nat} {l0 l1 l2 : Int} (h : Right L i at_ l0 l1 l2) (hi : (i : Int) = usesZ ((L[1]?.getD 0).toNat : Int) ∨ usesZ ((L[1]?.getD 0).toNat : Int) < 0) (n : Nt) (hn : goodB n = true) (hp : encB n <+: L) :
    n = ⟨((L[1]?.getD 0).toNat : Int), l0, l1, l2⟩ := by
  obtain ⟨_, h0, h1, h2⟩ := h n hn hp
  have hk := (enc_head hn hp).2.1
  have hu := (good_of hn).2.2.2
  rw [hk] at hi ⊢
  have hz := good_zero hn
  have hu3 := usesZ_le n.k
  obtain ⟨k, a, b, c⟩ := n
  simp only at *
  have hi' : (i : Int) = usesZ k := by omega
  congr 1
  · rw [h0, if_pos (by omega)]
  · rw [h1]; split
    · rfl
    · exact hz.1 (by omega)
  · rw [h2]; split
    · rfl
    · exact hz.2 (by omega)

theorem first_no {L : List UInt8} (m : Nt) (h : ∀ n, goodB n = true → encB n <+: L → n = m) (hm : goodB m = false ∨ (encB m).length ≠ (L[0]?.getD 0).toNat + 3 ∨ ¬ encB m <+: L) : firstN L = (⟨0, 0, 0, 0⟩, 0) := by
  have : okB L = false := by
    cases h' : okB L
    · rfl
    · obtain ⟨n, hn, hp⟩ := okB_iff.1 h'
      have e := h n hn hp
      subst e
      have h2 := enc_head hn hp
      rcases hm with hm | hm | hm
      · rw [hn] at hm; cases hm
      · omega
      · exact absurd hp hm
  unfold firstN; rw [this]; rfl
theorem first_yes {L : List UInt8} (m : Nt) (hg : goodB m = true) (hp : encB m <+: L) : firstN L = (m, (encB m).length) := by
  obtain ⟨h1, h2⟩ := okB_note hg hp
  unfold firstN; rw [h1, h2]; rfl
end Go.Proofs.Ytdclgmffgidcmaa
