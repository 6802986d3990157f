/- Reading a note's bytes, as plain functions; no condition. -/
import Derived.Test.YtdclgmffgidcmaaNotePure
namespace Go.Proofs.Ytdclgmffgidcmaa
set_option linter.unusedSimpArgs false
set_option linter.unusedVariables false
open Go.RowKit

/-- A byte's lower seven bits put behind what was read, s bits further up. -/
def orI (acc : Int) (b : Nat) (s : Nat) : Int := bits .or .i64 acc (wrap64 (wrap64 (bits .and .u8 (b : Int) 127) * 2 ^ s))

/-- One number read from the place p on: what was read, the place behind it. r: how many bytes more it may have. -/
def rd (L : List UInt8) (stop : Nat) : Nat → Nat → Int → Int × Nat
  | 0, p, acc => (acc, p)
  | r + 1, p, acc => if p < stop then (if (L[p]?.getD 0).toNat < 128 then (orI acc (L[p]?.getD 0).toNat (7 * (8 - r)), p + 1) else rd L stop r (p + 1) (orI acc (L[p]?.getD 0).toNat (7 * (8 - r)))) else (acc, p)

/-- Where the i-th number begins, and what it is. -/
def rdAt (L : List UInt8) (stop : Nat) : Nat → Nat
  | 0 => 2
  | i + 1 => (rd L stop 9 (rdAt L stop i) 0).2
def rdVal (L : List UInt8) (stop : Nat) (i : Nat) : Int := (rd L stop 9 (rdAt L stop i) 0).1

/-- The note that is read, whatever it is. -/
def rdNote (L : List UInt8) : Nt :=
  let stop := (L[0]?.getD 0).toNat + 1
  let k : Int := ((L[1]?.getD 0).toNat : Int)
  ⟨k, if 0 < usesZ k then rdVal L stop 0 else 0, if 1 < usesZ k then rdVal L stop 1 else 0, if 2 < usesZ k then rdVal L stop 2 else 0⟩

theorem rd_le (L : List UInt8) (stop : Nat) : ∀ r p acc, p ≤ stop → (rd L stop r p acc).2 ≤ stop := by
  intro r
  induction r with
  | zero => intro p acc h; exact h
  | succ r ih =>
    intro p acc h
    unfold rd
    split
    · split
      · simp only; omega
      · exact ih _ _ (by omega)
    · exact h

theorem rdAt_le (L : List UInt8) (stop : Nat) (h : 2 ≤ stop) : ∀ i, rdAt L stop i ≤ stop
  | 0 => h
  | i + 1 => rd_le _ _ _ _ _ (rdAt_le L stop h i)

theorem and127 (b : Nat) (h : b < 256) : bits .and .u8 (b : Int) 127 = ((b % 128 : Nat) : Int) := by
  have := bits_mask .u8 8 (by decide) wraps_u8 7 (by decide) (b : Int) (by omega) (by omega)
  simpa using this

theorem orI_small (acc b s : Nat) (hb : b < 256) (hs : s ≤ 49) (ha : acc < 2 ^ s) : orI (acc : Int) b s = ((acc + b % 128 * 2 ^ s : Nat) : Int) := by
  unfold orI
  rw [and127 b hb, show wrap64 ((b % 128 : Nat) : Int) = ((b % 128 : Nat) : Int) from by unfold wrap64; omega]
  have h1 : b % 128 * 2 ^ s < 2 ^ 56 := by
    have : (2 : Nat) ^ s ≤ 2 ^ 49 := Nat.pow_le_pow_right (by decide) hs
    have h2 : b % 128 < 2 ^ 7 := by omega
    calc b % 128 * 2 ^ s < 2 ^ 7 * 2 ^ s := (Nat.mul_lt_mul_right (Nat.two_pow_pos s)).2 h2
      _ ≤ 2 ^ 7 * 2 ^ 49 := Nat.mul_le_mul_left _ this
      _ = 2 ^ 56 := by decide
  have e1 : ((b % 128 : Nat) : Int) * 2 ^ s = ((b % 128 * 2 ^ s : Nat) : Int) := by push_cast; rfl
  rw [e1]
  have e2 : wrap64 ((b % 128 * 2 ^ s : Nat) : Int) = ((b % 128 * 2 ^ s : Nat) : Int) := by
    unfold wrap64; omega
  rw [e2]
  have hacc : acc < 2 ^ 56 := Nat.lt_of_lt_of_le ha (Nat.pow_le_pow_right (by decide) (by omega))
  have hk : ∀ n : Int, 0 ≤ n → n < 2 ^ 56 → IntKind.i64.wrap n = n := by intro n h0 h1; rw [IntKind.wrap_i64]; omega
  rw [(bits_nat .i64 56 (by decide) hk acc (b % 128 * 2 ^ s) hacc h1).2]
  congr 1
  rw [Nat.or_comm, Nat.mul_comm, ← Nat.two_pow_add_eq_or_of_lt ha]
  omega

theorem byteOf_toNat (n : Nat) (h : n < 256) : (byteOf (n : Int)).toNat = n := by
  unfold byteOf
  rw [UInt8.toNat_ofNat']
  omega

/-- A number that is written is read. -/
theorem rd_good (L : List UInt8) (stop : Nat) : ∀ (r p acc x : Nat) (rest : List UInt8), r ≤ 9 → L.drop p = numB x ++ rest → p + (numB x).length ≤ stop → (numB x).length + 4 ≤ r → acc < 2 ^ (7 * (9 - r)) →
    rd L stop r p (acc : Int) = (((acc + x * 2 ^ (7 * (9 - r)) : Nat) : Int), p + (numB x).length) := by
  intro r
  induction r with
  | zero => intro p acc x rest _ _ _ h _; have := numB_pos x; omega
  | succ r ih =>
    intro p acc x rest hr hd hs hl ha
    have hp := numB_pos x
    have hat : ∀ c t, numB x = c :: t → (L[p]?.getD 0) = c := by
      intro c t e
      rw [e] at hd
      have : (L.drop p)[0]? = some c := by rw [hd]; rfl
      rw [List.getElem?_drop, Nat.add_zero] at this
      rw [this]; rfl
    have e9 : 9 - (r + 1) = 8 - r := by omega
    rw [e9] at ha ⊢
    by_cases h8 : x < 128
    · have hn := numB_lt x h8
      have hc := hat _ _ hn
      unfold rd
      rw [if_pos (by omega), hc, byteOf_toNat x (by omega), if_pos h8, orI_small acc x _ (by omega) (by rw [hn] at hl; simp at hl; omega) ha, Nat.mod_eq_of_lt h8, hn]
      rfl
    · have hn := numB_ge x h8
      have hc := hat _ _ hn
      have hl2 : (numB x).length = (numB (x / 128)).length + 1 := by rw [hn]; simp
      have hd2 : L.drop (p + 1) = numB (x / 128) ++ rest := by
        rw [← List.drop_drop, hd, hn]; rfl
      unfold rd
      have hlt : x % 128 + 128 < 256 := by omega
      rw [if_pos (by omega), hc, byteOf_toNat _ hlt, if_neg (by omega), orI_small acc _ _ hlt (by omega) ha]
      have e1 : (x % 128 + 128) % 128 = x % 128 := by omega
      rw [e1]
      have epow : 2 ^ (7 * (9 - r)) = 128 * 2 ^ (7 * (8 - r)) := by
        rw [show 7 * (9 - r) = 7 + 7 * (8 - r) by omega, Nat.pow_add]
      rw [ih (p + 1) _ (x / 128) rest (by omega) hd2 (by omega) (by omega) ?_, epow, hl2]
      · congr 1
        · congr 1
          have : x = x % 128 + 128 * (x / 128) := by omega
          generalize 2 ^ (7 * (8 - r)) = z
          have e3 : x * z = x % 128 * z + x / 128 * (128 * z) := by
            conv => lhs; rw [this]
            rw [Nat.add_mul, Nat.mul_comm 128 (x / 128), Nat.mul_assoc]
          omega
        · omega
      · rw [epow]
        have h3 : x % 128 * 2 ^ (7 * (8 - r)) ≤ 127 * 2 ^ (7 * (8 - r)) := Nat.mul_le_mul_right _ (by omega)
        omega

theorem usesZ_cases {k : Int} (h : 0 < usesZ k) : usesZ k = 1 ∨ usesZ k = 2 ∨ usesZ k = 3 := by have := usesZ_le k; omega

/-- What a good note's bytes begin with. -/
theorem enc_head {n : Nt} {L : List UInt8} (hn : goodB n = true) (hp : encB n <+: L) :
    (L[0]?.getD 0).toNat = (bodyB n).length ∧ ((L[1]?.getD 0).toNat : Int) = n.k ∧ (encB n).length = (bodyB n).length + 3 ∧ (bodyB n).length + 3 ≤ L.length ∧
    ∃ rest, L.drop 2 = nums n (usesZ n.k).toNat ++ rest := by
  obtain ⟨rest, rfl⟩ := hp
  have hl := nums_len hn (usesZ n.k).toNat
  have hk := kind_of (good_of hn).2.2.2
  have hb : (bodyB n).length = (nums n (usesZ n.k).toNat).length + 1 := by unfold bodyB; simp
  refine ⟨?_, ?_, ?_, ?_, ?_⟩
  · unfold encB headB
    simp only [List.cons_append, List.getElem?_cons_zero, Option.getD_some]
    exact byteOf_toNat _ (by omega)
  · unfold encB headB bodyB
    simp only [List.cons_append, List.getElem?_cons_succ, List.getElem?_cons_zero, Option.getD_some]
    obtain ⟨k, hk2⟩ := Int.eq_ofNat_of_zero_le (show 0 ≤ n.k by omega)
    rw [hk2, byteOf_toNat _ (by omega)]
  · unfold encB headB; simp
  · unfold encB headB; simp
  · refine ⟨[byteOf ((sumN (headB n) / 256 : Nat) : Int), byteOf ((sumN (headB n) : Nat) : Int)] ++ rest, ?_⟩
    have e : encB n = byteOf (bodyB n).length :: byteOf n.k :: (nums n (usesZ n.k).toNat ++ [byteOf ((sumN (headB n) / 256 : Nat) : Int), byteOf ((sumN (headB n) : Nat) : Int)]) := rfl
    rw [e]
    simp only [List.cons_append, List.drop_succ_cons, List.drop_zero, List.append_assoc]

/-- A note that is written is read. -/
theorem rdNote_good {n : Nt} {L : List UInt8} (hn : goodB n = true) (hp : encB n <+: L) : rdNote L = n := by
  obtain ⟨h0, h1, _, _, rest, hd⟩ := enc_head hn hp
  obtain ⟨⟨a0, a1⟩, ⟨b0, b1⟩, ⟨c0, c1⟩, hu⟩ := good_of hn
  have hbl : (bodyB n).length = (nums n (usesZ n.k).toNat).length + 1 := by unfold bodyB; simp
  have hz : ∀ x : Int, 0 ≤ x → ((x.toNat * 2 ^ (7 * (9 - 9)) : Nat) : Int) = x := by intro x hx; simp; omega
  have one : ∀ (p : Nat) (x : Int) (r : List UInt8), 0 ≤ x → x ≤ 2147483647 → L.drop p = numB x.toNat ++ r → p + (numB x.toNat).length ≤ (L[0]?.getD 0).toNat + 1 → rd L ((L[0]?.getD 0).toNat + 1) 9 p 0 = (x, p + (numB x.toNat).length) := by
    intro p x r hx0 hx1 hdr hs
    have hl5 := numB_len5 x.toNat (by omega)
    have := rd_good L ((L[0]?.getD 0).toNat + 1) 9 p 0 x.toNat r (by omega) hdr hs (by omega) (by simp)
    simp only [Nat.zero_add] at this
    rw [hz x hx0] at this
    exact this
  unfold rdNote
  simp only [h1]
  obtain ⟨k, a, b, c⟩ := n
  simp only at *
  have dr : ∀ (p : Nat) (l r : List UInt8), L.drop p = l ++ r → L.drop (p + l.length) = r := by
    intro p l r h
    rw [← List.drop_drop, h, List.drop_left]
  rcases usesZ_cases hu with e | e | e
  · simp only [e] at hd hbl ⊢
    simp only [nums, Int.reduceToNat, List.take_succ_cons, List.take_zero, List.flatMap_cons, List.flatMap_nil, List.append_nil] at hd hbl
    have r0 := one 2 a rest a0 a1 hd (by omega)
    have g : okNum k 1 b = true ∧ okNum k 2 c = true := by unfold goodB at hn; simp at hn; exact ⟨hn.1.1.1.2, hn.1.1.2⟩
    have gb : b = 0 := by have := g.1; unfold okNum at this; rw [e] at this; simp at this; omega
    have gc : c = 0 := by have := g.2; unfold okNum at this; rw [e] at this; simp at this; omega
    simp [rdVal, rdAt, r0, gb, gc]
  · simp only [e] at hd hbl ⊢
    simp only [nums, Int.reduceToNat, List.take_succ_cons, List.take_zero, List.flatMap_cons, List.flatMap_nil, List.append_nil, List.append_assoc, List.length_append] at hd hbl
    have r0 := one 2 a _ a0 a1 hd (by omega)
    have r1 := one _ b _ b0 b1 (dr _ _ _ hd) (by omega)
    have g : okNum k 2 c = true := by unfold goodB at hn; simp at hn; exact hn.1.1.2
    have gc : c = 0 := by have := g; unfold okNum at this; rw [e] at this; simp at this; omega
    simp [rdVal, rdAt, r0, r1, gc]
  · simp only [e] at hd hbl ⊢
    simp only [nums, Int.reduceToNat, List.take_succ_cons, List.take_zero, List.flatMap_cons, List.flatMap_nil, List.append_nil, List.append_assoc, List.length_append] at hd hbl
    have r0 := one 2 a _ a0 a1 hd (by omega)
    have r1 := one _ b _ b0 b1 (dr _ _ _ hd) (by omega)
    have r2 := one _ c _ c0 c1 (dr _ _ _ (dr _ _ _ hd)) (by omega)
    simp [rdVal, rdAt, r0, r1, r2]

/-- Whether bytes begin with a note's: then it is what is read. -/
def okB (L : List UInt8) : Bool := goodB (rdNote L) && (encB (rdNote L)).isPrefixOf L

theorem okB_iff {L : List UInt8} : okB L = true ↔ ∃ n, goodB n = true ∧ encB n <+: L := by
  unfold okB
  rw [Bool.and_eq_true, List.isPrefixOf_iff_prefix]
  constructor
  · rintro ⟨a, b⟩; exact ⟨_, a, b⟩
  · rintro ⟨n, a, b⟩
    rw [rdNote_good a b]; exact ⟨a, b⟩
theorem okB_note {L : List UInt8} {n : Nt} (hn : goodB n = true) (hp : encB n <+: L) : okB L = true ∧ rdNote L = n := ⟨okB_iff.2 ⟨n, hn, hp⟩, rdNote_good hn hp⟩
end Go.Proofs.Ytdclgmffgidcmaa
