/- Notes and sums as plain functions on numbers and lists of bytes; no condition. -/
import Derived.Test.YtdclgmffgidcmaaBase
namespace Go.Proofs.Ytdclgmffgidcmaa
set_option linter.unusedSimpArgs false
set_option linter.unusedVariables false
open Go.RowKit

/-- A note. -/
structure Nt where
  k : Int
  a : Int
  b : Int
  c : Int
  deriving DecidableEq

def Nt.cells (n : Nt) : List Value := [.int .i64 n.k, .int .i64 n.a, .int .i64 n.b, .int .i64 n.c]
def Nt.val (n : Nt) : Value := .agg #[.int .i64 n.k, .int .i64 n.a, .int .i64 n.b, .int .i64 n.c]

/-- How many numbers a kind uses; below 0: it is none. -/
def usesZ (k : Int) : Int := if k = 2 ∨ k = 4 then 3 else if k = 1 ∨ k = 5 ∨ k = 8 then 2 else if k = 3 ∨ k = 6 ∨ k = 7 then 1 else -1

/-- Is a number one that a note may have at the place i? -/
def okNum (k : Int) (i : Int) (x : Int) : Bool := decide (0 ≤ x) && decide (x ≤ 2147483647) && (decide (i < usesZ k) || decide (x = 0))

def goodB (n : Nt) : Bool := okNum n.k 0 n.a && okNum n.k 1 n.b && okNum n.k 2 n.c && decide (0 < usesZ n.k) && (decide (n.k ≠ 8) || decide (n.b ≤ 1))

/-- A number's bytes. -/
def numB (x : Nat) : List UInt8 := if h : x < 128 then [byteOf x] else byteOf ((x % 128 + 128 : Nat) : Int) :: numB (x / 128)
  termination_by x
  decreasing_by omega

/-- The sum's step, on numbers below 2^16 and 2^8. -/
def stepN (c b : Nat) : Nat :=
  let x0 := (c / 256) ^^^ b
  let x := x0 ^^^ (x0 / 16)
  ((c * 256 % 65536) ^^^ (x * 4096 % 65536)) ^^^ (x * 32 % 65536) ^^^ x

def rs (c : Nat) : Nat := if 32768 ≤ c then (c * 2 % 65536) ^^^ 4129 else c * 2 % 65536
def rsN : Nat → Nat → Nat
  | 0, c => c
  | k + 1, c => rsN k (rs c)
def stepR (c b : Nat) : Nat := rsN 8 (c ^^^ (b * 256))

def sumFrom (c : Nat) (l : List UInt8) : Nat := l.foldl (fun c x => stepN c x.toNat) c
def sumN (l : List UInt8) : Nat := sumFrom 65535 l

theorem xor_lt16 {a b : Nat} (ha : a < 65536) (hb : b < 65536) : a ^^^ b < 65536 := Nat.xor_lt_two_pow (n := 16) ha hb

theorem rs_lt (c : Nat) : rs c < 65536 := by
  unfold rs; split
  · exact xor_lt16 (by omega) (by omega)
  · omega

theorem stepN_lt (c b : Nat) (hc : c < 65536) (hb : b < 256) : stepN c b < 65536 := by
  unfold stepN
  have h0 : (c / 256) ^^^ b < 256 := Nat.xor_lt_two_pow (n := 8) (by omega) (by omega)
  have h1 : ((c / 256) ^^^ b) ^^^ (((c / 256) ^^^ b) / 16) < 256 := Nat.xor_lt_two_pow (n := 8) h0 (by omega)
  exact xor_lt16 (xor_lt16 (xor_lt16 (by omega) (by omega)) (by omega)) (by omega)

theorem sumFrom_lt (l : List UInt8) : ∀ c, c < 65536 → sumFrom c l < 65536 := by
  induction l with
  | nil => intro c h; exact h
  | cons x l ih => intro c h; exact ih _ (stepN_lt c _ h (UInt8.toNat_lt x))

theorem sumN_lt (l : List UInt8) : sumN l < 65536 := sumFrom_lt l 65535 (by omega)

theorem sumFrom_snoc (c : Nat) (l : List UInt8) (x : UInt8) : sumFrom c (l ++ [x]) = stepN (sumFrom c l) x.toNat := by simp [sumFrom]

theorem top_xor (x l : Nat) (hx : x < 65536) (hl : l < 32768) : (32768 ≤ x ^^^ l) ↔ 32768 ≤ x := by
  have h15 : ∀ y : Nat, y < 65536 → (y.testBit 15 = true ↔ 32768 ≤ y) := by
    intro y hy
    rw [Nat.testBit_eq_decide_div_mod_eq]
    simp; omega
  have hl0 : l.testBit 15 = false := by
    have := h15 l (by omega)
    cases h : l.testBit 15
    · rfl
    · have h2 := this.1 h; omega
  rw [← h15 x hx, ← h15 _ (xor_lt16 hx (Nat.lt_trans hl (by decide))), Nat.testBit_xor, hl0, Bool.xor_false]

theorem dbl_xor (x l : Nat) (hl : l < 32768) : (x ^^^ l) * 2 % 65536 = (x * 2 % 65536) ^^^ (2 * l) := by
  have e1 : (x ^^^ l) * 2 = (x * 2) ^^^ (l * 2) := by
    have := Nat.shiftLeft_xor_distrib (a := x) (b := l) (i := 1)
    simpa [Nat.shiftLeft_eq] using this
  have e2 := Nat.xor_mod_two_pow (a := x * 2) (b := l * 2) (n := 16)
  rw [e1]
  have e3 : l * 2 % 2 ^ 16 = 2 * l := by omega
  rw [e3] at e2
  exact e2

theorem rs_low (x l : Nat) (hx : x < 65536) (hl : l < 32768) : rs (x ^^^ l) = rs x ^^^ (2 * l) := by
  unfold rs
  have ht := top_xor x l hx hl
  by_cases h : 32768 ≤ x
  · rw [if_pos h, if_pos (ht.2 h), dbl_xor x l hl, Nat.xor_assoc, Nat.xor_comm (2 * l), ← Nat.xor_assoc]
  · rw [if_neg h, if_neg (fun q => h (ht.1 q)), dbl_xor x l hl]

theorem rsN_low (x l : Nat) (hx : x < 65536) (hl : l < 256) : rsN 8 (x ^^^ l) = rsN 8 x ^^^ (256 * l) := by
  simp only [rsN]
  rw [rs_low x l hx (by omega), rs_low _ _ (rs_lt _) (by omega), rs_low _ _ (rs_lt _) (by omega), rs_low _ _ (rs_lt _) (by omega),
    rs_low _ _ (rs_lt _) (by omega), rs_low _ _ (rs_lt _) (by omega), rs_low _ _ (rs_lt _) (by omega), rs_low _ _ (rs_lt _) (by omega)]
  congr 1
  omega

theorem tab_eq : ∀ t : Fin 256, rsN 8 (t.val * 256) = (((t.val ^^^ (t.val / 16)) * 4096 % 65536) ^^^ ((t.val ^^^ (t.val / 16)) * 32 % 65536)) ^^^ (t.val ^^^ (t.val / 16)) := by
  decide +kernel

/-- The two ways to step are one. -/
theorem stepR_eq (c b : Nat) (hc : c < 65536) (hb : b < 256) : stepR c b = stepN c b := by
  have hlo : c % 256 < 256 := Nat.mod_lt _ (by omega)
  have ht : (c / 256) ^^^ b < 256 := Nat.xor_lt_two_pow (n := 8) (by omega) (by omega)
  have split : c ^^^ (b * 256) = (((c / 256) ^^^ b) * 256) ^^^ (c % 256) := by
    have e1 : c = (c / 256 * 256) ^^^ (c % 256) := by
      have h := Nat.two_pow_add_eq_or_of_lt (i := 8) hlo (c / 256)
      have h2 : c / 256 * 256 ||| c % 256 = c / 256 * 256 ^^^ c % 256 := by
        apply Nat.eq_of_testBit_eq
        intro i
        rw [Nat.testBit_or, Nat.testBit_xor]
        by_cases hi : i < 8
        · have : (c / 256 * 256).testBit i = false := by
            rw [show c / 256 * 256 = (c / 256) <<< 8 from by rw [Nat.shiftLeft_eq]]
            rw [Nat.testBit_shiftLeft]
            simp; omega
          simp [this]
        · have : (c % 256).testBit i = false := Nat.testBit_lt_two_pow (Nat.lt_of_lt_of_le hlo (by have := Nat.pow_le_pow_right (n := 2) (by omega) (show 8 ≤ i by omega); omega))
          simp [this]
      rw [← h2, Nat.mul_comm (c / 256) 256, ← h]
      omega
    have e2 : ((c / 256) ^^^ b) * 256 = (c / 256 * 256) ^^^ (b * 256) := by
      have := Nat.shiftLeft_xor_distrib (a := c / 256) (b := b) (i := 8)
      simpa [Nat.shiftLeft_eq] using this
    rw [e2]
    conv => lhs; rw [e1]
    rw [Nat.xor_assoc, Nat.xor_comm (c % 256), ← Nat.xor_assoc]
  unfold stepR
  rw [split, rsN_low _ _ (by omega) hlo, tab_eq ⟨_, ht⟩]
  unfold stepN
  have e3 : c * 256 % 65536 = 256 * (c % 256) := by omega
  simp only [e3]
  generalize c / 256 ^^^ b = t
  generalize t ^^^ t / 16 = u
  rw [Nat.xor_comm _ (256 * (c % 256)), ← Nat.xor_assoc, ← Nat.xor_assoc]

/-- The numbers that a note's kind uses. -/
def numsOf (n : Nt) : List Int := [n.a, n.b, n.c].take (usesZ n.k).toNat
/-- The bytes of the first j of them. -/
def nums (n : Nt) (j : Nat) : List UInt8 := ([n.a, n.b, n.c].take j).flatMap (fun x => numB x.toNat)
def bodyB (n : Nt) : List UInt8 := byteOf n.k :: nums n (usesZ n.k).toNat
def headB (n : Nt) : List UInt8 := byteOf (bodyB n).length :: bodyB n
/-- A note's bytes. -/
def encB (n : Nt) : List UInt8 := headB n ++ [byteOf ((sumN (headB n) / 256 : Nat) : Int), byteOf ((sumN (headB n) : Nat) : Int)]

theorem numB_lt (y : Nat) (h : y < 128) : numB y = [byteOf y] := by rw [numB]; simp [h]
theorem numB_ge (y : Nat) (h : ¬ y < 128) : numB y = byteOf ((y % 128 + 128 : Nat) : Int) :: numB (y / 128) := by rw [numB]; simp [h]
theorem numB_pos (y : Nat) : 0 < (numB y).length := by
  by_cases h : y < 128
  · rw [numB_lt y h]; simp
  · rw [numB_ge y h]; simp
theorem numB_len (k : Nat) : ∀ y, y < 128 ^ (k + 1) → (numB y).length ≤ k + 1 := by
  induction k with
  | zero => intro y h; rw [numB_lt y (by simpa using h)]; simp
  | succ k ih =>
    intro y h
    by_cases h8 : y < 128
    · rw [numB_lt y h8]; simp
    · rw [numB_ge y h8]
      have := ih (y / 128) (by rw [Nat.div_lt_iff_lt_mul (by omega)]; rw [Nat.pow_succ] at h; exact h)
      simp only [List.length_cons]; omega
theorem numB_len5 (y : Nat) (h : y < 2 ^ 31) : (numB y).length ≤ 5 := numB_len 4 y (by omega)

theorem bv_of (n : Int) (h0 : 0 ≤ n) (h1 : n < 256) : Value.int .u8 n = bv (byteOf n) := by
  rw [← bv_cut, IntKind.wrap_u8, Int.emod_eq_of_lt h0 h1]

/-- What is good of a good note. -/
theorem good_of {n : Nt} (h : goodB n = true) : (0 ≤ n.a ∧ n.a ≤ 2147483647) ∧ (0 ≤ n.b ∧ n.b ≤ 2147483647) ∧ (0 ≤ n.c ∧ n.c ≤ 2147483647) ∧ 0 < usesZ n.k := by
  unfold goodB okNum at h
  simp at h
  omega
theorem usesZ_le (k : Int) : usesZ k ≤ 3 := by unfold usesZ; repeat (first | split | omega)
theorem kind_of {k : Int} (h : 0 < usesZ k) : 1 ≤ k ∧ k ≤ 8 := by
  unfold usesZ at h
  repeat (first | omega | split at h)

theorem nums_len {n : Nt} (h : goodB n = true) (j : Nat) : (nums n j).length ≤ 15 := by
  obtain ⟨⟨a0, a1⟩, ⟨b0, b1⟩, ⟨c0, c1⟩, _⟩ := good_of h
  have ha := numB_len5 n.a.toNat (by omega)
  have hb := numB_len5 n.b.toNat (by omega)
  have hc := numB_len5 n.c.toNat (by omega)
  unfold nums
  match j with
  | 0 => simp
  | 1 => simp; omega
  | 2 => simp; omega
  | k + 3 => simp; omega
theorem nums_succ (n : Nt) (j : Nat) (hj : j < 3) : nums n (j + 1) = nums n j ++ numB ([n.a, n.b, n.c].getD j 0).toNat := by
  unfold nums
  match j, hj with
  | 0, _ => simp
  | 1, _ => simp
  | 2, _ => simp
theorem encB_len {n : Nt} (h : goodB n = true) : (encB n).length ≤ 19 ∧ 4 ≤ (encB n).length := by
  have := nums_len h (usesZ n.k).toNat
  unfold encB headB bodyB
  simp only [List.length_append, List.length_cons, List.length_nil]
  omega
end Go.Proofs.Ytdclgmffgidcmaa
