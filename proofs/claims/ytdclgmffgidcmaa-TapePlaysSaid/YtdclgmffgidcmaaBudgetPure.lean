/- TapeBudget, the plain law. -/
import Derived.Test.YtdclgmffgidcmaaAwakeWalk
namespace Go.Proofs.Ytdclgmffgidcmaa
set_option linter.unusedSimpArgs false
set_option linter.unusedVariables false
open Go.RowKit

/-- A JCancel of i. -/
def cN (i : Nat) : Nt := ⟨3, i, 0, 0⟩
def cL (m : Nat) : List Nt := (List.range m).map cN
theorem cL_len (m : Nat) : (cL m).length = m := by simp [cL]
theorem cN_len : ∀ i, i < 60 → (encB (cN i)).length = 5 ∧ goodB (cN i) = true := by decide +kernel
theorem cN_part : ∀ i, i < 60 → ∀ r, r < 5 → okB ((encB (cN i)).take r) = false := by decide +kernel
theorem cL_good (m : Nat) (hm : m ≤ 60) : ∀ n ∈ cL m, goodB n = true := by
  intro n hn
  obtain ⟨i, hi, rfl⟩ := List.mem_map.1 hn
  exact (cN_len i (by have := List.mem_range.1 hi; omega)).2
theorem cL_succ (m : Nat) : cL (m + 1) = cL m ++ [cN m] := by simp [cL, List.range_succ]
theorem encL_cL (m : Nat) (hm : m ≤ 60) : (encL (cL m)).length = 5 * m := by
  induction m with
  | zero => rfl
  | succ m ih =>
    rw [cL_succ, encL_append, List.length_append, ih (by omega), show encL [cN m] = encB (cN m) by simp [encL], (cN_len m (by omega)).1]; omega
theorem cL_add (q k : Nat) : cL (q + k) = cL q ++ (List.range k).map (fun i => cN (q + i)) := by
  simp only [cL, List.range_add, List.map_append, List.map_map]; rfl
theorem cL_take (m k : Nat) : (cL m).take k = cL (min k m) := by simp [cL, ← List.map_take, List.take_range]

theorem read_cL (m : Nat) (hm : m ≤ 60) : readL (encL (cL m)) = (cL m, 5 * m) := by
  have h := readL_encL (cL m) (cL_good m hm) []
  have h0 : readL [] = ([], 0) := readL_no (ok_no (.inl (by simp)))
  rw [List.append_nil, h0] at h
  rw [h, encL_cL m hm]; simp

/-- The first n bytes of so many notes. -/
theorem take_cL (m n : Nat) (hm : m ≤ 60) (hn : n < 5 * m) : (encL (cL m)).take n = encL (cL (n / 5)) ++ (encB (cN (n / 5))).take (n % 5) := by
  have hq : n / 5 < m := by omega
  obtain ⟨k, rfl⟩ : ∃ k, m = n / 5 + (k + 1) := ⟨m - n / 5 - 1, by omega⟩
  have hl := encL_cL (n / 5) (by omega)
  rw [cL_add, encL_append, List.take_append, hl, List.take_of_length_le (by rw [hl]; omega), show n - 5 * (n / 5) = n % 5 by omega, List.range_succ_eq_map, List.map_cons, encL_cons, List.take_append_of_le_length]
  · rfl
  · rw [Nat.add_zero, (cN_len _ (by omega)).1]; omega

theorem read_part (a m n : Nat) (ha : a ≤ 60) (hm : m ≤ 60) (hn : n < 5 * m) : (readL (encL (cL a) ++ (encL (cL m)).take n)).1.length = a + n / 5 := by
  rw [take_cL m n hm hn, readL_encL _ (cL_good a ha), readL_encL _ (cL_good (n / 5) (by omega)), readL_no (cN_part _ (by omega) _ (by omega))]
  simp [cL_len]
theorem read_all (a m : Nat) (ha : a ≤ 60) (hm : m ≤ 60) : (readL (encL (cL a) ++ encL (cL m))).1.length = a + m := by
  rw [readL_encL _ (cL_good a ha), read_cL m hm]
  simp [cL_len]

namespace TS
theorem put_free (k : Nat) (l : List UInt8) : ∀ s : TS, s.armed = false → s.dead = false → ∃ bu, s.put k l = { s.set k (s.area k ++ l) with budget := bu } := by
  induction l with
  | nil => intro s h1 h2; exact ⟨s.budget, by simp [put, set, area]; split <;> rfl⟩
  | cons x l ih =>
    rintro ⟨a0, a1, c, ar, bu, de⟩ h1 h2
    dsimp only at h1 h2
    subst h1 h2
    have hp : TS.put1 k ⟨a0, a1, c, false, bu, false⟩ x = { TS.set ⟨a0, a1, c, false, bu, false⟩ k (TS.area ⟨a0, a1, c, false, bu, false⟩ k ++ [x]) with budget := wrap64 (bu - 1) } := by
      unfold put1 unit set area; by_cases hk : k = 0 <;> simp [hk]
    obtain ⟨bu', h⟩ := ih (TS.put1 k ⟨a0, a1, c, false, bu, false⟩ x) (by rw [hp]; unfold set; split <;> rfl) (by rw [hp]; unfold set; split <;> rfl)
    refine ⟨bu', ?_⟩
    show (TS.put1 k ⟨a0, a1, c, false, bu, false⟩ x).put k l = _
    rw [h, hp]
    unfold set area
    by_cases hk : k = 0 <;> simp [hk]

theorem put_dead (k : Nat) (l : List UInt8) : ∀ s : TS, s.dead = true → s.put k l = s := by
  induction l with
  | nil => intro s _; rfl
  | cons x l ih =>
    intro s h
    show (s.put1 k x).put k l = s
    have : s.put1 k x = s := by unfold put1 unit; rw [if_pos h]
    rw [this]; exact ih s h

theorem put_paid (k : Nat) (l : List UInt8) : ∀ (s : TS) (n : Nat), s.armed = true → s.dead = false → s.budget = n → n ≤ 2 ^ 40 → (l.length ≤ n → s.put k l = { s.set k (s.area k ++ l) with budget := (n : Int) - l.length }) ∧
    (n < l.length → s.put k l = { s.set k (s.area k ++ l.take n) with budget := 0, dead := true }) := by
  induction l with
  | nil =>
    rintro ⟨a0, a1, c, ar, bu, de⟩ n h1 h2 h3 h4
    dsimp only at h1 h2 h3
    subst h1 h2 h3
    refine ⟨fun _ => ?_, fun h => by simp at h⟩
    unfold set area
    by_cases hk : k = 0 <;> simp [hk, put]
  | cons x l ih =>
    rintro ⟨a0, a1, c, ar, bu, de⟩ n h1 h2 h3 h4
    dsimp only at h1 h2 h3
    subst h1 h2 h3
    cases n with
    | zero =>
      refine ⟨fun h => by simp at h, fun _ => ?_⟩
      show (TS.put1 k ⟨a0, a1, c, true, ((0 : Nat) : Int), false⟩ x).put k l = _
      have hp : TS.put1 k ⟨a0, a1, c, true, ((0 : Nat) : Int), false⟩ x = ⟨a0, a1, c, true, 0, true⟩ := by simp [put1, unit]
      rw [hp, put_dead _ _ _ rfl]
      unfold set area
      by_cases hk : k = 0 <;> simp [hk]
    | succ n =>
      have hw : wrap64 (((n + 1 : Nat) : Int) - 1) = (n : Int) := by unfold wrap64; omega
      have hp : TS.put1 k ⟨a0, a1, c, true, ((n + 1 : Nat) : Int), false⟩ x = { TS.set ⟨a0, a1, c, true, 0, false⟩ k (TS.area ⟨a0, a1, c, true, 0, false⟩ k ++ [x]) with budget := (n : Int) } := by
        have hz : ((((n + 1 : Nat) : Int)) == 0) = false := by simp; omega
        unfold put1 unit; dsimp only; rw [hw, hz]; unfold set area; by_cases hk : k = 0 <;> simp [hk]
      have hi := ih (TS.put1 k ⟨a0, a1, c, true, ((n + 1 : Nat) : Int), false⟩ x) n (by rw [hp]; unfold set; split <;> rfl) (by rw [hp]; unfold set; split <;> rfl) (by rw [hp]) (by omega)
      refine ⟨fun h => ?_, fun h => ?_⟩
      · show (TS.put1 k ⟨a0, a1, c, true, ((n + 1 : Nat) : Int), false⟩ x).put k l = _
        rw [hi.1 (by simp at h; omega), hp]
        unfold set area
        by_cases hk : k = 0 <;> simp [hk] <;> omega
      · show (TS.put1 k ⟨a0, a1, c, true, ((n + 1 : Nat) : Int), false⟩ x).put k l = _
        rw [hi.2 (by simp at h; omega), hp]
        unfold set area
        by_cases hk : k = 0 <;> simp [hk]
end TS


theorem cL_all (m : Nat) (hm : m ≤ 60) : (cL m).all goodB = true := List.all_eq_true.2 (cL_good m hm)

/-- The first append, without a budget. -/
theorem append_first (p : Nat) (hp : p ≤ 3) : ∃ bu, TS.append ⟨[], [], 0, false, 0, false⟩ (cL p) = (⟨encL (cL p), [], 0, false, bu, false⟩, 0) := by
  obtain ⟨bu, h⟩ := TS.put_free 0 (encL (cL p)) ⟨[], [], 0, false, 0, false⟩ rfl rfl
  refine ⟨bu, ?_⟩
  have hl := encL_cL p (by omega)
  have h0 : readL [] = ([], 0) := readL_no (ok_no (.inl (by simp)))
  unfold TS.append
  simp only [cL_all p (by omega), TS.area, if_true, h0, h]
  simp [TS.set, hl]
  omega

/-- The second: with a budget of n. -/
theorem append_second (p m n : Nat) (hp : p ≤ 3) (hm : m ≤ 60) (hn : n ≤ 300) :
    (5 * m ≤ n → TS.append ⟨encL (cL p), [], 0, true, n, false⟩ (cL m) = (⟨encL (cL p) ++ encL (cL m), [], 0, true, (n : Int) - ((5 * m : Nat) : Int), false⟩, 0)) ∧
    (n < 5 * m → TS.append ⟨encL (cL p), [], 0, true, n, false⟩ (cL m) = (⟨encL (cL p) ++ (encL (cL m)).take n, [], 0, true, 0, true⟩, 190)) := by
  have h := TS.put_paid 0 (encL (cL m)) ⟨encL (cL p), [], 0, true, n, false⟩ n rfl rfl rfl (by omega)
  have hl := encL_cL p (by omega)
  have hl2 := encL_cL m hm
  rw [hl2] at h
  have hr : (readL (encL (cL p))).2 = 5 * p := by rw [read_cL p (by omega)]
  refine ⟨fun hc => ?_, fun hc => ?_⟩
  · unfold TS.append
    rw [h.1 hc]
    simp [cL_all m hm, TS.area, TS.set, hr, hl, hl2]
    omega
  · unfold TS.append
    rw [h.2 hc]
    simp [cL_all m hm, TS.area, TS.set, hr, hl, hl2]
    omega

theorem rd_cL {w : World} {g k : Nat} (h : Own w 37 4 k (.slice (some ⟨g, 0, none⟩) k k) (cellsL (cL k))) (p : Nat) (hp : p ≤ k) : Rd w 4 (cL p).length (.slice (some ⟨g, 0, none⟩) p k) (cellsL (cL p)) := by
  have h1 := h.rd.take rfl p hp
  have h2 : (cellsL (cL k)).take (p * 4) = cellsL (cL p) := by
    obtain ⟨q, rfl⟩ : ∃ q, k = p + q := ⟨k - p, by omega⟩
    rw [cL_add]
    unfold cellsL
    rw [List.flatMap_append, List.take_append_of_le_length (by rw [show ((cL p).flatMap Nt.cells) = cellsL (cL p) by rfl, cellsL_len, cL_len]; omega), List.take_of_length_le (by rw [show ((cL p).flatMap Nt.cells) = cellsL (cL p) by rfl, cellsL_len, cL_len]; omega)]
  rw [cL_len, ← h2]
  exact h1

end Go.Proofs.Ytdclgmffgidcmaa
