/- TapeBudget, the walk. -/
import Derived.Test.YtdclgmffgidcmaaBudgetPure
namespace Go.Proofs.Ytdclgmffgidcmaa
set_option linter.unusedSimpArgs false
set_option linter.unusedVariables false
open Go.RowKit

/-- int(uint(a) % k). -/
theorem wrap_rem (a : Int) (k : Nat) (hk : 0 < k) (hk2 : k ≤ 2 ^ 20) : ∃ N : Nat, wrap64 ((IntKind.u64.wrap a).tmod (k : Int)) = (N : Int) ∧ N < k := by
  have h0 : 0 ≤ IntKind.u64.wrap a := by rw [IntKind.wrap_u64]; omega
  rw [Int.tmod_eq_emod_of_nonneg h0]
  have h1 := Int.emod_nonneg (IntKind.u64.wrap a) (show (k : Int) ≠ 0 by omega)
  have h2 := Int.emod_lt_of_pos (IntKind.u64.wrap a) (show (0 : Int) < (k : Int) by omega)
  generalize IntKind.u64.wrap a % (k : Int) = r at *
  obtain ⟨N, rfl⟩ := Int.eq_ofNat_of_zero_le h1
  exact ⟨N, by unfold wrap64; omega, by omega⟩

theorem set4 (A R : List Value) (j : Nat) (hA : A.length = j) (hR : 4 ≤ R.length) (a b c d : Value) :
    ((((A ++ R).set j a).set (j + 1) b).set (j + 2) c).set (j + 3) d = A ++ [a, b, c, d] ++ R.drop 4 := by
  subst hA
  match R, hR with
  | r0 :: r1 :: r2 :: r3 :: R, _ => simp [List.set_append]

theorem own_at {w : World} {e : TypeId} {sz n g cap : Nat} {xs : List Value} (h : Own w e sz n (.slice (some ⟨g, 0, none⟩) n cap) xs) (j : Nat) (hj : j < n * sz) : (∃ u, w.cell? ⟨g, j, none⟩ = some u) ∧ w.frozen? ⟨g, j, none⟩ = false := by
  rcases h.shape with ⟨hv, _⟩ | ⟨g', cap', hv, _, _, _, hc⟩
  · cases hv
  · cases hv
    refine ⟨⟨xs[j]'(by rw [h.len]; exact hj), ?_⟩, (hc j hj).2⟩
    rw [(hc j hj).1, List.getElem?_eq_getElem]

/-- What the loop that fills the notes holds. -/
def FillRel (w3 : World) (g M : Nat) (iv : Value) (wr : World) : Prop :=
  ∃ k : Nat, iv = .int .i64 k ∧ k ≤ M ∧ (∃ R, Own wr 37 4 M (.slice (some ⟨g, 0, none⟩) M M) (cellsL (cL k) ++ R)) ∧ Keep (fun j => j = g) w3 wr

theorem fill_step {w3 wr : World} {g M k : Nat} {R : List Value} (hk : k < M) (ho : Own wr 37 4 M (.slice (some ⟨g, 0, none⟩) M M) (cellsL (cL k) ++ R)) (hK : Keep (fun j => j = g) w3 wr) :
    FillRel w3 g M (.int .i64 ((k + 1 : Nat) : Int)) ((((wr.setCell ⟨g, k * 4, none⟩ (.int .i64 3)).setCell ⟨g, k * 4 + 1, none⟩ (.int .i64 k)).setCell ⟨g, k * 4 + 2, none⟩ (.int .i64 0)).setCell ⟨g, k * 4 + 3, none⟩ (.int .i64 0)) := by
  refine ⟨k + 1, rfl, hk, ⟨R.drop 4, ?_⟩, ?_⟩
  · have h := (((ho.store (k * 4) (.int .i64 3)).store (k * 4 + 1) (.int .i64 k)).store (k * 4 + 2) (.int .i64 0)).store (k * 4 + 3) (.int .i64 0)
    have hl := ho.len
    rw [List.length_append, cellsL_len, cL_len] at hl
    rw [set4 _ _ _ (by rw [cellsL_len, cL_len]) (by omega)] at h
    rw [cL_succ, show cellsL (cL k ++ [cN k]) = cellsL (cL k) ++ [.int .i64 3, .int .i64 (k : Int), .int .i64 0, .int .i64 0] by simp [cellsL, Nt.cells, cN]]
    exact h
  · exact (((hK.setCell (p := ⟨g, k * 4, none⟩) (fun _ => rfl) _).setCell (p := ⟨g, k * 4 + 1, none⟩) (fun _ => rfl) _).setCell (p := ⟨g, k * 4 + 2, none⟩) (fun _ => rfl) _).setCell (p := ⟨g, k * 4 + 3, none⟩) (fun _ => rfl) _

theorem keep_below {F : Nat → Prop} {B : Nat} {w w1 w2 : World} (h : Below B w w1) (k : Keep F w1 w2) (hB : B ≤ w1.heap.size) (hF : ∀ i, F i → B ≤ i) : Below B w w2 :=
  h.trans ⟨k.os, k.tape, k.output, k.size, fun i hi => k.block i (Nat.lt_of_lt_of_le hi hB) (fun q => absurd (hF i q) (by omega))⟩
theorem own_keep {F : Nat → Prop} {w w1 : World} {e : TypeId} {sz n g cap : Nat} {xs : List Value} (h : Own w e sz n (.slice (some ⟨g, 0, none⟩) n cap) xs) (k : Keep F w w1) (hF : ¬ F g) : Own w1 e sz n (.slice (some ⟨g, 0, none⟩) n cap) xs :=
  h.kept k fun b e _ q => by
    have : g = b := by simpa [Value.ownBlock] using e
    subst this
    exact hF q
theorem small_cL (p : Nat) (hp : p ≤ 3) (ar : Bool) (bu : Int) (de : Bool) : small ⟨encL (cL p), [], 0, ar, bu, de⟩ := ⟨by simp only; rw [encL_cL p (by omega)]; omega, by simp, .inl rfl⟩

set_option maxHeartbeats 1000000 in
theorem budget_any (a0 a1 : Int) (w0 : (Lit.int .i64 a0).wf = true) (w1 : (Lit.int .i64 a1).wf = true) (w : World) :
    Calls Try.prog 4 #[.int .i64 a0, .int .i64 a1] w fun e w' => e = .returned (.bool true) ∧ Below w.heap.size w w' := by
  have HN := Lib.hid (new_any w)
  go_enter Try.func4, Try.ntmps4
  go_wp2_with fail
  refine HN.out.mono ?_
  rintro e u1 ⟨rfl, t1, hb1⟩
  have HB1 := Lib.hid hb1
  have HT1 := Lib.hid t1
  have HA := Lib.hid (awake_any u1)
  clear hb1 t1 HN
  go_wp2_with fail
  refine HA.out.mono ?_
  rintro e w2 ⟨rfl, hb2⟩
  have HB2 := Lib.hid (HB1.out.trans (hb2.mono HB1.out.size))
  have HT2 := Lib.hid (HT1.out.below hb2)
  clear hb2 HT1 HB1 HA
  obtain ⟨N, hN, hN3⟩ := wrap_rem a0 300 (by decide) (by decide)
  obtain ⟨M, hM, hM6⟩ := wrap_rem a1 60 (by decide) (by decide)
  obtain ⟨i, hi1, hi2, hi3, hi4⟩ := info_parts Try.info_note
  obtain ⟨w3, hrun, hrow, hgr⟩ := run_make_full (P := Try.prog) w2 0 29 37 i _ 4 Try.underlying29 hi1 hi2 hi3 .i64 .i64 M (by rw [hi4]; omega) (by unfold maxLen; omega) (Nat.zero_le _)
  have HO3 := Lib.hid (Own.ofRow hrow)
  have HG3 := Lib.hid hgr
  clear hrow hgr
  go_wp2_with fail
  rw [show ((300 : Nat) : Int) = 300 by rfl] at hN
  rw [show ((60 : Nat) : Int) = 60 by rfl] at hM
  rw [hN, hM, hrun]
  clear hN hM hrun w0 w1 hi1 hi2 hi3 hi4
  generalize IntKind.u64.wrap a0 = A0
  generalize IntKind.u64.wrap a1 = A1
  have hs3 := HG3.out.size
  have hsb := HT2.out.lt _ HT2.out.me
  go_wp2
  go_loopw [29] (fun iv wr => FillRel w3 w2.heap.size M iv wr) (fun iv _ => M - (intOf iv).toNat)
  case atStart => exact ⟨0, rfl, Nat.zero_le _, ⟨_, HO3.out⟩, Keep.refl _ _⟩
  case round =>
    obtain ⟨k, rfl, hk, ⟨R, ho⟩, hK⟩ := hrel
    by_cases hlt : k < M
    · have HF := Lib.hid (fill_step hlt ho hK)
      obtain ⟨⟨x0, c0⟩, f0⟩ := own_at ho (k * 4) (by omega)
      obtain ⟨⟨x1, c1⟩, f1⟩ := own_at ho (k * 4 + 1) (by omega)
      obtain ⟨⟨x2, c2⟩, f2⟩ := own_at ho (k * 4 + 2) (by omega)
      obtain ⟨⟨x3, c3⟩, f3⟩ := own_at ho (k * 4 + 3) (by omega)
      have hgl := lt_of_cell c0
      clear ho hK
      go_wp2
      go_roundw
      case rel => exact HF.out
      case measure => simp [intOf]; omega
    · obtain rfl : k = M := by omega
      clear hlt
      have hR : R = [] := by
        have := ho.len
        rw [List.length_append, cellsL_len, cL_len] at this
        exact List.eq_nil_of_length_eq_zero (by omega)
      subst hR
      rw [List.append_nil] at ho
      have HO := Lib.hid ho
      have hTw : TapeAt wr w.heap.size (fun k => k = w.heap.size) ⟨[], [], 0, false, 0, false⟩ := (HT2.out.kept (Keep.ofGrown HG3.out) (fun _ _ h => by cases h)).kept hK (fun j h e => by omega)
      have HTw := Lib.hid hTw
      have hBw : Below w.heap.size w wr := HB2.out.trans ((⟨HG3.out.os, HG3.out.tape, HG3.out.output, HG3.out.size, fun i hi => HG3.out.block i (by omega) (fun q => by cases q)⟩ : Below w.heap.size w2 w3).trans ⟨hK.os, hK.tape, hK.output, hK.size, fun i hi => hK.block i (by omega) (by omega)⟩)
      have HBw := Lib.hid hBw
      have hgr : w2.heap.size < wr.heap.size := by
        rcases ho.shape with ⟨h, _⟩ | ⟨_, _, h, _, _, h', _⟩
        · cases h
        · cases h; exact h'
      clear ho hK hTw hBw HO3 HG3 HT2 HB2
      by_cases hk3 : k ≤ 3
      · have hpk : k ≤ k := Nat.le_refl _
        have hp3 : k ≤ 3 := hk3
        obtain ⟨bu, hap⟩ := append_first k hp3
        have HA := Lib.hid (append_any wr w.heap.size _ ⟨[], [], 0, false, 0, false⟩ (cL k) _ HTw.out (small_lit _ (by decide) (by decide) rfl) (rd_cL HO.out k hpk).ns (by rw [cL_len]; omega))
        unfold AppP at HA
        rw [hap] at HA
        clear hap
        go_wp2_with fail
        refine HA.out.mono ?_
        rintro e w4 ⟨rfl, t4, k4⟩
        have HK4 := Lib.hid k4
        have HS4 := Lib.hid (size_any w4 _ _ _ t4 (.inl rfl))
        rw [show ((TS.area ⟨encL (cL k), [], 0, false, bu, false⟩ 0).length : Int) = 5 * (k : Int) by rw [show TS.area ⟨encL (cL k), [], 0, false, bu, false⟩ 0 = encL (cL k) by rfl, encL_cL k (by omega)]; rfl] at HS4
        have HT4 := Lib.hid t4
        clear k4 t4 HA
        go_wp2_with fail
        refine HS4.out.mono ?_
        rintro e w5 ⟨rfl, hb5⟩
        have HB5 := Lib.hid hb5
        have HA5 := Lib.hid (arm_yes w5 _ N _ _ (HT4.out.below hb5) rfl (by omega))
        clear hb5 HS4
        go_wp2_with fail
        refine HA5.out.mono ?_
        rintro e w6 ⟨rfl, t6, k6⟩
        have HK6 := Lib.hid k6
        have t6' : TapeAt w6 w.heap.size (Wider (fun k => k = w.heap.size) wr w4) ⟨encL (cL k), [], 0, true, N, false⟩ := t6
        have HT6 := Lib.hid t6'
        have HS6 := Lib.hid (size_any w6 _ _ _ t6' (.inl rfl))
        rw [show ((TS.area ⟨encL (cL k), [], 0, true, N, false⟩ 0).length : Int) = 5 * (k : Int) by rw [show TS.area ⟨encL (cL k), [], 0, true, N, false⟩ 0 = encL (cL k) by rfl, encL_cL k (by omega)]; rfl] at HS6
        clear t6 t6' k6 HA5
        go_wp2_with fail
        refine HS6.out.mono ?_
        rintro e w7 ⟨rfl, hb7⟩
        have HT7 := Lib.hid (HT6.out.below hb7)
        have HO7 := Lib.hid ((own_keep ((own_keep HO.out HK4.out (by omega)).below HB5.out) HK6.out (fun h => by rcases h with h | h <;> omega)).below hb7)
        have HW7 : Hid (Below w.heap.size w w7) := (keep_below ((keep_below HBw.out HK4.out HBw.out.size (fun i h => by omega)).trans (HB5.out.mono (Nat.le_trans HBw.out.size HK4.out.size))) HK6.out (Nat.le_trans (Nat.le_trans HBw.out.size HK4.out.size) HB5.out.size)
          (fun i h => by rcases h with h | h <;> omega)).trans (hb7.mono (by have := HBw.out.size; have := HK4.out.size; have := HB5.out.size; have := HK6.out.size; omega))
        have hsec := append_second k k N hp3 (by omega) (by omega)
        have HA7 := Lib.hid (append_any w7 _ _ ⟨encL (cL k), [], 0, true, N, false⟩ (cL k) _ HT7.out (small_cL k hp3 _ _ _) (rd_cL HO7.out k (Nat.le_refl _)).ns (by rw [cL_len]; omega))
        unfold AppP at HA7
        have hF7 : Hid (∀ i, (Wider (fun k => k = w.heap.size) wr w4) i → w.heap.size ≤ i) := fun i h => by rcases h with h | h <;> omega
        clear hb7 HS6 HK4 HK6 HB5 HT6 HO HTw HBw HT7 HO7
        by_cases hc : 5 * k ≤ N
        · rw [hsec.1 hc] at HA7
          clear hsec
          go_wp2_with fail
          have hlen : ((encL (cL k) ++ encL (cL k)).length : Int) = 5 * (k : Int) + 5 * (k : Int) := by simp only [List.length_append, encL_cL k (by omega), encL_cL k (by omega)]; omega
          have hsm : small ⟨encL (cL k) ++ encL (cL k), [], 0, true, (N : Int) - ((5 * k : Nat) : Int), false⟩ := ⟨by simp only; omega, by simp, .inl rfl⟩
          refine HA7.out.mono ?_
          rintro e w8 ⟨rfl, t8, k8⟩
          have HW8 := Lib.hid (keep_below HW7.out k8 HW7.out.size hF7.out)
          have HT8 := Lib.hid t8
          have HS8 := Lib.hid (size_any w8 _ _ _ t8 (.inl rfl))
          rw [show ((TS.area ⟨encL (cL k) ++ encL (cL k), [], 0, true, (N : Int) - ((5 * k : Nat) : Int), false⟩ 0).length : Int) = 5 * (k : Int) + 5 * (k : Int) from hlen] at HS8
          clear t8 k8 HA7 hF7 HW7
          go_wp2_with fail
          refine HS8.out.mono ?_
          rintro e w9 ⟨rfl, hb9⟩
          have HW9 := Lib.hid (HW8.out.trans (hb9.mono HW8.out.size))
          have HR9 := Lib.hid (tread_any w9 _ _ _ (HT8.out.below hb9) hsm)
          rw [show TS.area ⟨encL (cL k) ++ encL (cL k), [], 0, true, (N : Int) - ((5 * k : Nat) : Int), false⟩ (TS.c ⟨encL (cL k) ++ encL (cL k), [], 0, true, (N : Int) - ((5 * k : Nat) : Int), false⟩) = encL (cL k) ++ encL (cL k) by rfl, (read_all k k (by omega) (by omega)).trans (Nat.add_comm _ _)] at HR9
          clear hb9 HS8 HT8 HW8 hsm hlen
          go_wp2_with fail
          refine HR9.out.mono ?_
          rintro e w10 ⟨v', rfl, ho, hb10, -⟩
          obtain ⟨p, cap, rfl⟩ := own_slice ho
          have HW10 := Lib.hid (HW9.out.trans (hb10.mono HW9.out.size))
          clear ho hb10 HR9 HW9
          go_wp2
          go_ret
          exact ⟨rfl, HW10.out⟩
        · rw [hsec.2 (by omega)] at HA7
          clear hsec
          go_wp2_with fail
          have hlen : ((encL (cL k) ++ (encL (cL k)).take N).length : Int) = 5 * (k : Int) + (N : Int) := by simp only [List.length_append, List.length_take, encL_cL k (by omega), encL_cL k (by omega)]; omega
          have hsm : small ⟨encL (cL k) ++ (encL (cL k)).take N, [], 0, true, 0, true⟩ := ⟨by simp only; omega, by simp, .inl rfl⟩
          refine HA7.out.mono ?_
          rintro e w8 ⟨rfl, t8, k8⟩
          have HW8 := Lib.hid (keep_below HW7.out k8 HW7.out.size hF7.out)
          have HT8 := Lib.hid t8
          have HS8 := Lib.hid (size_any w8 _ _ _ t8 (.inl rfl))
          rw [show ((TS.area ⟨encL (cL k) ++ (encL (cL k)).take N, [], 0, true, 0, true⟩ 0).length : Int) = 5 * (k : Int) + (N : Int) from hlen] at HS8
          clear t8 k8 HA7 hF7 HW7
          go_wp2_with fail
          refine HS8.out.mono ?_
          rintro e w9 ⟨rfl, hb9⟩
          have HW9 := Lib.hid (HW8.out.trans (hb9.mono HW8.out.size))
          have HR9 := Lib.hid (tread_any w9 _ _ _ (HT8.out.below hb9) hsm)
          rw [show TS.area ⟨encL (cL k) ++ (encL (cL k)).take N, [], 0, true, 0, true⟩ (TS.c ⟨encL (cL k) ++ (encL (cL k)).take N, [], 0, true, 0, true⟩) = encL (cL k) ++ (encL (cL k)).take N by rfl, read_part k k N (by omega) (by omega) (by omega)] at HR9
          clear hb9 HS8 HT8 HW8 hsm hlen
          go_wp2_with fail
          refine HR9.out.mono ?_
          rintro e w10 ⟨v', rfl, ho, hb10, -⟩
          obtain ⟨p, cap, rfl⟩ := own_slice ho
          have HW10 := Lib.hid (HW9.out.trans (hb10.mono HW9.out.size))
          clear ho hb10 HR9 HW9
          go_wp2
          go_ret
          exact ⟨rfl, HW10.out⟩
      · have hpk : 3 ≤ k := by omega
        have hp3 : 3 ≤ 3 := Nat.le_refl _
        obtain ⟨bu, hap⟩ := append_first 3 hp3
        have HA := Lib.hid (append_any wr w.heap.size _ ⟨[], [], 0, false, 0, false⟩ (cL 3) _ HTw.out (small_lit _ (by decide) (by decide) rfl) (rd_cL HO.out 3 hpk).ns (by rw [cL_len]; omega))
        unfold AppP at HA
        rw [hap] at HA
        clear hap
        go_wp2_with fail
        refine HA.out.mono ?_
        rintro e w4 ⟨rfl, t4, k4⟩
        have HK4 := Lib.hid k4
        have HS4 := Lib.hid (size_any w4 _ _ _ t4 (.inl rfl))
        rw [show ((TS.area ⟨encL (cL 3), [], 0, false, bu, false⟩ 0).length : Int) = 5 * (3 : Int) by rw [show TS.area ⟨encL (cL 3), [], 0, false, bu, false⟩ 0 = encL (cL 3) by rfl, encL_cL 3 (by omega)]; rfl] at HS4
        have HT4 := Lib.hid t4
        clear k4 t4 HA
        go_wp2_with fail
        refine HS4.out.mono ?_
        rintro e w5 ⟨rfl, hb5⟩
        have HB5 := Lib.hid hb5
        have HA5 := Lib.hid (arm_yes w5 _ N _ _ (HT4.out.below hb5) rfl (by omega))
        clear hb5 HS4
        go_wp2_with fail
        refine HA5.out.mono ?_
        rintro e w6 ⟨rfl, t6, k6⟩
        have HK6 := Lib.hid k6
        have t6' : TapeAt w6 w.heap.size (Wider (fun k => k = w.heap.size) wr w4) ⟨encL (cL 3), [], 0, true, N, false⟩ := t6
        have HT6 := Lib.hid t6'
        have HS6 := Lib.hid (size_any w6 _ _ _ t6' (.inl rfl))
        rw [show ((TS.area ⟨encL (cL 3), [], 0, true, N, false⟩ 0).length : Int) = 5 * (3 : Int) by rw [show TS.area ⟨encL (cL 3), [], 0, true, N, false⟩ 0 = encL (cL 3) by rfl, encL_cL 3 (by omega)]; rfl] at HS6
        clear t6 t6' k6 HA5
        go_wp2_with fail
        refine HS6.out.mono ?_
        rintro e w7 ⟨rfl, hb7⟩
        have HT7 := Lib.hid (HT6.out.below hb7)
        have HO7 := Lib.hid ((own_keep ((own_keep HO.out HK4.out (by omega)).below HB5.out) HK6.out (fun h => by rcases h with h | h <;> omega)).below hb7)
        have HW7 : Hid (Below w.heap.size w w7) := (keep_below ((keep_below HBw.out HK4.out HBw.out.size (fun i h => by omega)).trans (HB5.out.mono (Nat.le_trans HBw.out.size HK4.out.size))) HK6.out (Nat.le_trans (Nat.le_trans HBw.out.size HK4.out.size) HB5.out.size)
          (fun i h => by rcases h with h | h <;> omega)).trans (hb7.mono (by have := HBw.out.size; have := HK4.out.size; have := HB5.out.size; have := HK6.out.size; omega))
        have hsec := append_second 3 k N hp3 (by omega) (by omega)
        have HA7 := Lib.hid (append_any w7 _ _ ⟨encL (cL 3), [], 0, true, N, false⟩ (cL k) _ HT7.out (small_cL 3 hp3 _ _ _) (rd_cL HO7.out k (Nat.le_refl _)).ns (by rw [cL_len]; omega))
        unfold AppP at HA7
        have hF7 : Hid (∀ i, (Wider (fun k => k = w.heap.size) wr w4) i → w.heap.size ≤ i) := fun i h => by rcases h with h | h <;> omega
        clear hb7 HS6 HK4 HK6 HB5 HT6 HO HTw HBw HT7 HO7
        by_cases hc : 5 * k ≤ N
        · rw [hsec.1 hc] at HA7
          clear hsec
          go_wp2_with fail
          have hlen : ((encL (cL 3) ++ encL (cL k)).length : Int) = 5 * (3 : Int) + 5 * (k : Int) := by simp only [List.length_append, encL_cL 3 (by omega), encL_cL k (by omega)]; omega
          have hsm : small ⟨encL (cL 3) ++ encL (cL k), [], 0, true, (N : Int) - ((5 * k : Nat) : Int), false⟩ := ⟨by simp only; omega, by simp, .inl rfl⟩
          refine HA7.out.mono ?_
          rintro e w8 ⟨rfl, t8, k8⟩
          have HW8 := Lib.hid (keep_below HW7.out k8 HW7.out.size hF7.out)
          have HT8 := Lib.hid t8
          have HS8 := Lib.hid (size_any w8 _ _ _ t8 (.inl rfl))
          rw [show ((TS.area ⟨encL (cL 3) ++ encL (cL k), [], 0, true, (N : Int) - ((5 * k : Nat) : Int), false⟩ 0).length : Int) = 5 * (3 : Int) + 5 * (k : Int) from hlen] at HS8
          clear t8 k8 HA7 hF7 HW7
          go_wp2_with fail
          refine HS8.out.mono ?_
          rintro e w9 ⟨rfl, hb9⟩
          have HW9 := Lib.hid (HW8.out.trans (hb9.mono HW8.out.size))
          have HR9 := Lib.hid (tread_any w9 _ _ _ (HT8.out.below hb9) hsm)
          rw [show TS.area ⟨encL (cL 3) ++ encL (cL k), [], 0, true, (N : Int) - ((5 * k : Nat) : Int), false⟩ (TS.c ⟨encL (cL 3) ++ encL (cL k), [], 0, true, (N : Int) - ((5 * k : Nat) : Int), false⟩) = encL (cL 3) ++ encL (cL k) by rfl, (read_all 3 k (by omega) (by omega)).trans (Nat.add_comm _ _)] at HR9
          clear hb9 HS8 HT8 HW8 hsm hlen
          go_wp2_with fail
          refine HR9.out.mono ?_
          rintro e w10 ⟨v', rfl, ho, hb10, -⟩
          obtain ⟨p, cap, rfl⟩ := own_slice ho
          have HW10 := Lib.hid (HW9.out.trans (hb10.mono HW9.out.size))
          clear ho hb10 HR9 HW9
          go_wp2
          go_ret
          exact ⟨rfl, HW10.out⟩
        · rw [hsec.2 (by omega)] at HA7
          clear hsec
          go_wp2_with fail
          have hlen : ((encL (cL 3) ++ (encL (cL k)).take N).length : Int) = 5 * (3 : Int) + (N : Int) := by simp only [List.length_append, List.length_take, encL_cL 3 (by omega), encL_cL k (by omega)]; omega
          have hsm : small ⟨encL (cL 3) ++ (encL (cL k)).take N, [], 0, true, 0, true⟩ := ⟨by simp only; omega, by simp, .inl rfl⟩
          refine HA7.out.mono ?_
          rintro e w8 ⟨rfl, t8, k8⟩
          have HW8 := Lib.hid (keep_below HW7.out k8 HW7.out.size hF7.out)
          have HT8 := Lib.hid t8
          have HS8 := Lib.hid (size_any w8 _ _ _ t8 (.inl rfl))
          rw [show ((TS.area ⟨encL (cL 3) ++ (encL (cL k)).take N, [], 0, true, 0, true⟩ 0).length : Int) = 5 * (3 : Int) + (N : Int) from hlen] at HS8
          clear t8 k8 HA7 hF7 HW7
          go_wp2_with fail
          refine HS8.out.mono ?_
          rintro e w9 ⟨rfl, hb9⟩
          have HW9 := Lib.hid (HW8.out.trans (hb9.mono HW8.out.size))
          have HR9 := Lib.hid (tread_any w9 _ _ _ (HT8.out.below hb9) hsm)
          rw [show TS.area ⟨encL (cL 3) ++ (encL (cL k)).take N, [], 0, true, 0, true⟩ (TS.c ⟨encL (cL 3) ++ (encL (cL k)).take N, [], 0, true, 0, true⟩) = encL (cL 3) ++ (encL (cL k)).take N by rfl, read_part 3 k N (by omega) (by omega) (by omega)] at HR9
          clear hb9 HS8 HT8 HW8 hsm hlen
          go_wp2_with fail
          refine HR9.out.mono ?_
          rintro e w10 ⟨v', rfl, ho, hb10, -⟩
          obtain ⟨p, cap, rfl⟩ := own_slice ho
          have HW10 := Lib.hid (HW9.out.trans (hb10.mono HW9.out.size))
          clear ho hb10 HR9 HW9
          go_wp2
          go_ret
          exact ⟨rfl, HW10.out⟩

end Go.Proofs.Ytdclgmffgidcmaa
