/- The program's notes: what Decode, Read and Write come to. -/
import Derived.Test.YtdclgmffgidcmaaDecMain
import Derived.Test.YtdclgmffgidcmaaReadPure
namespace Go.Proofs.Ytdclgmffgidcmaa
set_option linter.unusedSimpArgs false
set_option linter.unusedVariables false
open Go.RowKit

/-- What holds at the head of Decode's loop where no number is to be read. -/
def NoR (w : World) (n1 : Nat) (iv : Value) (wr : World) : Prop := iv = .int .i64 0 ∧ DRel w (n1 : Int) 0 0 0 wr

set_option maxHeartbeats 400000 in
theorem decode_neg (b off cap : Nat) (L : List UInt8) (w : World) (_hle : L.length ≤ cap) (_hcm : cap ≤ maxLen) (hc : ∀ j, j < L.length → w.cell? ⟨b, off + j, none⟩ = (L.map bv)[j]?)
    (h1 : (L[0]?.getD 0).toNat + 3 ≤ L.length) (h2 : 1 ≤ (L[0]?.getD 0).toNat) (hu : usesZ ((L[1]?.getD 0).toNat : Int) < 0) :
    Calls Try.prog 42 #[.slice (some ⟨b, off, none⟩) L.length cap] w fun e w' => e = .returned (decVal L) ∧ Below w.heap.size w w' := by
  have H : Hid (∀ j, j < L.length → w.cell? ⟨b, off + j, none⟩ = some (.int .u8 ((L[j]?.getD 0).toNat : Int))) := by
    intro j hj
    rw [hc j hj, List.getElem?_map, List.getElem?_eq_getElem hj]; rfl
  have hc0 := H.out 0 (by omega)
  have hc1 := H.out 1 (by omega)
  rw [Nat.add_zero] at hc0
  have hbl := lt_of_cell hc0
  have hd : decide ((L.length : Int) < 2) = false := by simp; omega
  have hd' : decide (L.length < 2) = false := by simp; omega
  have hd2 : decide ((L.length : Int) < ((L[0]?.getD 0).toNat : Int) + 3) = false := by simp; omega
  have hne : (((L[0]?.getD 0).toNat : Int) == 0) = false := by rw [beq_eq_false_iff_ne]; omega
  have hn0 := UInt8.toNat_lt (L[0]?.getD 0)
  have hn1 := UInt8.toNat_lt (L[1]?.getD 0)
  clear hc
  generalize hx0 : (L[0]?.getD 0).toNat = n0 at *
  generalize hx1 : (L[1]?.getD 0).toNat = n1 at *
  have X0 := Lib.hid hx0
  have X1 := Lib.hid hx1
  clear hx0 hx1
  go_enter Try.func42, Try.ntmps42
  go_wp2_with (go_at_call 48; refine (uses_any _ _).mono ?_; rintro e w' ⟨rfl, rfl⟩)
  go_loopw [56] (fun iv wr => NoR w n1 iv wr) (fun _ _ => 0)
  case atStart =>
    obtain ⟨a0, a1, a2, a3, a4⟩ := alloc4 w (.cells #[.int .i64 0, .int .i64 0, .int .i64 0, .int .i64 0] 37) (.cells #[.int .i64 0, .int .i64 0, .int .i64 0, .int .i64 0] 37) (.cells #[.int .i64 (n1 : Int), .int .i64 0, .int .i64 0, .int .i64 0] 37) (.cells #[.pointer (some ⟨w.heap.size + 1 + 1, 1, none⟩), .pointer (some ⟨w.heap.size + 1 + 1, 2, none⟩), .pointer (some ⟨w.heap.size + 1 + 1, 3, none⟩)] 88)
    exact ⟨rfl, a0, a1, a2, a3, a4⟩
  case round =>
    obtain ⟨rfl, hdr⟩ := hrel
    have hg : goodB ⟨(n1 : Int), 0, 0, 0⟩ = false := by
      unfold goodB
      have : decide (0 < usesZ (n1 : Int)) = false := by simp; omega
      simp [this]
    have HE := Lib.hid (encode_no ⟨(n1 : Int), 0, 0, 0⟩ hg)
    have HO : Hid (decVal L = .tuple #[(⟨0, 0, 0, 0⟩ : Nt).val, .int .i64 0, .int .i64 180]) := by
      refine dec_no ?_
      have hv : rdNote L = ⟨(n1 : Int), 0, 0, 0⟩ := by
        unfold rdNote
        simp only [X0.out, X1.out]
        rw [if_neg (by omega), if_neg (by omega), if_neg (by omega)]
      unfold okB; rw [hv, hg]; rfl
    obtain ⟨hN0, hN1, hN2, hN3⟩ := hdr.note
    have hsz := hdr.size
    have HD := Lib.hid hdr
    have hg0 := trivial
    clear hdr hd hd' hn0 hn1
    clear hg hu hg0
    go_wp2_with fail
    refine (HE.out _).mono ?_
    rintro e w4 ⟨rfl, hb4⟩
    have hdr4 := HD.out.later hb4
    obtain ⟨hZ0, hZ1, hZ2, hZ3⟩ := hdr4.zeros
    obtain ⟨⟨hO0, hO1, hO2, hO3⟩, hF0, hF1, hF2, hF3⟩ := hdr4.outs
    have hs4 := hdr4.size
    have HB4 := Lib.hid hdr4.below
    clear hdr4 hb4 HD hN0 hN1 hN2 hN3
    go_wp2
    go_quiet (fail)
    go_wp2
    refine bodyPost_ret (v := .tuple #[.agg #[.int .i64 0, .int .i64 0, .int .i64 0, .int .i64 0], .int .i64 0, .int .i64 180]) ?_ rfl ⟨ret_val (by rw [HO.out]; rfl), ?_⟩
    · simp [results, Try.results42, go_sem, hO0, hO1, hO2, hO3]
    · exact (((((below_draws HB4.out _).setCell (Nat.le_refl _) _).setCell (Nat.le_refl _) _).setCell (Nat.le_refl _) _).setCell (Nat.le_refl _) _)

theorem decode_any (v : Value) (L : List UInt8) (w : World) (hv : Rd w 1 L.length v (L.map bv)) :
    Calls Try.prog 42 #[v] w fun e w' => e = .returned (decVal L) ∧ Below w.heap.size w w' := by
  by_cases h : L.length < 2 ∨ L.length < (L[0]?.getD 0).toNat + 3 ∨ (L[0]?.getD 0).toNat = 0
  · exact decode_early v L w hv h
  · have HRL := Lib.hid hv
    obtain ⟨_, hm, hv⟩ := hv
    rcases hv with ⟨rfl, h0⟩ | ⟨b, off, cap, rfl, hle, hcm, hc⟩
    · omega
    · rcases usesZ_ne ((L[1]?.getD 0).toNat : Int) with hu | hu
      · exact decode_neg b off cap L w hle hcm (fun j hj => hc j (by omega)) (by omega) (by omega) hu
      · exact decode_main b off cap L w hle hcm (fun j hj => hc j (by omega)) (by omega) (by omega) (usesZ ((L[1]?.getD 0).toNat : Int)).toNat (by omega) HRL

theorem Try.info_note : (Try.prog.info? 37).map (fun i => (i.zero, i.size, i.bytes)) = some (some (.agg #[.int .i64 0, .int .i64 0, .int .i64 0, .int .i64 0]), 4, 32) := by kernel_rfl

/-- What Decode's answer is, part by part. -/
theorem decVal_yes {L : List UInt8} (h : okB L = true) : decVal L = .tuple #[.agg #[.int .i64 (rdNote L).k, .int .i64 (rdNote L).a, .int .i64 (rdNote L).b, .int .i64 (rdNote L).c], .int .i64 ((encB (rdNote L)).length : Int), .int .i64 0] := by
  unfold decVal; rw [h]; rfl

theorem decVal_no {L : List UInt8} (h : okB L = false) : decVal L = .tuple #[.agg #[.int .i64 0, .int .i64 0, .int .i64 0, .int .i64 0], .int .i64 0, .int .i64 180] := dec_no h

theorem Rd.drop {w : World} {sz n : Nat} {b off cap : Nat} {xs : List Value} (h : Rd w sz n (.slice (some ⟨b, off, none⟩) n cap) xs) (k : Nat) (hk : k ≤ n) : ∀ ao : Option Addr, (¬ cap = k → ao = some ⟨b, off + k * sz, none⟩) → (cap = k → ao = some ⟨b, off, none⟩) → Rd w sz (n - k) (.slice ao (n - k) (cap - k)) (xs.drop (k * sz)) := by
  intro ao h1 h2
  obtain ⟨hl, hn, hc⟩ := h
  have hms : k * sz ≤ n * sz := Nat.mul_le_mul_right _ hk
  refine ⟨by rw [List.length_drop, hl, Nat.sub_mul], by omega, ?_⟩
  rcases hc with ⟨hv, _⟩ | ⟨b', off', cap', hv', hle, hcm, hc⟩
  · cases hv
  · cases hv'
    by_cases hck : cap = k
    · refine .inr ⟨b, off, _, by rw [h2 hck], by omega, by omega, fun j hj => ?_⟩
      obtain rfl : n = k := by omega
      simp at hj
    · refine .inr ⟨b, off + k * sz, _, by rw [h1 hck], by omega, by omega, fun j hj => ?_⟩
      rw [Nat.sub_mul] at hj
      rw [Nat.add_assoc, hc (k * sz + j) (by omega), List.getElem?_drop]

theorem src_note {P : Program} {w : World} {h : Nat} {tx e' e : TypeId} {a b c d : Value} (hh : h = w.heap.size) (hk : P.underlying tx = some (.slice e')) (h1 : a.oneCell' = true) (h2 : b.oneCell' = true) (h3 : c.oneCell' = true) (h4 : d.oneCell' = true) :
    Src P 4 tx (.slice (some ⟨h, 0, none⟩) 1 1) 1 [a, b, c, d] (w.alloc (.cells #[a, b, c, d] e)) := by
  subst hh
  exact src_rd hk (own_new [a, b, c, d] (sz := 4) (n := 1) rfl (by unfold maxLen; omega)).rd (by simpa using ⟨h1, h2, h3, h4⟩)

/-- What holds at the head of Read's loop. -/
def ReadRel (w : World) (L : List UInt8) (v at_ : Value) (wr : World) : Prop :=
  ∃ (ns : List Nt) (k : Nat), at_ = .int .i64 k ∧ k ≤ L.length ∧ Own wr 37 4 ns.length v (cellsL ns) ∧ 4 * ns.length ≤ k ∧ readL L = (ns ++ (readL (L.drop k)).1, k + (readL (L.drop k)).2) ∧ Below w.heap.size w wr ∧ ∀ b, v.ownBlock = some b → w.heap.size ≤ b

/-- The loop's head where there are no bytes. -/
def NilRel (w : World) (v at_ : Value) (wr : World) : Prop := v = .slice none 0 0 ∧ at_ = .int .i64 0 ∧ wr = w

theorem read_any (v : Value) (L : List UInt8) (w : World) (hv : Rd w 1 L.length v (L.map bv)) (hL : L.length ≤ 2 ^ 20) :
    Calls Try.prog 31 #[v] w fun e w' => ∃ v', e = .returned (.tuple #[v', .int .i64 ((readL L).2 : Int)]) ∧ Own w' 37 4 (readL L).1.length v' (cellsL (readL L).1) ∧ Below w.heap.size w w' ∧ ∀ b, v'.ownBlock = some b → w.heap.size ≤ b := by
  have HV := Lib.hid hv
  obtain ⟨_, _, hv⟩ := hv
  rcases hv with ⟨rfl, h0⟩ | ⟨b, off, cap, rfl, hle, hcm, hc⟩
  · obtain rfl : L = [] := List.eq_nil_of_length_eq_zero h0
    have HD := Lib.hid (decVal_no (L := []) (ok_no (.inl (by simp))))
    have HE : Hid (readL [] = ([], 0)) := readL_no (ok_no (.inl (by simp)))
    have hd := Lib.hid (decode_any (.slice none 0 0) [] w HV.out)
    rw [HD.out] at hd
    clear HV HD
    go_enter Try.func31, Try.ntmps31
    go_wp2
    go_loopw [4, 5] (fun v at_ wr => NilRel w v at_ wr) (fun _ _ _ => 0)
    case atStart => exact ⟨rfl, rfl, rfl⟩
    case round =>
      obtain ⟨rfl, rfl, rfl⟩ := hrel
      go_wp2_with fail
      refine hd.out.mono ?_
      rintro e w1 ⟨rfl, hb1⟩
      have HB := Lib.hid (hb1.alloc hb1.size (.cells #[.int .i64 0, .int .i64 0, .int .i64 0, .int .i64 0] 37))
      clear hb1
      go_wp2
      go_ret2
      refine ⟨_, ret_val (by rw [HE.out]; rfl), ?_, HB.out, fun b h => by cases h⟩
      rw [HE.out]; exact Own.nil _ _ _
  · clear hc
    unfold maxLen at hcm
    go_enter Try.func31, Try.ntmps31
    go_wp2
    go_loopw [4, 5] (fun v at_ wr => ReadRel w L v at_ wr) (fun _ at_ _ => L.length - (intOf at_).toNat)
    case atStart => exact ⟨[], 0, rfl, Nat.zero_le _, Own.nil _ _ _, Nat.le_refl _, by simp, Below.refl _ _, fun b h => by cases h⟩
    case round =>
      obtain ⟨ns, k, rfl, hk, ho, hlen, heq, hb, hap⟩ := hrel
      have HQ := Lib.hid heq
      clear heq
      have hsv : (cap = k ∧ Hid (Rd wr 1 (L.drop k).length (.slice (some ⟨b, off, none⟩) (L.length - k) 0) ((L.drop k).map bv))) ∨ (¬ cap = k ∧ Hid (Rd wr 1 (L.drop k).length (.slice (some ⟨b, off + k, none⟩) (L.length - k) (cap - k)) ((L.drop k).map bv))) := by
        have hd := (HV.out.below hb).drop k hk
        rw [Nat.mul_one, ← List.map_drop] at hd
        rw [List.length_drop]
        by_cases hck : cap = k
        · have h := hd _ (fun h => absurd hck h) (fun _ => rfl)
          rw [hck, Nat.sub_self] at h
          exact .inl ⟨hck, h⟩
        · exact .inr ⟨hck, hd _ (fun _ => rfl) (fun h => absurd h hck)⟩
      have hbs := hb.size
      cases hok : okB (L.drop k)
      · have HD := Lib.hid (decVal_no hok)
        have HE : Hid (readL L = (ns, k)) := by unfold Hid; rw [HQ.out, readL_no hok]; simp
        clear hok HQ
        rcases hsv with ⟨hck, hr⟩ | ⟨hck, hr⟩
        all_goals
          go_wp2_with fail
          refine (decode_any _ (L.drop k) _ hr.out).mono ?_
          rintro e w1 ⟨he, hb1⟩
          rw [HD.out] at he
          subst he
          have ho1 := (ho.below hb1).alloc (.cells #[.int .i64 0, .int .i64 0, .int .i64 0, .int .i64 0] 37)
          have hb2 := (hb.trans (hb1.mono hbs)).alloc (by have := hb1.size; omega) (.cells #[.int .i64 0, .int .i64 0, .int .i64 0, .int .i64 0] 37)
          have HO := Lib.hid ho1
          have HB := Lib.hid hb2
          clear ho1 hb2 ho hb hb1
          go_wp2
          go_ret2
          refine ⟨_, ret_val (by rw [HE.out]; rfl), ?_, HB.out, hap⟩
          rw [HE.out]; exact HO.out
      · have hl := okB_len hok
        have hld : (L.drop k).length = L.length - k := List.length_drop
        have HD := Lib.hid (decVal_yes hok)
        have HE : Hid (readL L = ((ns ++ [rdNote (L.drop k)]) ++ (readL (L.drop (k + (encB (rdNote (L.drop k))).length))).1, (k + (encB (rdNote (L.drop k))).length) + (readL (L.drop (k + (encB (rdNote (L.drop k))).length))).2)) := by
          unfold Hid; rw [HQ.out, readL_yes hok, List.drop_drop, List.append_assoc, Nat.add_assoc]; rfl
        clear hok HQ
        generalize (encB (rdNote (L.drop k))).length = kk at *
        generalize rdNote (L.drop k) = nt at *
        obtain ⟨hl1, _, hl3, _, _⟩ := hl
        have hlk : k + kk ≤ L.length := by omega
        clear hl3 hld
        rcases hsv with ⟨hck, hr⟩ | ⟨hck, hr⟩
        · omega
        · go_wp2_with fail
          refine (decode_any _ (L.drop k) _ hr.out).mono ?_
          rintro e w1 ⟨he, hb1⟩
          rw [HD.out] at he
          subst he
          have HO := Lib.hid (ho.below hb1)
          have HB := Lib.hid (hb.trans (hb1.mono hbs))
          have hs1 := hb1.size
          clear ho hb hb1 hr
          go_wp2_with (at_builtin; refine wpList_app _ rfl _ _ 29 29 37 rfl _ 4 32 Try.underlying29 Try.info_note rfl _ rfl _ _ ((HO.out.alloc _).alloc _) _ rfl 1 [_, _, _, _] (src_note (by simp) Try.underlying29 rfl rfl rfl rfl) ?_ ?_ ?_)
          any_goals first | (unfold maxLen; omega) | omega
          · intro v3 w3 ho3 hg3
            have ho4 : Own w3 37 4 (ns ++ [nt]).length v3 (cellsL (ns ++ [nt])) := by
              rw [cellsL_append, List.length_append]; exact ho3
            have hb4 := hg3.below (w := w) ((HB.out.alloc (by omega) _).alloc (by simp; omega) _) hap
            have ha4 := hg3.from (B := w.heap.size) (by simp; omega) hap
            have HR : Hid (ReadRel w L v3 (.int .i64 ((k + kk : Nat) : Int)) w3) := ⟨ns ++ [nt], k + kk, rfl, hlk, ho4, by rw [List.length_append]; simp; omega, HE.out, hb4, ha4⟩
            clear ho3 hg3 ho4 hb4 ha4 HE HO HB HD hap
            go_wp2
            go_roundw
            case rel => exact HR.out
            case measure => simp [intOf]; omega
end Go.Proofs.Ytdclgmffgidcmaa
