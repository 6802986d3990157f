/- The walk of Decode, its main way. -/
import Derived.Test.YtdclgmffgidcmaaDecWalk
namespace Go.Proofs.Ytdclgmffgidcmaa
set_option linter.unusedSimpArgs false
set_option linter.unusedVariables false
open Go.RowKit
/-- What holds at the head of the inner loop, for the number 0. -/
def InR0 (w : World) (L : List UInt8) (n0 n1 : Nat) (pv sv : Value) (wr : World) : Prop :=
  ∃ (r p s : Nat) (acc : Int), r ≤ 9 ∧ pv = .int .i64 p ∧ sv = .int .i64 (s : Int) ∧ Hid (s = 7 * (9 - r)) ∧ p ≤ n0 + 1 ∧ 2 ≤ p ∧ DRel w (n1 : Int) acc 0 0 wr ∧ Hid (rd L (n0 + 1) r p acc = rd L (n0 + 1) 9 (rdAt L (n0 + 1) 0) 0)
/-- What holds at the head of the inner loop, for the number 1. -/
def InR1 (w : World) (L : List UInt8) (n0 n1 : Nat) (pv sv : Value) (wr : World) : Prop :=
  ∃ (r p s : Nat) (acc : Int), r ≤ 9 ∧ pv = .int .i64 p ∧ sv = .int .i64 (s : Int) ∧ Hid (s = 7 * (9 - r)) ∧ p ≤ n0 + 1 ∧ 2 ≤ p ∧ DRel w (n1 : Int) (rdVal L (n0 + 1) 0) acc 0 wr ∧ Hid (rd L (n0 + 1) r p acc = rd L (n0 + 1) 9 (rdAt L (n0 + 1) 1) 0)
/-- What holds at the head of the inner loop, for the number 2. -/
def InR2 (w : World) (L : List UInt8) (n0 n1 : Nat) (pv sv : Value) (wr : World) : Prop :=
  ∃ (r p s : Nat) (acc : Int), r ≤ 9 ∧ pv = .int .i64 p ∧ sv = .int .i64 (s : Int) ∧ Hid (s = 7 * (9 - r)) ∧ p ≤ n0 + 1 ∧ 2 ≤ p ∧ DRel w (n1 : Int) (rdVal L (n0 + 1) 0) (rdVal L (n0 + 1) 1) acc wr ∧ Hid (rd L (n0 + 1) r p acc = rd L (n0 + 1) 9 (rdAt L (n0 + 1) 2) 0)

theorem rd_ge (L : List UInt8) (stop : Nat) : ∀ r p acc, p ≤ (rd L stop r p acc).2 := by
  intro r
  induction r with
  | zero => intro p acc; exact Nat.le_refl _
  | succ r ih =>
    intro p acc
    unfold rd
    split
    · split
      · simp only; omega
      · exact Nat.le_trans (by omega) (ih _ _)
    · exact Nat.le_refl _
theorem rdAt_ge (L : List UInt8) (stop : Nat) : ∀ i, 2 ≤ rdAt L stop i
  | 0 => Nat.le_refl _
  | i + 1 => Nat.le_trans (rdAt_ge L stop i) (rd_ge _ _ _ _ _)

set_option maxHeartbeats 1000000 in
theorem decode_main (b off cap : Nat) (L : List UInt8) (w : World) (hle : L.length ≤ cap) (hcm : cap ≤ maxLen) (hc : ∀ j, j < L.length → w.cell? ⟨b, off + j, none⟩ = (L.map bv)[j]?)
    (h1 : (L[0]?.getD 0).toNat + 3 ≤ L.length) (h2 : 1 ≤ (L[0]?.getD 0).toNat) (u : Nat) (hu : usesZ ((L[1]?.getD 0).toNat : Int) = (u : Int)) (HRL : Hid (Rd w 1 L.length (.slice (some ⟨b, off, none⟩) L.length cap) (L.map bv))) :
    Calls Try.prog 42 #[.slice (some ⟨b, off, none⟩) L.length cap] w fun e w' => e = .returned (decVal L) ∧ Below w.heap.size w w' := by
  have H : Hid (∀ j, j < L.length → w.cell? ⟨b, off + j, none⟩ = some (.int .u8 ((L[j]?.getD 0).toNat : Int))) := by
    intro j hj
    rw [hc j hj, List.getElem?_map, List.getElem?_eq_getElem hj]; rfl
  have hc0 := H.out 0 (by omega)
  have hc1 := H.out 1 (by omega)
  rw [Nat.add_zero] at hc0
  have hbl := lt_of_cell hc0
  have hd : decide ((L.length : Int) < 2) = false := by simp; omega
  have hd' : decide (L.length < 2) = false := by simp; omega
  have hd2 : decide ((L.length : Int) < ((L[0]?.getD 0).toNat : Int) + 3) = false := by simp; omega
  have hne : (((L[0]?.getD 0).toNat : Int) == 0) = false := by rw [beq_eq_false_iff_ne]; omega
  have hn0 := UInt8.toNat_lt (L[0]?.getD 0)
  have hn1 := UInt8.toNat_lt (L[1]?.getD 0)
  have hu3 := usesZ_le ((L[1]?.getD 0).toNat : Int)
  rw [hu] at hu3
  unfold maxLen at hcm
  clear hc
  generalize hx0 : (L[0]?.getD 0).toNat = n0 at *
  generalize hx1 : (L[1]?.getD 0).toNat = n1 at *
  have X0 := Lib.hid hx0
  have X1 := Lib.hid hx1
  clear hx0 hx1
  go_enter Try.func42, Try.ntmps42
  go_wp2_with (go_at_call 48; refine (uses_any _ _).mono ?_; rintro e w' ⟨rfl, rfl⟩)
  go_loopw [9, 56] (fun pv iv wr => ∃ i : Nat, i ≤ u ∧ iv = .int .i64 i ∧ pv = .int .i64 (rdAt L (n0 + 1) i) ∧ DAt w L (n1 : Int) (n0 + 1) i wr) (fun _ iv _ => u - (intOf iv).toNat)
  case atStart =>
    obtain ⟨a0, a1, a2, a3, a4⟩ := alloc4 w (.cells #[.int .i64 0, .int .i64 0, .int .i64 0, .int .i64 0] 37) (.cells #[.int .i64 0, .int .i64 0, .int .i64 0, .int .i64 0] 37) (.cells #[.int .i64 (n1 : Int), .int .i64 0, .int .i64 0, .int .i64 0] 37) (.cells #[.pointer (some ⟨w.heap.size + 1 + 1, 1, none⟩), .pointer (some ⟨w.heap.size + 1 + 1, 2, none⟩), .pointer (some ⟨w.heap.size + 1 + 1, 3, none⟩)] 88)
    exact ⟨0, Nat.zero_le _, rfl, rfl, a0, a1, a2, a3, a4⟩
  case round =>
    obtain ⟨i, hi, rfl, rfl, hda⟩ := hrel
    have h4 : (i = 0 ∧ 0 < u) ∨ (i = 1 ∧ 1 < u) ∨ (i = 2 ∧ 2 < u) ∨ i = u := by omega
    rcases h4 with ⟨rfl, hlt⟩ | ⟨rfl, hlt⟩ | ⟨rfl, hlt⟩ | rfl

    · -- the number 0
      have hdr0 : DRel w (n1 : Int) 0 0 0 wr := by simpa [DAt] using hda
      have hp0 := rdAt_le L (n0 + 1) (by omega) 0
      have hp2 := rdAt_ge L (n0 + 1) 0
      have hcp := hdr0.cell0.2.2
      have hsz := hdr0.size
      clear hda
      go_wp2
      go_loopw [9, 12] (fun pv sv wr => InR0 w L n0 n1 pv sv wr) (fun _ sv _ => 63 - (intOf sv).toNat)
      case atStart => exact ⟨9, rdAt L (n0 + 1) 0, 0, 0, by omega, rfl, rfl, rfl, hp0, hp2, hdr0, rfl⟩
      case round =>
        obtain ⟨r, p, s, acc, hr, rfl, rfl, hs, hp, hp1, hdr, hrd⟩ := hrel
        by_cases hps : p < n0 + 1
        · by_cases hr0 : r = 0
          · have hs1 : ¬ (s : Int) < 63 := by have := hs.out; omega
            subst hr0
            have HF : Hid (rd L (n0 + 1) 9 (rdAt L (n0 + 1) 0) 0 = (acc, p)) := by unfold Hid; rw [← hrd.out]; rfl
            have hn : DAt w L (n1 : Int) (n0 + 1) (0 + 1) wr := by
              have e : rdVal L (n0 + 1) 0 = acc := by unfold rdVal; rw [HF.out]
              rw [← e] at hdr; simpa [DAt] using hdr
            have e2 : Hid (rdAt L (n0 + 1) (0 + 1) = p) := by unfold Hid; show (rd L (n0 + 1) 9 (rdAt L (n0 + 1) 0) 0).2 = p; rw [HF.out]
            clear hdr hrd
            go_wp2
            go_roundw
            case rel => exact ⟨0 + 1, by omega, rfl, by rw [e2.out], hn⟩
            case measure => simp [intOf]; omega
          · obtain ⟨r, rfl⟩ : ∃ q, r = q + 1 := ⟨r - 1, by omega⟩
            have hs1 : (s : Int) < 63 := by have := hs.out; omega
            have hbyte := hdr.byte (H.out p (by omega))
            have hbt := UInt8.toNat_lt (L[p]?.getD 0)
            obtain ⟨hf1, hf2, _⟩ := hdr.cell0
            have hsz2 := hdr.size
            have HE : Hid (7 * (8 - r) = s) := by have := hs.out; unfold Hid; omega
            have hdr3 := (hdr.set0 (orI acc (L[p]?.getD 0).toNat s)).drew
            have hb3 := hdr3.byte (H.out p (by omega))
            have hsz3 := hdr3.size
            have HD3 := Lib.hid hdr3
            by_cases h128 : (L[p]?.getD 0).toNat < 128
            · have HF : Hid (rd L (n0 + 1) 9 (rdAt L (n0 + 1) 0) 0 = (orI acc (L[p]?.getD 0).toNat s, p + 1)) := by unfold Hid; rw [← hrd.out, rd_last hps h128, HE.out]
              clear hrd hdr hdr3
              generalize (L[p]?.getD 0).toNat = bt at *
              unfold orI at HD3 hb3 hsz3

              go_wp2
              go_region
              generalize (wr.setCell ⟨w.heap.size + 1 + 1, 1, none⟩ (.int .i64 (bits .or .i64 acc (wrap64 (wrap64 (bits .and .u8 (bt : Int) 127) * 2 ^ s))))).drew = w3 at *
              clear hf1 hf2 hbyte
              have hn : Hid (DAt w L (n1 : Int) (n0 + 1) (0 + 1) w3) := by
                have e : rdVal L (n0 + 1) 0 = bits .or .i64 acc (wrap64 (wrap64 (bits .and .u8 (bt : Int) 127) * 2 ^ s)) := by unfold rdVal; rw [HF.out]; rfl
                have h := HD3.out
                rw [← e] at h; unfold Hid; simpa [DAt] using h
              have e2 : Hid (rdAt L (n0 + 1) (0 + 1) = p + 1) := by unfold Hid; show (rd L (n0 + 1) 9 (rdAt L (n0 + 1) 0) 0).2 = p + 1; rw [HF.out]
              clear HD3 HF
              have h128i : (bt : Int) < 128 := by omega
              go_wp2
              go_roundw
              case rel => exact ⟨0 + 1, by omega, rfl, by rw [e2.out]; go_num, hn.out⟩
              case measure => simp [intOf]; omega
            · have HF : Hid (rd L (n0 + 1) r (p + 1) (orI acc (L[p]?.getD 0).toNat s) = rd L (n0 + 1) 9 (rdAt L (n0 + 1) 0) 0) := by unfold Hid; rw [← hrd.out, rd_more hps h128, HE.out]
              clear hrd hdr hdr3
              generalize (L[p]?.getD 0).toNat = bt at *
              unfold orI at HD3 hb3 hsz3 HF

              go_wp2
              go_region
              generalize (wr.setCell ⟨w.heap.size + 1 + 1, 1, none⟩ (.int .i64 (bits .or .i64 acc (wrap64 (wrap64 (bits .and .u8 (bt : Int) 127) * 2 ^ s))))).drew = w3 at *
              clear hf1 hf2 hbyte
              have h128i : ¬ (bt : Int) < 128 := by omega
              go_wp2
              go_roundw
              case rel => exact ⟨r, p + 1, s + 7, _, by omega, by go_num, by go_num, by have := hs.out; unfold Hid; omega, by omega, by omega, HD3.out, HF⟩
              case measure => simp [intOf]; omega
        · have HF : Hid (rd L (n0 + 1) 9 (rdAt L (n0 + 1) 0) 0 = (acc, p)) := by unfold Hid; rw [← hrd.out]; exact rd_stop hps
          have hn : DAt w L (n1 : Int) (n0 + 1) (0 + 1) wr := by
            have e : rdVal L (n0 + 1) 0 = acc := by unfold rdVal; rw [HF.out]
            rw [← e] at hdr; simpa [DAt] using hdr
          have e2 : Hid (rdAt L (n0 + 1) (0 + 1) = p) := by unfold Hid; show (rd L (n0 + 1) 9 (rdAt L (n0 + 1) 0) 0).2 = p; rw [HF.out]
          clear hdr hrd
          have hps' : decide ((p : Int) < (n0 : Int) + 1) = false := by simp; omega
          go_wp2
          go_roundw
          case rel => exact ⟨0 + 1, by omega, rfl, by rw [e2.out], hn⟩
          case measure => simp [intOf]; omega

    · -- the number 1
      have hdr0 : DRel w (n1 : Int) (rdVal L (n0 + 1) 0) 0 0 wr := by simpa [DAt] using hda
      have hp0 := rdAt_le L (n0 + 1) (by omega) 1
      have hp2 := rdAt_ge L (n0 + 1) 1
      have hcp := hdr0.cell1.2.2
      have hsz := hdr0.size
      clear hda
      go_wp2
      go_loopw [9, 12] (fun pv sv wr => InR1 w L n0 n1 pv sv wr) (fun _ sv _ => 63 - (intOf sv).toNat)
      case atStart => exact ⟨9, rdAt L (n0 + 1) 1, 0, 0, by omega, rfl, rfl, rfl, hp0, hp2, hdr0, rfl⟩
      case round =>
        obtain ⟨r, p, s, acc, hr, rfl, rfl, hs, hp, hp1, hdr, hrd⟩ := hrel
        by_cases hps : p < n0 + 1
        · by_cases hr0 : r = 0
          · have hs1 : ¬ (s : Int) < 63 := by have := hs.out; omega
            subst hr0
            have HF : Hid (rd L (n0 + 1) 9 (rdAt L (n0 + 1) 1) 0 = (acc, p)) := by unfold Hid; rw [← hrd.out]; rfl
            have hn : DAt w L (n1 : Int) (n0 + 1) (1 + 1) wr := by
              have e : rdVal L (n0 + 1) 1 = acc := by unfold rdVal; rw [HF.out]
              rw [← e] at hdr; simpa [DAt] using hdr
            have e2 : Hid (rdAt L (n0 + 1) (1 + 1) = p) := by unfold Hid; show (rd L (n0 + 1) 9 (rdAt L (n0 + 1) 1) 0).2 = p; rw [HF.out]
            clear hdr hrd
            go_wp2
            go_roundw
            case rel => exact ⟨1 + 1, by omega, rfl, by rw [e2.out], hn⟩
            case measure => simp [intOf]; omega
          · obtain ⟨r, rfl⟩ : ∃ q, r = q + 1 := ⟨r - 1, by omega⟩
            have hs1 : (s : Int) < 63 := by have := hs.out; omega
            have hbyte := hdr.byte (H.out p (by omega))
            have hbt := UInt8.toNat_lt (L[p]?.getD 0)
            obtain ⟨hf1, hf2, _⟩ := hdr.cell1
            have hsz2 := hdr.size
            have HE : Hid (7 * (8 - r) = s) := by have := hs.out; unfold Hid; omega
            have hdr3 := (hdr.set1 (orI acc (L[p]?.getD 0).toNat s)).drew
            have hb3 := hdr3.byte (H.out p (by omega))
            have hsz3 := hdr3.size
            have HD3 := Lib.hid hdr3
            by_cases h128 : (L[p]?.getD 0).toNat < 128
            · have HF : Hid (rd L (n0 + 1) 9 (rdAt L (n0 + 1) 1) 0 = (orI acc (L[p]?.getD 0).toNat s, p + 1)) := by unfold Hid; rw [← hrd.out, rd_last hps h128, HE.out]
              clear hrd hdr hdr3
              generalize (L[p]?.getD 0).toNat = bt at *
              unfold orI at HD3 hb3 hsz3

              go_wp2
              go_region
              generalize (wr.setCell ⟨w.heap.size + 1 + 1, 2, none⟩ (.int .i64 (bits .or .i64 acc (wrap64 (wrap64 (bits .and .u8 (bt : Int) 127) * 2 ^ s))))).drew = w3 at *
              clear hf1 hf2 hbyte
              have hn : Hid (DAt w L (n1 : Int) (n0 + 1) (1 + 1) w3) := by
                have e : rdVal L (n0 + 1) 1 = bits .or .i64 acc (wrap64 (wrap64 (bits .and .u8 (bt : Int) 127) * 2 ^ s)) := by unfold rdVal; rw [HF.out]; rfl
                have h := HD3.out
                rw [← e] at h; unfold Hid; simpa [DAt] using h
              have e2 : Hid (rdAt L (n0 + 1) (1 + 1) = p + 1) := by unfold Hid; show (rd L (n0 + 1) 9 (rdAt L (n0 + 1) 1) 0).2 = p + 1; rw [HF.out]
              clear HD3 HF
              have h128i : (bt : Int) < 128 := by omega
              go_wp2
              go_roundw
              case rel => exact ⟨1 + 1, by omega, rfl, by rw [e2.out]; go_num, hn.out⟩
              case measure => simp [intOf]; omega
            · have HF : Hid (rd L (n0 + 1) r (p + 1) (orI acc (L[p]?.getD 0).toNat s) = rd L (n0 + 1) 9 (rdAt L (n0 + 1) 1) 0) := by unfold Hid; rw [← hrd.out, rd_more hps h128, HE.out]
              clear hrd hdr hdr3
              generalize (L[p]?.getD 0).toNat = bt at *
              unfold orI at HD3 hb3 hsz3 HF

              go_wp2
              go_region
              generalize (wr.setCell ⟨w.heap.size + 1 + 1, 2, none⟩ (.int .i64 (bits .or .i64 acc (wrap64 (wrap64 (bits .and .u8 (bt : Int) 127) * 2 ^ s))))).drew = w3 at *
              clear hf1 hf2 hbyte
              have h128i : ¬ (bt : Int) < 128 := by omega
              go_wp2
              go_roundw
              case rel => exact ⟨r, p + 1, s + 7, _, by omega, by go_num, by go_num, by have := hs.out; unfold Hid; omega, by omega, by omega, HD3.out, HF⟩
              case measure => simp [intOf]; omega
        · have HF : Hid (rd L (n0 + 1) 9 (rdAt L (n0 + 1) 1) 0 = (acc, p)) := by unfold Hid; rw [← hrd.out]; exact rd_stop hps
          have hn : DAt w L (n1 : Int) (n0 + 1) (1 + 1) wr := by
            have e : rdVal L (n0 + 1) 1 = acc := by unfold rdVal; rw [HF.out]
            rw [← e] at hdr; simpa [DAt] using hdr
          have e2 : Hid (rdAt L (n0 + 1) (1 + 1) = p) := by unfold Hid; show (rd L (n0 + 1) 9 (rdAt L (n0 + 1) 1) 0).2 = p; rw [HF.out]
          clear hdr hrd
          have hps' : decide ((p : Int) < (n0 : Int) + 1) = false := by simp; omega
          go_wp2
          go_roundw
          case rel => exact ⟨1 + 1, by omega, rfl, by rw [e2.out], hn⟩
          case measure => simp [intOf]; omega

    · -- the number 2
      have hdr0 : DRel w (n1 : Int) (rdVal L (n0 + 1) 0) (rdVal L (n0 + 1) 1) 0 wr := by simpa [DAt] using hda
      have hp0 := rdAt_le L (n0 + 1) (by omega) 2
      have hp2 := rdAt_ge L (n0 + 1) 2
      have hcp := hdr0.cell2.2.2
      have hsz := hdr0.size
      clear hda
      go_wp2
      go_loopw [9, 12] (fun pv sv wr => InR2 w L n0 n1 pv sv wr) (fun _ sv _ => 63 - (intOf sv).toNat)
      case atStart => exact ⟨9, rdAt L (n0 + 1) 2, 0, 0, by omega, rfl, rfl, rfl, hp0, hp2, hdr0, rfl⟩
      case round =>
        obtain ⟨r, p, s, acc, hr, rfl, rfl, hs, hp, hp1, hdr, hrd⟩ := hrel
        by_cases hps : p < n0 + 1
        · by_cases hr0 : r = 0
          · have hs1 : ¬ (s : Int) < 63 := by have := hs.out; omega
            subst hr0
            have HF : Hid (rd L (n0 + 1) 9 (rdAt L (n0 + 1) 2) 0 = (acc, p)) := by unfold Hid; rw [← hrd.out]; rfl
            have hn : DAt w L (n1 : Int) (n0 + 1) (2 + 1) wr := by
              have e : rdVal L (n0 + 1) 2 = acc := by unfold rdVal; rw [HF.out]
              rw [← e] at hdr; simpa [DAt] using hdr
            have e2 : Hid (rdAt L (n0 + 1) (2 + 1) = p) := by unfold Hid; show (rd L (n0 + 1) 9 (rdAt L (n0 + 1) 2) 0).2 = p; rw [HF.out]
            clear hdr hrd
            go_wp2
            go_roundw
            case rel => exact ⟨2 + 1, by omega, rfl, by rw [e2.out], hn⟩
            case measure => simp [intOf]; omega
          · obtain ⟨r, rfl⟩ : ∃ q, r = q + 1 := ⟨r - 1, by omega⟩
            have hs1 : (s : Int) < 63 := by have := hs.out; omega
            have hbyte := hdr.byte (H.out p (by omega))
            have hbt := UInt8.toNat_lt (L[p]?.getD 0)
            obtain ⟨hf1, hf2, _⟩ := hdr.cell2
            have hsz2 := hdr.size
            have HE : Hid (7 * (8 - r) = s) := by have := hs.out; unfold Hid; omega
            have hdr3 := (hdr.set2 (orI acc (L[p]?.getD 0).toNat s)).drew
            have hb3 := hdr3.byte (H.out p (by omega))
            have hsz3 := hdr3.size
            have HD3 := Lib.hid hdr3
            by_cases h128 : (L[p]?.getD 0).toNat < 128
            · have HF : Hid (rd L (n0 + 1) 9 (rdAt L (n0 + 1) 2) 0 = (orI acc (L[p]?.getD 0).toNat s, p + 1)) := by unfold Hid; rw [← hrd.out, rd_last hps h128, HE.out]
              clear hrd hdr hdr3
              generalize (L[p]?.getD 0).toNat = bt at *
              unfold orI at HD3 hb3 hsz3

              go_wp2
              go_region
              generalize (wr.setCell ⟨w.heap.size + 1 + 1, 3, none⟩ (.int .i64 (bits .or .i64 acc (wrap64 (wrap64 (bits .and .u8 (bt : Int) 127) * 2 ^ s))))).drew = w3 at *
              clear hf1 hf2 hbyte
              have hn : Hid (DAt w L (n1 : Int) (n0 + 1) (2 + 1) w3) := by
                have e : rdVal L (n0 + 1) 2 = bits .or .i64 acc (wrap64 (wrap64 (bits .and .u8 (bt : Int) 127) * 2 ^ s)) := by unfold rdVal; rw [HF.out]; rfl
                have h := HD3.out
                rw [← e] at h; unfold Hid; simpa [DAt] using h
              have e2 : Hid (rdAt L (n0 + 1) (2 + 1) = p + 1) := by unfold Hid; show (rd L (n0 + 1) 9 (rdAt L (n0 + 1) 2) 0).2 = p + 1; rw [HF.out]
              clear HD3 HF
              have h128i : (bt : Int) < 128 := by omega
              go_wp2
              go_roundw
              case rel => exact ⟨2 + 1, by omega, rfl, by rw [e2.out]; go_num, hn.out⟩
              case measure => simp [intOf]; omega
            · have HF : Hid (rd L (n0 + 1) r (p + 1) (orI acc (L[p]?.getD 0).toNat s) = rd L (n0 + 1) 9 (rdAt L (n0 + 1) 2) 0) := by unfold Hid; rw [← hrd.out, rd_more hps h128, HE.out]
              clear hrd hdr hdr3
              generalize (L[p]?.getD 0).toNat = bt at *
              unfold orI at HD3 hb3 hsz3 HF

              go_wp2
              go_region
              generalize (wr.setCell ⟨w.heap.size + 1 + 1, 3, none⟩ (.int .i64 (bits .or .i64 acc (wrap64 (wrap64 (bits .and .u8 (bt : Int) 127) * 2 ^ s))))).drew = w3 at *
              clear hf1 hf2 hbyte
              have h128i : ¬ (bt : Int) < 128 := by omega
              go_wp2
              go_roundw
              case rel => exact ⟨r, p + 1, s + 7, _, by omega, by go_num, by go_num, by have := hs.out; unfold Hid; omega, by omega, by omega, HD3.out, HF⟩
              case measure => simp [intOf]; omega
        · have HF : Hid (rd L (n0 + 1) 9 (rdAt L (n0 + 1) 2) 0 = (acc, p)) := by unfold Hid; rw [← hrd.out]; exact rd_stop hps
          have hn : DAt w L (n1 : Int) (n0 + 1) (2 + 1) wr := by
            have e : rdVal L (n0 + 1) 2 = acc := by unfold rdVal; rw [HF.out]
            rw [← e] at hdr; simpa [DAt] using hdr
          have e2 : Hid (rdAt L (n0 + 1) (2 + 1) = p) := by unfold Hid; show (rd L (n0 + 1) 9 (rdAt L (n0 + 1) 2) 0).2 = p; rw [HF.out]
          clear hdr hrd
          have hps' : decide ((p : Int) < (n0 : Int) + 1) = false := by simp; omega
          go_wp2
          go_roundw
          case rel => exact ⟨2 + 1, by omega, rfl, by rw [e2.out], hn⟩
          case measure => simp [intOf]; omega

    · have hdr : DRel w (n1 : Int) (rdNote L).a (rdNote L).b (rdNote L).c wr := by
        have h : DRel w (n1 : Int) _ _ _ wr := hda
        have e0 : ((0 : Int) < (i : Int)) = (0 < i) := by rw [eq_iff_iff]; omega
        have e1 : ((1 : Int) < (i : Int)) = (1 < i) := by rw [eq_iff_iff]; omega
        have e2 : ((2 : Int) < (i : Int)) = (2 < i) := by rw [eq_iff_iff]; omega
        unfold rdNote
        simp only [X0.out, X1.out, hu, e0, e1, e2]
        exact h
      have hk : (rdNote L).k = (n1 : Int) := by unfold rdNote; simp only; rw [X1.out]
      have HV : Hid (rdNote L = ⟨(n1 : Int), (rdNote L).a, (rdNote L).b, (rdNote L).c⟩) := by unfold Hid; rw [← hk]
      generalize (rdNote L).a = xa at *
      generalize (rdNote L).b = xb at *
      generalize (rdNote L).c = xc at *
      clear hda hk
      obtain ⟨hN0, hN1, hN2, hN3⟩ := hdr.note
      have hsz := hdr.size
      have HD := Lib.hid hdr
      clear hdr hd hd' hn0 hn1 hu3
      cases hg : goodB ⟨(n1 : Int), xa, xb, xc⟩
      · have HE := Lib.hid (encode_no ⟨(n1 : Int), xa, xb, xc⟩ hg)
        have HO : Hid (decVal L = .tuple #[(⟨0, 0, 0, 0⟩ : Nt).val, .int .i64 0, .int .i64 180]) := by
          refine dec_no ?_
          unfold okB; rw [HV.out, hg]; rfl
        clear hg hu
        go_wp2_with fail
        refine (HE.out _).mono ?_
        rintro e w4 ⟨rfl, hb4⟩
        have hdr4 := HD.out.later hb4
        obtain ⟨hZ0, hZ1, hZ2, hZ3⟩ := hdr4.zeros
        obtain ⟨⟨hO0, hO1, hO2, hO3⟩, hF0, hF1, hF2, hF3⟩ := hdr4.outs
        have hs4 := hdr4.size
        have HB4 := Lib.hid hdr4.below
        clear hdr4 hb4 HD hN0 hN1 hN2 hN3
        go_wp2
        go_quiet (fail)
        go_wp2
        refine bodyPost_ret (v := .tuple #[.agg #[.int .i64 0, .int .i64 0, .int .i64 0, .int .i64 0], .int .i64 0, .int .i64 180]) ?_ rfl ⟨ret_val (by rw [HO.out]; rfl), ?_⟩
        · simp [results, Try.results42, go_sem, hO0, hO1, hO2, hO3]
        · exact (((((below_draws HB4.out _).setCell (Nat.le_refl _) _).setCell (Nat.le_refl _) _).setCell (Nat.le_refl _) _).setCell (Nat.le_refl _) _)
      · have hL4 : n0 + 3 ≤ L.length := h1
        have HE := Lib.hid (encode_yes ⟨(n1 : Int), xa, xb, xc⟩ hg)
        have hlb := encB_len hg
        clear hu
        go_wp2_with fail
        refine (HE.out _).mono ?_
        rintro e w4 ⟨c, rfl, ho4, hb4, ha4⟩
        have hdr4 := HD.out.later hb4
        obtain ⟨hZ0, hZ1, hZ2, hZ3⟩ := hdr4.zeros
        obtain ⟨⟨hO0, hO1, hO2, hO3⟩, hF0, hF1, hF2, hF3⟩ := hdr4.outs
        obtain ⟨hN0, hN1, hN2, hN3⟩ := hdr4.note
        have hs4 := hdr4.size
        have HB4 := Lib.hid hdr4.below
        clear hdr4 hb4 HD ha4
        rcases ho4.shape with ⟨_, h0, _⟩ | ⟨g, ccap, rfl, hlc, hcm4, hg4, _⟩
        · omega
        · by_cases hlen : (encB ⟨(n1 : Int), xa, xb, xc⟩).length = n0 + 1 + 2
          · have hR1 := ho4.rd
            have hR2 : Rd w4 1 (n0 + 3) (.slice (some ⟨b, off, none⟩) (n0 + 3) cap) ((L.take (n0 + 3)).map bv) := by
              have h := (HRL.out.below HB4.out).take rfl (n0 + 3) hL4
              rw [Nat.mul_one, ← List.map_take] at h
              exact h
            have hS1 : ∀ q, (convert 57 9 (.slice (some ⟨g, 0, none⟩) (encB ⟨(n1 : Int), xa, xb, xc⟩).length ccap)).run Try.prog (w4.drewN q) = .ok (.string (str (encB ⟨(n1 : Int), xa, xb, xc⟩))) (w4.drewN q) :=
              fun q => run_str _ _ _ _ Try.underlying57 Try.underlying5 Try.underlying9 _ _ (rd_draws hR1 q)
            have hS2 : ∀ q, (convert 57 9 (.slice (some ⟨b, off, none⟩) (n0 + 3) cap)).run Try.prog (w4.drewN q) = .ok (.string (str (L.take (n0 + 3)))) (w4.drewN q) :=
              fun q => run_str _ _ _ _ Try.underlying57 Try.underlying5 Try.underlying9 _ _ (by rw [List.length_take, Nat.min_eq_left hL4]; exact rd_draws hR2 q)
            have hne2 : (((encB ⟨(n1 : Int), xa, xb, xc⟩).length : Int) != (n0 : Int) + 1 + 2) = false := by rw [bne_eq_false_iff_eq]; omega
            have hne3 : (((encB ⟨(n1 : Int), xa, xb, xc⟩).length : Int) != ((n0 : Int) + 3)) = false := by rw [bne_eq_false_iff_eq]; omega
            by_cases heq : encB ⟨(n1 : Int), xa, xb, xc⟩ = L.take (n0 + 3)
            · have HO : Hid (decVal L = .tuple #[.agg #[.int .i64 n1, .int .i64 xa, .int .i64 xb, .int .i64 xc], .int .i64 ((n0 : Int) + 1 + 2), .int .i64 0]) := by
                have hok : okB L = true := okB_iff.2 ⟨_, hg, by rw [heq]; exact List.take_prefix _ _⟩
                unfold Hid decVal
                rw [hok, if_pos rfl, HV.out, hlen]
                rfl
              rw [← heq] at hS2
              generalize str (encB ⟨(n1 : Int), xa, xb, xc⟩) = s1 at *
              generalize (encB ⟨(n1 : Int), xa, xb, xc⟩).length = cl at *
              clear ho4 hlb HE hg heq hR1 hR2 HV HRL hlen
              go_wp2
              go_quiet (fail)
              go_wp2
              refine bodyPost_ret (v := .tuple #[.agg #[.int .i64 n1, .int .i64 xa, .int .i64 xb, .int .i64 xc], .int .i64 ((n0 : Int) + 1 + 2), .int .i64 0]) ?_ rfl ⟨ret_val HO.out.symm, ?_⟩
              · simp [results, Try.results42, go_sem, hO0, hO1, hO2, hO3]
              · exact (((((below_draws HB4.out _).setCell (Nat.le_refl _) _).setCell (Nat.le_refl _) _).setCell (Nat.le_refl _) _).setCell (Nat.le_refl _) _)
            · have HO : Hid (decVal L = .tuple #[(⟨0, 0, 0, 0⟩ : Nt).val, .int .i64 0, .int .i64 180]) := by
                refine dec_no ?_
                unfold okB; rw [HV.out, hg, Bool.true_and, Bool.eq_false_iff, Ne, List.isPrefixOf_iff_prefix]
                rintro ⟨rest, hp⟩
                exact heq (by rw [← hp, ← show (encB ⟨(n1 : Int), xa, xb, xc⟩).length = n0 + 3 from by omega, List.take_left])
              have hss : ((str (encB ⟨(n1 : Int), xa, xb, xc⟩)).toList == (str (L.take (n0 + 3))).toList) = false := by
                rw [str_list, str_list, beq_eq_false_iff_ne]; exact heq
              generalize str (encB ⟨(n1 : Int), xa, xb, xc⟩) = s1 at *
              generalize str (L.take (n0 + 3)) = s2 at *
              generalize (encB ⟨(n1 : Int), xa, xb, xc⟩).length = cl at *
              clear ho4 hlb HE hg heq hR1 hR2 HV HRL hlen
              go_wp2
              go_quiet (fail)
              go_wp2
              refine bodyPost_ret (v := .tuple #[.agg #[.int .i64 0, .int .i64 0, .int .i64 0, .int .i64 0], .int .i64 0, .int .i64 180]) ?_ rfl ⟨ret_val (by rw [HO.out]; rfl), ?_⟩
              · simp [results, Try.results42, go_sem, hO0, hO1, hO2, hO3]
              · exact (((((below_draws HB4.out _).setCell (Nat.le_refl _) _).setCell (Nat.le_refl _) _).setCell (Nat.le_refl _) _).setCell (Nat.le_refl _) _)
          · have HO : Hid (decVal L = .tuple #[(⟨0, 0, 0, 0⟩ : Nt).val, .int .i64 0, .int .i64 180]) := by
              refine dec_no ?_
              unfold okB; rw [HV.out, hg, Bool.true_and, Bool.eq_false_iff, Ne, List.isPrefixOf_iff_prefix]
              intro hp
              have := enc_head hg hp
              rw [X0.out] at this
              omega
            have hne2 : (((encB ⟨(n1 : Int), xa, xb, xc⟩).length : Int) != (n0 : Int) + 1 + 2) = true := by rw [bne_iff_ne]; omega
            have hne3 : (((encB ⟨(n1 : Int), xa, xb, xc⟩).length : Int) != ((n0 : Int) + 3)) = true := by rw [bne_iff_ne]; omega
            generalize (encB ⟨(n1 : Int), xa, xb, xc⟩).length = cl at *
            clear ho4 hlen hlb HE hg
            go_wp2
            go_quiet (fail)
            go_wp2
            refine bodyPost_ret (v := .tuple #[.agg #[.int .i64 0, .int .i64 0, .int .i64 0, .int .i64 0], .int .i64 0, .int .i64 180]) ?_ rfl ⟨ret_val (by rw [HO.out]; rfl), ?_⟩
            · simp [results, Try.results42, go_sem, hO0, hO1, hO2, hO3]
            · exact (((((below_draws HB4.out _).setCell (Nat.le_refl _) _).setCell (Nat.le_refl _) _).setCell (Nat.le_refl _) _).setCell (Nat.le_refl _) _)

end Go.Proofs.Ytdclgmffgidcmaa
