/- The program's notes: what number and Encode come to. -/
import Derived.Test.YtdclgmffgidcmaaNoteWalk
namespace Go.Proofs.Ytdclgmffgidcmaa
set_option linter.unusedSimpArgs false
set_option linter.unusedVariables false
open Go.RowKit

theorem Try.info_u8 : (Try.prog.info? 5).map (fun i => (i.zero, i.size, i.bytes)) = some (some (.int .u8 0), 1, 1) := by kernel_rfl

theorem number_any (x : Nat) (hx : x ≤ 2 ^ 31) (v : Value) (l : List UInt8) (w : World) (hown : Own w 5 1 l.length v (l.map bv)) (hl : l.length + (numB x).length ≤ 200) :
    Calls Try.prog 49 #[v, .int .i64 x] w fun e w' => ∃ v', e = .returned v' ∧ Own w' 5 1 (l ++ numB x).length v' ((l ++ numB x).map bv) ∧ Grew w w' v v' := by
  go_enter Try.func49, Try.ntmps49
  go_wp2
  go_loopw [0, 1] (fun v' i wr => ∃ (y : Nat) (l' : List UInt8), i = .int .i64 y ∧ y ≤ 2 ^ 31 ∧ Own wr 5 1 l'.length v' (l'.map bv) ∧ Grew w wr v v' ∧ Hid (l' ++ numB y = l ++ numB x)) (fun _ i _ => (intOf i).toNat)
  case atStart => exact ⟨x, l, rfl, hx, hown, Grew.refl _ _, rfl⟩
  case round =>
    obtain ⟨y, l', rfl, hy, ho, hgr, heq⟩ := hrel
    have hle : l'.length < 200 := by
      have h1 := congrArg List.length heq.out
      simp only [List.length_append] at h1
      have := numB_pos y
      omega
    by_cases hlt : (128 : Int) ≤ y
    · have hb := bv_of ((y : Int) % 128 + 128) (by omega) (by omega)
      have HB := Lib.hid hb
      clear hb
      go_wp2_with (at_builtin; refine wpList_app _ rfl _ _ 57 57 5 rfl (.int .u8 0) 1 1 Try.underlying57 Try.info_u8 rfl _ rfl _ _ (ho.alloc _) _ rfl 1 [.int .u8 ((y : Int) % 128 + 128)] (src_one Try.underlying57 rfl) ?h1 ?h2 ?hK)
      case h1 => unfold maxLen; omega
      case h2 => omega
      case hK =>
        intro v1 w1 ho1 hg1
        have ho2 : Own w1 5 1 (l' ++ [byteOf ((y % 128 + 128 : Nat) : Int)]).length v1 ((l' ++ [byteOf ((y % 128 + 128 : Nat) : Int)]).map bv) := by
          rw [HB.out] at ho1
          rw [List.length_append, List.map_append]
          exact ho1
        have hg2 := hgr.trans hg1.ofAlloc
        have he2 : Hid ((l' ++ [byteOf ((y % 128 + 128 : Nat) : Int)]) ++ numB (y / 128) = l ++ numB x) := by
          unfold Hid
          rw [← heq.out, numB_ge y (by omega), List.append_assoc]
          rfl
        clear ho1 hg1 ho hgr heq HB
        go_wp2
        go_roundw
        case rel => exact ⟨y / 128, _, by go_num, by omega, ho2, hg2, he2⟩
        case measure => simp [intOf]; omega
    · have hb := bv_of (y : Int) (by omega) (by omega)
      have HB := Lib.hid hb
      clear hb
      go_wp2_with (at_builtin; refine wpList_app _ rfl _ _ 57 57 5 rfl (.int .u8 0) 1 1 Try.underlying57 Try.info_u8 rfl _ rfl _ _ (ho.alloc _) _ rfl 1 [.int .u8 (y : Int)] (src_one Try.underlying57 rfl) ?h1 ?h2 ?hK)
      case h1 => unfold maxLen; omega
      case h2 => omega
      case hK =>
        intro v1 w1 ho1 hg1
        have he2 : l' ++ [byteOf (y : Int)] = l ++ numB x := by rw [← heq.out, numB_lt y (by omega)]
        have ho2 : Own w1 5 1 (l ++ numB x).length v1 ((l ++ numB x).map bv) := by
          rw [HB.out] at ho1
          rw [← he2, List.length_append, List.map_append]
          exact ho1
        have hg2 := hgr.trans hg1.ofAlloc
        clear ho1 hg1 ho hgr heq HB he2
        go_wp2
        go_ret
        exact ⟨v1, rfl, ho2, hg2⟩

theorem encode_no (n : Nt) (hn : goodB n = false) (w : World) :
    Calls Try.prog 40 #[n.val] w fun e w' => e = .returned (.tuple #[.slice none 0 0, .int .i64 180]) ∧ Below w.heap.size w w' := by
  have hc : Hid (checkZ n = 180) := by unfold Hid checkZ; rw [hn]; rfl
  clear hn
  have hck := fun w => check_any n w
  rw [hc.out] at hck
  have HC := Lib.hid hck
  clear hck hc
  unfold Nt.val at *
  go_enter Try.func40, Try.ntmps40
  go_wp2_with (go_at_call 47; refine (HC.out _).mono ?_; rintro e w' ⟨rfl, hb⟩)
  go_ret2
  exact ⟨rfl, (Below.alloc1 _ _).trans (hb.mono (by simp))⟩

/-- What holds at the head of Encode's loop: j numbers are written. -/
structure EncRel (n : Nt) (w : World) (B j : Nat) (v : Value) (wr : World) : Prop where
  own : Own wr 5 1 (0 :: byteOf n.k :: nums n j).length v ((0 :: byteOf n.k :: nums n j).map bv)
  apart : ∀ k, v.ownBlock = some k → w.heap.size ≤ k ∧ k ≠ B
  arr : wr.heap[B]? = some (.cells #[.int .i64 n.a, .int .i64 n.b, .int .i64 n.c] 81 (0, 0))
  below : Below w.heap.size w wr

theorem EncRel.cell {n : Nt} {w : World} {B j : Nat} {v : Value} {wr : World} (h : EncRel n w B j v wr) (hj : j < 3) : wr.cell? ⟨B, j, none⟩ = some (.int .i64 ([n.a, n.b, n.c].getD j 0)) := by
  rw [cell_of_row wr B j _ _ _ h.arr]
  match j, hj with
  | 0, _ => rfl
  | 1, _ => rfl
  | 2, _ => rfl

theorem EncRel.next {n : Nt} {w : World} {B j : Nat} {v v' : Value} {wr w' : World} (h : EncRel n w B j v wr) (hj : j < 3) (hB : w.heap.size ≤ B)
    (ho : Own w' 5 1 ((0 :: byteOf n.k :: nums n j) ++ numB ([n.a, n.b, n.c].getD j 0).toNat).length v' (((0 :: byteOf n.k :: nums n j) ++ numB ([n.a, n.b, n.c].getD j 0).toNat).map bv))
    (hg : Grew wr w' v v') : EncRel n w B (j + 1) v' w' := by
  have hlt : B < wr.heap.size := (Array.getElem?_eq_some_iff.1 h.arr).1
  refine ⟨?_, ?_, ?_, hg.below h.below (fun k hk => (h.apart k hk).1)⟩
  · rw [nums_succ n j hj]
    simpa using ho
  · intro k hk
    refine ⟨hg.from h.below.size (fun k hk => (h.apart k hk).1) k hk, ?_⟩
    rintro rfl
    exact hg.apart hlt (fun q => (h.apart _ q).2 rfl) hk
  · rw [hg.grown.block B hlt (fun q => (h.apart B q.symm).2 rfl)]
    exact h.arr

theorem getD_good {n : Nt} (hn : goodB n = true) (j : Nat) : 0 ≤ [n.a, n.b, n.c].getD j 0 ∧ [n.a, n.b, n.c].getD j 0 ≤ 2147483647 := by
  obtain ⟨a, b, c, _⟩ := good_of hn
  match j with
  | 0 => exact a
  | 1 => exact b
  | 2 => exact c
  | k + 3 => simp

set_option maxHeartbeats 400000 in
theorem encode_yes (n : Nt) (hn : goodB n = true) (w : World) :
    Calls Try.prog 40 #[n.val] w fun e w' => ∃ v, e = .returned (.tuple #[v, .int .i64 0]) ∧ Own w' 5 1 (encB n).length v ((encB n).map bv) ∧ Below w.heap.size w w' ∧ ∀ k, v.ownBlock = some k → w.heap.size ≤ k := by
  have hck := fun w => check_any n w
  have hc : Hid (checkZ n = 0) := by unfold Hid checkZ; rw [hn]; rfl
  rw [hc.out] at hck
  have HC := Lib.hid hck
  clear hck hc
  have hu0 := (good_of hn).2.2.2
  have hu3 := usesZ_le n.k
  have hk := kind_of hu0
  have HN := Lib.hid hn
  clear hn
  unfold Nt.val at *
  obtain ⟨u, hu⟩ : ∃ u : Nat, usesZ n.k = (u : Int) := ⟨(usesZ n.k).toNat, by omega⟩
  rw [hu] at hu0 hu3
  have HU := Lib.hid hu
  go_enter Try.func40, Try.ntmps40
  go_wp2_with (first | (go_at_call 47; refine (HC.out _).mono ?_; rintro e w1 ⟨rfl, hb⟩; obtain ⟨hbc, hbf⟩ := bcell hb; have hbs := hb.size; simp at hbs; have hz : w.heap.size < w1.heap.size := by omega) | (go_at_call 48; refine (uses_any _ _).mono ?_; rintro e w' ⟨rfl, rfl⟩))
  clear hbc hbf
  go_loopw [5, 31] (fun v i wr => ∃ j : Nat, j ≤ u ∧ i = .int .i64 j ∧ EncRel n w (w1.heap.size + 1) j v wr) (fun _ i _ => u - (intOf i).toNat)
  case atStart =>
    refine ⟨0, Nat.zero_le _, rfl, ?_, ?_, ?_, ?_⟩
    · have := own_new (w := w1) ([0, byteOf n.k].map bv) (e := 5) (sz := 1) (n := 2) rfl (by unfold maxLen; omega)
      have h2 : Value.int .u8 n.k = bv (byteOf n.k) := bv_of n.k (by omega) (by omega)
      rw [h2]
      exact this.alloc _
    · intro k hk; simp [Value.ownBlock] at hk; omega
    · have := heap_alloc_new (w1.alloc (.cells #[.int .u8 0, .int .u8 n.k] 5)) (.cells #[.int .i64 n.a, .int .i64 n.b, .int .i64 n.c] 81)
      simpa using this
    · exact (((Below.alloc1 _ _).trans (hb.mono (by simp))).alloc (by omega) _).alloc (by simp; omega) _
  case round =>
    obtain ⟨j, hj, rfl, hr⟩ := hrel
    by_cases hlt : j < u
    · have hcell := hr.cell (by omega)
      have hx := getD_good HN.out j
      have HB := Lib.hid (numB_len5 ([n.a, n.b, n.c].getD j 0).toNat (by omega))
      have hnl := nums_len HN.out j
      obtain ⟨x, hx2⟩ : ∃ x : Nat, [n.a, n.b, n.c].getD j 0 = (x : Int) := ⟨([n.a, n.b, n.c].getD j 0).toNat, by omega⟩
      rw [hx2] at hcell hx HB
      have HX := Lib.hid hx2
      have hxl : x ≤ 2 ^ 31 := by omega
      have hln : (0 :: byteOf n.k :: nums n j).length + (numB x).length ≤ 200 := by have := HB.out; simp at *; omega
      clear hx2 hx hnl
      go_wp2_with (go_at_call 49; refine (number_any x hxl _ (0 :: byteOf n.k :: nums n j) _ hr.own hln).mono ?_; rintro e w2 ⟨v2, rfl, ho2, hg2⟩)
      have hr2 : EncRel n w (w1.heap.size + 1) (j + 1) v2 w2 := hr.next (by omega) (by omega) (by rw [HX.out]; simpa using ho2) hg2
      clear ho2 hg2 hr hcell
      go_wp2
      go_roundw
      case rel => exact ⟨j + 1, by omega, by go_num, hr2⟩
      case measure => simp [intOf]; omega
    · obtain rfl : j = u := by omega
      have hnl := nums_len HN.out j
      have hown := hr.own
      have hap := hr.apart
      have hbl := hr.below
      clear hr
      obtain ⟨L, hL⟩ : ∃ L, L = 0 :: byteOf n.k :: nums n j := ⟨_, rfl⟩
      have hll : 2 ≤ L.length ∧ L.length ≤ 17 := by rw [hL]; simp only [List.length_cons]; omega
      rw [← hL] at hown
      have hh : headB n = L.set 0 (byteOf ((L.length : Int) - 1)) := by
        rw [hL]; unfold headB bodyB
        rw [show (usesZ n.k).toNat = j by rw [HU.out]; simp]
        simp
      have hhl : (headB n).length = L.length := by rw [hh]; simp
      have hsh := hown.shape
      rcases hsh with ⟨_, h0, _⟩ | ⟨g, cap, rfl, hlc, hcm, hg, hcell⟩
      · omega
      · obtain ⟨u0, hc0⟩ : ∃ u0, wr.cell? ⟨g, 0, none⟩ = some u0 := by
          rw [(hcell 0 (by omega)).1, List.getElem?_map, List.getElem?_eq_getElem (by omega)]; exact ⟨_, rfl⟩
        have hf0 := (hcell 0 (by omega)).2
        have hap' := (hap g rfl).1
        have ho2 : Own (wr.setCell ⟨g, 0, none⟩ (.int .u8 ((L.length : Int) - 1))) 5 1 (headB n).length (.slice (some ⟨g, 0, none⟩) L.length cap) ((headB n).map bv) := by
          have h1 := hown.store 0 (.int .u8 ((L.length : Int) - 1))
          rw [bv_of _ (by omega) (by omega)] at h1
          rw [hh, List.length_set, bv_of _ (by omega) (by omega)]
          rw [List.map_set]; exact h1
        have hb2 : Below w.heap.size w (wr.setCell ⟨g, 0, none⟩ (.int .u8 ((L.length : Int) - 1))) := hbl.setCell hap' _
        have HO := Lib.hid ho2
        have HHL := Lib.hid hhl
        have HL := Lib.hid hL
        have HH := Lib.hid hh
        have hsl := sumN_lt (headB n)
        have HSL : Hid (sumN (headB n) ≤ 2 ^ 16) := by unfold Hid; omega
        have hsl' := HSL.out
        clear hsl hcell ho2 hhl hL hh hap hown hu hnl hb hbl
        go_wp2_with (first
          | (go_at_call 50; refine (sum_any _ (headB n) _ HO.out.rd).mono ?_; rintro e w2 ⟨rfl, rfl⟩)
          | (at_builtin; refine wpList_app _ rfl _ _ 57 57 5 rfl (.int .u8 0) 1 1 Try.underlying57 Try.info_u8 rfl _ rfl _ _ (HO.out.alloc _) _ rfl 2 [_, _] (src_twoAt (by simp) Try.underlying57 rfl rfl) ?h1 ?h2 ?hK))
        case h1 => rw [HHL.out]; unfold maxLen; omega
        case h2 => rw [HHL.out]; omega
        case hK =>
          intro v3 w3 ho3 hg3
          have ho4 : Own w3 5 1 (encB n).length v3 ((encB n).map bv) := by
            have e1 : Value.int .u8 ((sumN (headB n) : Int) / 256 % 256) = bv (byteOf ((sumN (headB n) / 256 : Nat) : Int)) := by
              rw [← bv_cut, IntKind.wrap_u8]; congr 1
            have e2 : Value.int .u8 ((sumN (headB n) : Int) % 256) = bv (byteOf (sumN (headB n) : Int)) := by rw [← bv_cut, IntKind.wrap_u8]
            rw [e2, e1] at ho3
            unfold encB
            rw [List.length_append, List.map_append]
            exact ho3
          have hb3 := hg3.below (hb2.alloc hb2.size _) (fun k hk => by cases hk; exact hap')
          have hap3 := hg3.from (B := w.heap.size) (by have := hb2.size; simp; simp at this; omega) (fun k hk => by cases hk; exact hap')
          clear ho3 hg3
          go_wp2
          go_ret2
          exact ⟨v3, rfl, ho4, hb3, hap3⟩
end Go.Proofs.Ytdclgmffgidcmaa
