/- The reference's notes: Bytes. -/
import Derived.Test.YtdclgmffgidcmaaRef18b
import Derived.Test.YtdclgmffgidcmaaEncWalk
namespace Go.Proofs.Ytdclgmffgidcmaa
set_option linter.unusedSimpArgs false
set_option linter.unusedVariables false
open Go.RowKit

theorem own_slice2 {w : World} {e : TypeId} {sz n : Nat} {v : Value} {xs : List Value} (h : Own w e sz n v xs) : ∃ p cap, v = .slice p n cap := by
  rcases h.2 with ⟨rfl, rfl⟩ | ⟨g, cap, cur, rfl, _⟩
  · exact ⟨_, _, rfl⟩
  · exact ⟨_, _, rfl⟩

/-- What Bytes holds: the note's box, the numbers' array, the bytes so far. -/
structure RBRel (n : Nt) (w : World) (Bx Ba : Nat) (L : List UInt8) (v : Value) (wr : World) : Prop where
  own : Own wr 5 1 L.length v (L.map bv)
  apart : ∀ k, v.ownBlock = some k → w.heap.size ≤ k ∧ k ≠ Bx ∧ k ≠ Ba
  box : wr.heap[Bx]? = some (.cells #[.int .i64 n.k, .int .i64 n.a, .int .i64 n.b, .int .i64 n.c] 37 (0, 0))
  arr : wr.heap[Ba]? = some (.cells #[.int .i64 n.a, .int .i64 n.b, .int .i64 n.c] 81 (0, 0))
  below : Below w.heap.size w wr

theorem RBRel.cell {n : Nt} {w : World} {Bx Ba j : Nat} {L : List UInt8} {v : Value} {wr : World} (h : RBRel n w Bx Ba L v wr) (hj : j < 3) : wr.cell? ⟨Ba, j, none⟩ = some (.int .i64 ([n.a, n.b, n.c].getD j 0)) := by
  rw [cell_of_row wr Ba j _ _ _ h.arr]
  match j, hj with
  | 0, _ => rfl
  | 1, _ => rfl
  | 2, _ => rfl
theorem RBRel.kind {n : Nt} {w : World} {Bx Ba : Nat} {L : List UInt8} {v : Value} {wr : World} (h : RBRel n w Bx Ba L v wr) : wr.cell? ⟨Bx, 0, none⟩ = some (.int .i64 n.k) := by
  rw [cell_of_row wr Bx 0 _ _ _ h.box]; rfl
theorem RBRel.over {n : Nt} {w : World} {Bx Ba : Nat} {L : List UInt8} {v : Value} {wr w' : World} (h : RBRel n w Bx Ba L v wr) (hb : Below wr.heap.size wr w') : RBRel n w Bx Ba L v w' :=
  ⟨h.own.below hb, h.apart, (hb.block _ (Array.getElem?_eq_some_iff.1 h.box).1).trans h.box, (hb.block _ (Array.getElem?_eq_some_iff.1 h.arr).1).trans h.arr, h.below.trans (hb.mono h.below.size)⟩
theorem RBRel.next {n : Nt} {w : World} {Bx Ba : Nat} {L L' : List UInt8} {v v' : Value} {wr w' : World} (h : RBRel n w Bx Ba L v wr) (ho : Own w' 5 1 L'.length v' (L'.map bv)) (hg : Grew wr w' v v') : RBRel n w Bx Ba L' v' w' := by
  have l1 : Bx < wr.heap.size := (Array.getElem?_eq_some_iff.1 h.box).1
  have l2 : Ba < wr.heap.size := (Array.getElem?_eq_some_iff.1 h.arr).1
  refine ⟨ho, fun k hk => ⟨hg.from h.below.size (fun k hk => (h.apart k hk).1) k hk, ?_, ?_⟩, ?_, ?_, hg.below h.below (fun k hk => (h.apart k hk).1)⟩
  · rintro rfl; exact hg.apart l1 (fun q => (h.apart _ q).2.1 rfl) hk
  · rintro rfl; exact hg.apart l2 (fun q => (h.apart _ q).2.2 rfl) hk
  · rw [hg.grown.block Bx l1 (fun q => (h.apart Bx q.symm).2.1 rfl)]; exact h.box
  · rw [hg.grown.block Ba l2 (fun q => (h.apart Ba q.symm).2.2 rfl)]; exact h.arr

set_option maxHeartbeats 1000000 in
theorem rbytes_any (n : Nt) (hn : goodB n = true) (w : World) :
    Calls Try.prog 45 #[n.val] w fun e w' => ∃ v, e = .returned v ∧ Own w' 5 1 (encB n).length v ((encB n).map bv) ∧ Below w.heap.size w w' ∧ ∀ k, v.ownBlock = some k → w.heap.size ≤ k := by
  have hu0 := (good_of hn).2.2.2
  have hu3 := usesZ_le n.k
  have hk := kind_of hu0
  have HN := Lib.hid hn
  clear hn
  unfold Nt.val at *
  obtain ⟨u, hu⟩ : ∃ u : Nat, usesZ n.k = (u : Int) := ⟨(usesZ n.k).toNat, by omega⟩
  rw [hu] at hu0 hu3
  have HU := Lib.hid hu
  have hbk := Lib.hid (bv_of n.k (by omega) (by omega))
  have hru := fun w => ruses_any n.k w
  simp only [hu] at hru
  have HRU := Lib.hid hru
  clear hu hru
  go_enter Try.func45, Try.ntmps45
  go_wp2_with fail
  go_loopw [3, 5] (fun v i wr => ∃ j : Nat, j ≤ u ∧ i = .int .i64 j ∧ RBRel n w w.heap.size (w.heap.size + 2) (byteOf n.k :: nums n j) v wr) (fun _ i _ => u - (intOf i).toNat)
  case atStart =>
    refine ⟨0, Nat.zero_le _, rfl, ?_, ?_, ?_, ?_, ?_⟩
    · have := own_new (w := w.alloc (.cells #[.int .i64 n.k, .int .i64 n.a, .int .i64 n.b, .int .i64 n.c] 37)) ([byteOf n.k].map bv) (e := 5) (sz := 1) (n := 1) rfl (by unfold maxLen; omega)
      rw [hbk.out]
      have h2 := this.alloc (.cells #[.int .i64 n.a, .int .i64 n.b, .int .i64 n.c] 81)
      simpa [nums] using h2
    · intro k hk; simp [Value.ownBlock] at hk; omega
    · exact (Below.heap_alloc _ _ _ (by simp; omega)).trans ((Below.heap_alloc _ _ _ (by simp)).trans (heap_alloc_new w _))
    · have := heap_alloc_new ((w.alloc (.cells #[.int .i64 n.k, .int .i64 n.a, .int .i64 n.b, .int .i64 n.c] 37)).alloc (.cells #[.int .u8 n.k] 5)) (.cells #[.int .i64 n.a, .int .i64 n.b, .int .i64 n.c] 81)
      simpa using this
    · exact ((Below.alloc1 w _).alloc (by simp) _).alloc (by simp; omega) _
  case round =>
    obtain ⟨j, hj, rfl, hr⟩ := hrel
    have hkind := hr.kind
    have lk := lt_of_cell hkind
    have HR := Lib.hid hr
    clear hr
    go_wp2_with fail
    refine (HRU.out wr).mono ?_
    rintro e w1 ⟨rfl, hb⟩
    have hr1 := HR.out.over hb
    have hnl := nums_len HN.out j
    by_cases hlt : j < u
    · have hcell := hr1.cell (j := j) (by omega)
      have lb1 := lt_of_cell hcell
      have hx := getD_good HN.out j
      obtain ⟨x, hx2⟩ : ∃ x : Nat, [n.a, n.b, n.c].getD j 0 = (x : Int) := ⟨([n.a, n.b, n.c].getD j 0).toNat, by omega⟩
      rw [hx2] at hcell hx
      have HX := Lib.hid hx2
      have hxl : x ≤ 2 ^ 31 := by omega
      have hl5 := numB_len5 x (by omega)
      have hlj : (j : Int) < (u : Int) := by omega
      have HR1 := Lib.hid hr1
      have hln : (byteOf n.k :: nums n j).length + (numB x).length ≤ 100 := by simp only [List.length_cons]; omega
      clear hx2 hx hnl hb hr1 HR hkind lk
      go_wp2_with fail
      obtain ⟨wo, rfl⟩ : ∃ wo : World, wo = wr := ⟨_, rfl⟩
      go_loopw [3, 6] (fun v' i wr => ∃ (y : Nat) (l' : List UInt8), i = .int .i64 y ∧ y ≤ 2 ^ 31 ∧ RBRel n w w.heap.size (w.heap.size + 2) l' v' wr ∧ Hid (l' ++ numB y = (byteOf n.k :: nums n j) ++ numB x)) (fun _ i _ => (intOf i).toNat)
      case atStart => exact ⟨x, _, rfl, hxl, HR1.out, rfl⟩
      case round =>
        obtain ⟨y, l', rfl, hy, ho, heq⟩ := hrel
        have hle : l'.length < 200 := by
          have h1 := congrArg List.length heq.out
          rw [List.length_append, List.length_append] at h1
          omega
        have HO := Lib.hid ho
        clear ho
        by_cases hlt : (127 : Int) < y
        · have hb1 := bv_of ((y : Int) % 128 + 128) (by omega) (by omega)
          have hyd : (y : Int) - (y : Int) / 128 * 128 = (y : Int) % 128 := by omega
          have HBV := Lib.hid hb1
          have HYD := Lib.hid hyd
          clear hb1 hyd
          go_wp2_with (at_builtin; refine wpList_app _ rfl _ _ 57 57 5 rfl (.int .u8 0) 1 1 Try.underlying57 Try.info_u8 rfl _ rfl _ _ (HO.out.own.alloc _) _ rfl 1 [_] (src_one Try.underlying57 rfl) ?h1 ?h2 ?hK)
          case h1 => unfold maxLen; omega
          case h2 => omega
          case hK =>
            intro v2 w2 ho2 hg2
            rw [HYD.out, HBV.out] at ho2
            have HR2 : Hid (RBRel n w w.heap.size (w.heap.size + 2) (l' ++ [byteOf ((y % 128 + 128 : Nat) : Int)]) v2 w2) := by
              refine HO.out.next ?_ hg2.ofAlloc
              rw [List.length_append, List.map_append]; exact ho2
            have HE : Hid ((l' ++ [byteOf ((y % 128 + 128 : Nat) : Int)]) ++ numB (y / 128) = (byteOf n.k :: nums n j) ++ numB x) := by
              unfold Hid
              rw [← heq.out, numB_ge y (by omega), List.append_assoc]
              rfl
            clear ho2 hg2 HO heq HBV HYD HR1 HX hcell
            go_wp2
            go_roundw
            case rel => exact ⟨y / 128, _, by go_num, by omega, HR2.out, HE.out⟩
            case measure => simp [intOf]; omega
        · have hb1 := bv_of (y : Int) (by omega) (by omega)
          have HBV := Lib.hid hb1
          clear hb1
          go_wp2_with (at_builtin; refine wpList_app _ rfl _ _ 57 57 5 rfl (.int .u8 0) 1 1 Try.underlying57 Try.info_u8 rfl _ rfl _ _ (HO.out.own.alloc _) _ rfl 1 [_] (src_one Try.underlying57 rfl) ?h1 ?h2 ?hK)
          case h1 => unfold maxLen; omega
          case h2 => omega
          case hK =>
            intro v2 w2 ho2 hg2
            rw [HBV.out] at ho2
            have HR2 : Hid (RBRel n w w.heap.size (w.heap.size + 2) (byteOf n.k :: nums n (j + 1)) v2 w2) := by
              have he : byteOf n.k :: nums n (j + 1) = l' ++ [byteOf (y : Int)] := by
                rw [nums_succ n j (by omega), HX.out, Int.toNat_natCast, ← numB_lt y (by omega)]
                rw [← List.cons_append]; exact heq.out.symm
              rw [he]
              refine HO.out.next ?_ hg2.ofAlloc
              rw [List.length_append, List.map_append]; exact ho2
            clear ho2 hg2 HO heq HBV HR1 HX hcell
            go_wp2
            go_roundw
            case rel => exact ⟨j + 1, by omega, by go_num, HR2.out⟩
            case measure => simp [intOf]; omega
    · obtain rfl : j = u := by omega
      obtain ⟨L, hL⟩ : ∃ L, L = byteOf n.k :: nums n j := ⟨_, rfl⟩
      have hll : L.length ≤ 16 := by rw [hL]; simp only [List.length_cons]; omega
      have hbody : bodyB n = L := by rw [hL]; unfold bodyB; rw [HU.out, Int.toNat_natCast]
      have hhead : headB n = byteOf ((L.length : Nat) : Int) :: L := by unfold headB; rw [hbody]
      rw [← hL] at hr1
      have HR1 := Lib.hid hr1
      obtain ⟨p, cap, hv⟩ := own_slice2 hr1.own
      subst hv
      have HH := Lib.hid hhead
      have hbl := Lib.hid (bv_of ((L.length : Nat) : Int) (by omega) (by omega))
      have hlj : ¬ (j : Int) < (j : Int) := by omega
      have hs := hr1.below.size
      have HSRC := Lib.hid (fun q => src_rd (P := Try.prog) (tx := 57) Try.underlying57 (hr1.own.alloc q).rd (bv_one _))
      clear hL hbody hhead hr1 hb HR hkind lk hnl
      go_wp2_with (at_builtin; refine wpList_app _ rfl _ _ 57 57 5 rfl (.int .u8 0) 1 1 Try.underlying57 Try.info_u8 rfl _ rfl 1 [_] (own_new (w := w1) [_] (sz := 1) (n := 1) rfl (by unfold maxLen; omega)) _ rfl _ _ (HSRC.out _) ?h1 ?h2 ?hK)
      case h1 => unfold maxLen; omega
      case h2 => omega
      case hK =>
        intro v2 w2 ho2 hg2
        have ho3 : Own w2 5 1 (headB n).length v2 ((headB n).map bv) := by
          rw [HH.out, List.length_cons, Nat.add_comm, List.map_cons, ← hbl.out]; exact ho2
        have hb2 : Below w.heap.size w w2 := hg2.below (HR1.out.below.alloc hs _) (fun k hk => by simp [Value.ownBlock] at hk; omega)
        have ha2 : ∀ k, v2.ownBlock = some k → w.heap.size ≤ k := hg2.from (B := w.heap.size) (by simp; omega) (fun k hk => by simp [Value.ownBlock] at hk; omega)
        have hlen : (headB n).length ≤ 20 := by rw [HH.out]; simp only [List.length_cons]; omega
        have HS := Lib.hid (rsum_any v2 (headB n) w2 ho3.rd)
        have hsl := sumN_lt (headB n)
        have hE : encB n = headB n ++ [byteOf ((sumN (headB n) / 256 : Nat) : Int), byteOf ((sumN (headB n) % 256 : Nat) : Int)] := by
          unfold encB
          congr 3
          unfold byteOf
          congr 1
          omega
        have HE := Lib.hid hE
        generalize sumN (headB n) = S at *
        generalize headB n = hd at *
        have HO3 := Lib.hid ho3
        have HB2 := Lib.hid hb2
        have HA2 := Lib.hid ha2
        have hv1 := Lib.hid (bv_of ((S / 256 : Nat) : Int) (by omega) (by omega))
        have hv2 := Lib.hid (bv_of ((S % 256 : Nat) : Int) (by omega) (by omega))
        have hs16 : (S : Int) < 65536 := by omega
        obtain ⟨p2, cap2, hv⟩ := own_slice2 ho3
        subst hv
        clear ho2 ho3 hg2 hb2 ha2 hE HR1 HH hbl HSRC hsl
        go_wp2_with fail
        refine HS.out.mono ?_
        rintro e w3 ⟨rfl, rfl⟩
        clear HS
        go_wp2_with (at_builtin; refine wpList_app _ rfl _ _ 57 57 5 rfl (.int .u8 0) 1 1 Try.underlying57 Try.info_u8 rfl _ rfl _ _ (HO3.out.alloc _) _ rfl 2 [_, _] (src_two Try.underlying57 rfl rfl) ?h1 ?h2 ?hK)
        case h1 => unfold maxLen; omega
        case h2 => omega
        case hK =>
          intro v4 w4 ho4 hg4
          have HR : Hid (Own w4 5 1 (encB n).length v4 ((encB n).map bv) ∧ Below w.heap.size w w4 ∧ ∀ k, v4.ownBlock = some k → w.heap.size ≤ k) := by
            refine ⟨?_, hg4.ofAlloc.below HB2.out HA2.out, hg4.ofAlloc.from HB2.out.size HA2.out⟩
            rw [HE.out, List.length_append, List.map_append, List.map_cons, List.map_cons, List.map_nil, ← hv1.out, ← hv2.out]
            exact ho4
          clear ho4 hg4 HO3 HB2 HA2 HE
          go_wp2
          go_ret
          exact ⟨_, rfl, HR.out⟩
end Go.Proofs.Ytdclgmffgidcmaa
