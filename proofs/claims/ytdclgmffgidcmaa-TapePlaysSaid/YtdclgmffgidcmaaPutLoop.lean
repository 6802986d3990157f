/- The tape: put. -/
import Derived.Test.YtdclgmffgidcmaaSizeWalk
namespace Go.Proofs.Ytdclgmffgidcmaa
set_option linter.unusedSimpArgs false
set_option linter.unusedVariables false
open Go.RowKit

/-- What holds at the head of put's loop. -/
def PutRel (w : World) (b : Nat) (F : Nat → Prop) (s : TS) (ar : Nat) (L : List UInt8) (iv : Value) (wr : World) : Prop :=
  ∃ k : Nat, iv = .int .i64 k ∧ k ≤ L.length ∧ TapeAt wr b (fun j => F j ∨ (w.heap.size + 2 ≤ j ∧ j < wr.heap.size)) (s.put ar (L.take k)) ∧ Keep F w wr ∧ w.heap.size + 2 ≤ wr.heap.size ∧
    wr.cell? ⟨w.heap.size, 0, none⟩ = some (.pointer (some ⟨b, 0, none⟩)) ∧ wr.cell? ⟨w.heap.size + 1, 0, none⟩ = some (.int .i64 (ar : Int))

theorem put_start {w : World} {b : Nat} {F : Nat → Prop} {s : TS} (hT : TapeAt w b F s) (ar : Nat) (L : List UInt8) (t1 t2 : TypeId) :
    PutRel w b F s ar L (.int .i64 0) ((w.alloc (.cells #[.pointer (some ⟨b, 0, none⟩)] t1)).alloc (.cells #[.int .i64 (ar : Int)] t2)) := by
  have hk : Keep F w ((w.alloc (.cells #[.pointer (some ⟨b, 0, none⟩)] t1)).alloc (.cells #[.int .i64 (ar : Int)] t2)) := ((Keep.refl F w).alloc _).alloc _
  refine ⟨0, rfl, Nat.zero_le _, ?_, hk, by simp, ?_, ?_⟩
  · have h := (hT.kept (S := fun _ => False) ((((Keep.refl (fun _ => False) w).alloc (.cells #[.pointer (some ⟨b, 0, none⟩)] t1)).alloc (.cells #[.int .i64 (ar : Int)] t2))) (fun _ _ f => f))
    refine h.mono (fun k hk => .inl hk) (fun k hk => hk.elim (h.lt k) And.right)
  · simp [go_sem]
  · simp [go_sem]


theorem put_any (w : World) (b : Nat) (F : Nat → Prop) (s : TS) (ar : Nat) (L : List UInt8) (v : Value) (hT : TapeAt w b F s) (har : ar = 0 ∨ ar = 1) (hv : Rd w 1 L.length v (L.map bv)) (hF : ∀ k, v.ownBlock = some k → ¬ F k)
    (hlen : s.a0.length + L.length ≤ 2 ^ 20 ∧ s.a1.length + L.length ≤ 2 ^ 20) :
    Calls Try.prog 28 #[.pointer (some ⟨b, 0, none⟩), .int .i64 (ar : Int), v] w
      fun e w' => e = .returned (.tuple #[]) ∧ TapeAt w' b (Wider F w w') (s.put ar L) ∧ Keep F w w' := by
  obtain ⟨_, _, hv⟩ := hv
  have HT := Lib.hid hT
  have hend : ∀ wr, PutRel w b F s ar L (.int .i64 (L.length : Int)) wr → TapeAt wr b (Wider F w wr) (s.put ar L) ∧ Keep F w wr := by
    rintro wr ⟨k, hk, _, h1, h2, _⟩
    obtain rfl : k = L.length := by simp at hk; omega
    rw [List.take_length] at h1
    exact ⟨h1.mono (fun j hj => hj.imp id fun h => ⟨by omega, h.2⟩) (fun j hj => hj.elim (fun h => h1.lt j (.inl h)) And.right), h2⟩
  have HE := Lib.hid hend
  rcases hv with ⟨rfl, h0⟩ | ⟨g, off, cap, rfl, hle, hcm, hc⟩
  · obtain rfl : L = [] := List.eq_nil_of_length_eq_zero h0
    clear hend hT
    go_enter Try.func28, Try.ntmps28
    go_wp2
    go_loopw [10] (fun iv wr => iv = .int .i64 0 ∧ PutRel w b F s ar [] iv wr) (fun _ _ => 0)
    case atStart => exact ⟨rfl, put_start HT.out ar _ _ _⟩
    case round =>
      obtain ⟨rfl, hrel⟩ := hrel
      go_wp2
      go_end0
      exact ⟨rfl, HE.out _ hrel⟩
  · unfold maxLen at hcm
    have HC := Lib.hid hc
    have hFg : ¬ F g := hF g rfl
    clear hc hend hT hF
    go_enter Try.func28, Try.ntmps28
    go_wp2
    go_loopw [10] (fun iv wr => PutRel w b F s ar L iv wr) (fun iv _ => L.length - (intOf iv).toNat)
    case atStart => exact put_start HT.out ar _ _ _
    case round =>
      obtain ⟨k, rfl, hk, h1, h2, h3, h4, h5⟩ := hrel
      by_cases hlt : k < L.length
      · have c0 : wr.cell? ⟨g, off + k, none⟩ = some (bv L[k]) := by
          have h := HC.out k (by simpa using hlt)
          have h' : w.cell? ⟨g, off + k, none⟩ = some (bv L[k]) := by rw [h]; simp [hlt]
          exact (h2.cell (lt_of_cell h') hFg).trans h'
        have hp := TS.put_len ar (L.take k) s
        have hX : Hid (s.put ar (L.take (k + 1)) = (s.put ar (L.take k)).put1 ar L[k]) := by unfold Hid; rw [List.take_succ_eq_append_getElem hlt, TS.put_succ]
        have hla : ((s.put ar (L.take k)).area ar).length ≤ 2 ^ 20 := by
          rw [List.length_take, Nat.min_eq_left hk] at hp
          unfold TS.area; split <;> omega
        generalize L[k] = x at *
        generalize hsk : s.put ar (L.take k) = sk at *
        have hgl := lt_of_cell c0
        have l3 := lt_of_cell h4
        have l4 := lt_of_cell h5
        have hlb := HT.out.lt
        have hU := fun q => put_unit (wr.alloc (.cells #[bv x] q)) b w.heap.size (w.heap.size + 1) wr.heap.size ar (fun j => F j ∨ (w.heap.size + 2 ≤ j ∧ j < wr.heap.size)) sk x
          (h1.kept ((Keep.refl (fun _ => False) wr).alloc _) (fun _ _ f => f)) har
          ((Keep.cell ((Keep.refl (fun _ => False) wr).alloc _) (p := ⟨w.heap.size, 0, none⟩) l3 (fun f => f)).trans h4)
          ((Keep.cell ((Keep.refl (fun _ => False) wr).alloc _) (p := ⟨w.heap.size + 1, 0, none⟩) l4 (fun f => f)).trans h5) (by simp [go_sem])
          (fun h => h.elim (fun h => absurd (hlb _ h) (by omega)) (fun h => by omega)) (fun h => h.elim (fun h => absurd (hlb _ h) (by omega)) (fun h => by omega)) (fun h => h.elim (fun h => absurd (hlb _ h) (by omega)) (fun h => by omega)) hla
        have HU := Lib.hid hU
        have H1 := Lib.hid h1
        have H2 := Lib.hid h2
        unfold bv at c0
        clear h1 h2 hU hsk hlb hp HE
        go_wp2_with fail
        refine (HU.out _).mono ?_
        rintro e w1 ⟨rfl, t1, k1⟩
        have hs1 : wr.heap.size + 1 ≤ w1.heap.size := by simpa using k1.size
        have n3 : ¬ (F w.heap.size ∨ (w.heap.size + 2 ≤ w.heap.size ∧ w.heap.size < wr.heap.size)) := fun h => h.elim (fun h => absurd (HT.out.lt _ h) (by omega)) (fun h => by omega)
        have n4 : ¬ (F (w.heap.size + 1) ∨ (w.heap.size + 2 ≤ w.heap.size + 1 ∧ w.heap.size + 1 < wr.heap.size)) := fun h => h.elim (fun h => absurd (HT.out.lt _ h) (by omega)) (fun h => by omega)
        have HR : Hid (PutRel w b F s ar L (.int .i64 ((k + 1 : Nat) : Int)) w1) := by
          refine ⟨k + 1, rfl, hlt, ?_, ?_, by omega, ?_, ?_⟩
          · rw [hX.out]
            refine t1.mono (fun j hj => ?_) (fun j hj => ?_)
            · rcases hj with (h | ⟨h, h'⟩) | ⟨h, h'⟩
              · exact .inl h
              · exact .inr ⟨h, by omega⟩
              · exact .inr ⟨by simp at h; omega, h'⟩
            · rcases hj with h | ⟨h, h'⟩
              · exact t1.lt j (.inl (.inl h))
              · exact h'
          · exact (H2.out.alloc _).trans k1 fun i hi h => h.elim id (fun h => by omega)
          · exact (k1.cell (p := ⟨w.heap.size, 0, none⟩) (by simp; omega) n3).trans ((Keep.cell ((Keep.refl (fun _ => False) wr).alloc _) (p := ⟨w.heap.size, 0, none⟩) l3 (fun f => f)).trans h4)
          · exact (k1.cell (p := ⟨w.heap.size + 1, 0, none⟩) (by simp; omega) n4).trans ((Keep.cell ((Keep.refl (fun _ => False) wr).alloc _) (p := ⟨w.heap.size + 1, 0, none⟩) l4 (fun f => f)).trans h5)
        clear t1 k1 HU H1 H2 hX HC HT h4 h5 c0
        go_wp2
        go_roundw
        case rel => exact HR.out
        case measure => simp [intOf]; omega
      · obtain rfl : k = L.length := by omega
        have HZ := Lib.hid (HE.out wr ⟨_, rfl, hk, h1, h2, h3, h4, h5⟩)
        clear h1 h2 HE
        go_wp2
        go_end0
        exact ⟨rfl, HZ.out⟩

end Go.Proofs.Ytdclgmffgidcmaa
