/- TapeFull: the plain law, the walk. -/
import Derived.Test.YtdclgmffgidcmaaTapeOps
namespace Go.Proofs.Ytdclgmffgidcmaa
set_option linter.unusedSimpArgs false
set_option linter.unusedVariables false
open Go.RowKit

section
variable {P : Program} {w : World}
/-- append, at an operation whose guard has been struck. -/
theorem wp_app {o : Oper} {a : Act} {K : Act → World → Prop} {Q : Exit → Act → World → Prop} (s x : Operand) (t tx e : TypeId) (hop : o.op = Op.call { callee := Callee.builtin Builtin.append, args := #[s, x], argTypes := #[t, tx] })
    (z : Value) (sz bytes : Nat) (ht : P.underlying t = some (.slice e)) (hi : (P.info? e).map (fun i => (i.zero, i.size, i.bytes)) = some (some z, sz, bytes)) (hzs : z.cells.size = sz)
    (v : Value) (hv : a.eval s = v) (n : Nat) (xs : List Value) (hown : Own w e sz n v xs) (xv : Value) (hx : a.eval x = xv) (m : Nat) (news : List Value) (hs : Src P sz tx xv m news w)
    (h63 : n + m ≤ maxLen) (hbytes : (n + m) * bytes ≤ 140737488355328)
    (hK : ∀ v' w', Own w' e sz (n + m) v' (xs ++ news) → Grew w w' v v' → K (a.put o.dst v') w') : Oper.wp P o a w K Q := by
  obtain ⟨i, hi1, hi2, hi3, hi4⟩ := info_parts hi
  obtain ⟨v', w', hrun, r1, r2⟩ := run_app (P := P) w t tx o.type e i z sz bytes ht hi1 hi2 hi3 hi4 hzs v n xs hown xv m news hs h63 hbytes
  unfold Oper.wp
  simp [execOp, hop, resolve, invoke, builtin, hv, hx, hrun, Result.andThen]
  exact hK v' w' r1 r2
end

def fN : Nt := ⟨1, 16384, 1, 0⟩
def fL (k : Nat) : List Nt := List.replicate k fN
theorem fN_len : (encB fN).length = 8 := by kernel_rfl
theorem fL_len (k : Nat) : (fL k).length = k := by simp [fL]
theorem fL_good (k : Nat) : ∀ n ∈ fL k, goodB n = true := fun n hn => by rw [(List.mem_replicate.1 hn).2]; kernel_rfl
theorem fL_enc (k : Nat) : (encL (fL k)).length = 8 * k := by
  induction k with
  | zero => rfl
  | succ k ih =>
    have : fL (k + 1) = fN :: fL k := rfl
    rw [this, encL_cons, List.length_append, fN_len, ih]; omega
theorem fL_succ (k : Nat) : fL (k + 1) = fL k ++ [fN] := by simp [fL, List.replicate_succ']
theorem fL_add (j k : Nat) : fL j ++ fL k = fL (j + k) := by simp [fL]
theorem fL_take (k m : Nat) (h : m ≤ k) : (fL k).take m = fL m := by simp [fL, List.take_replicate, Nat.min_eq_left h]

/-- All of the law's calls, in plain Lean. -/
theorem full_pure (N : Nat) (hN : N < 3) : ∃ s1 s2 s3 s4, TS.append ⟨[], [], 0, false, 0, false⟩ (fL (8192 - N)) = (s1, 0) ∧ Holds s1 (fL (8192 - N)) ∧ s1.append (fL (N + 1)) = (s1, 5) ∧
    s1.compact (fL 8192) = (s2, 0) ∧ Holds s2 (fL 8192) ∧ s2.append (fL 1) = (s2, 5) ∧ s2.compact (fL 1) = (s3, 0) ∧ Holds s3 (fL 1) ∧ s3.append (fL 2) = (s4, 0) ∧ Holds s4 (fL 3) ∧ s4.compact (fL 8193) = (s4, 5) := by
  obtain ⟨s1, a1, b1⟩ := new_holds.append (fL (8192 - N)) (fL_good _) (by rw [fL_enc]; simp [encL]; omega)
  rw [List.nil_append] at b1
  obtain ⟨s2, a2, b2⟩ := b1.compact (fL 8192) (fL_good _) (by rw [fL_enc]; decide)
  obtain ⟨s3, a3, b3⟩ := b2.compact (fL 1) (fL_good _) (by rw [fL_enc]; decide)
  obtain ⟨s4, a4, b4⟩ := b3.append (fL 2) (fL_good _) (by rw [fL_enc, fL_enc]; decide)
  rw [fL_add] at b4
  exact ⟨s1, s2, s3, s4, a1, b1, b1.append_full _ (fL_good _) (by rw [fL_enc, fL_enc]; omega), a2, b2, b2.append_full _ (fL_good _) (by rw [fL_enc, fL_enc]; decide), a3, b3, a4, b4, b4.compact_full _ (fL_good _) (by rw [fL_enc]; decide)⟩

theorem ns_fL {B : Nat} {w : World} {F : Nat → Prop} {p : Option Addr} {cap K : Nat} (h : OwnF B w F 37 4 K (.slice p K cap) (cellsL (fL K))) (m : Nat) (hm : m ≤ K) : Ns w (.slice p m cap) (fL m) := by
  have h1 : Rd w 4 (fL K).length (.slice p K cap) (cellsL (fL K)) := by rw [fL_len]; exact h.1.rd
  have := h1.ns.take m (by rw [fL_len]; exact hm)
  rwa [fL_take K m hm] at this

theorem fL_cells {B : Nat} {w : World} {F : Nat → Prop} {p : Option Addr} {cap K : Nat} (h : OwnF B w F 37 4 K (.slice p K cap) (cellsL (fL K))) (hK : 0 < K) : ∃ g, p = some ⟨g, 0, none⟩ ∧ g < w.heap.size ∧
    w.cell? ⟨g, 0, none⟩ = some (.int .i64 1) ∧ w.cell? ⟨g, 1, none⟩ = some (.int .i64 16384) ∧ w.cell? ⟨g, 2, none⟩ = some (.int .i64 1) ∧ w.cell? ⟨g, 3, none⟩ = some (.int .i64 0) := by
  rcases h.1.shape with ⟨_, h0, _⟩ | ⟨g, c, hv, _, _, hg, hc⟩
  · omega
  · cases hv
    have hx : ∀ j, j < 4 → w.cell? ⟨g, j, none⟩ = fN.cells[j]? := by
      intro j hj
      rw [(hc j (by omega)).1]
      have := cellsL_at (fL K) 0 j (by rw [fL_len]; exact hK) hj
      rw [Nat.zero_mul, Nat.zero_add] at this
      rw [this]
      simp [fL]
    exact ⟨g, rfl, hg, hx 0 (by omega), hx 1 (by omega), hx 2 (by omega), hx 3 (by omega)⟩

/-- What the loop that fills the notes holds. -/
def FullRel (w : World) (lv iv : Value) (wr : World) : Prop :=
  ∃ k : Nat, iv = .int .i64 k ∧ k ≤ 8192 ∧ OwnF w.heap.size wr (fun k => k = w.heap.size) 37 4 k lv (cellsL (fL k)) ∧ TapeB w.heap.size wr w.heap.size (fun k => k = w.heap.size) ⟨[], [], 0, false, 0, false⟩ ∧ Below w.heap.size w wr

/-- One note in a new block, as what is appended. -/
theorem src_noteN (w : World) (t : TypeId) (n : Nt) : Src Try.prog 4 29 (.slice (some ⟨w.heap.size, 0, none⟩) 1 1) 1 (cellsL [n]) (w.alloc (.cells #[.int .i64 n.k, .int .i64 n.a, .int .i64 n.b, .int .i64 n.c] t)) :=
  src_ns Try.underlying29 (Rd.ns (ns := [n]) ((own_new (w := w) (e := t) (cellsL [n]) (sz := 4) (n := 1) rfl (by unfold maxLen; omega)).rd))

set_option maxRecDepth 100000 in
set_option maxHeartbeats 1000000 in
theorem full_any (a0 : Int) (w : World) : Calls Try.prog 7 #[.int .i64 a0] w fun e w' => e = .returned (.bool true) ∧ Below w.heap.size w w' := by
  have HN := Lib.hid (tb_new w w.heap.size (Nat.le_refl _))
  go_enter Try.func7, Try.ntmps7
  go_wp2_with fail
  refine HN.out.mono ?_
  rintro e u1 ⟨rfl, t1, hb1⟩
  have HB1 := Lib.hid hb1
  have HT1 := Lib.hid t1
  have HA := Lib.hid (awake_any u1)
  clear hb1 t1 HN
  go_wp2_with fail
  refine HA.out.mono ?_
  rintro e w2 ⟨rfl, hb2⟩
  have HB2 := Lib.hid (HB1.out.trans (hb2.mono HB1.out.size))
  have HT2 := Lib.hid (HT1.out.over hb2)
  clear hb2 HT1 HB1 HA
  obtain ⟨N, hN, hN3⟩ := wrap_rem a0 3 (by decide) (by decide)
  rw [show ((3 : Nat) : Int) = 3 by rfl] at hN
  go_wp2_with fail
  rw [hN]
  clear hN
  generalize IntKind.u64.wrap a0 = A0
  go_loopw [4, 5] (fun lv iv wr => FullRel w lv iv wr) (fun _ iv _ => 8192 - (intOf iv).toNat)
  case atStart => exact ⟨0, rfl, by decide, ⟨Own.nil _ _ _, fun k h => by simp [Value.ownBlock] at h⟩, HT2.out, HB2.out⟩
  case round =>
    obtain ⟨k, rfl, hk, ho, ht, hb⟩ := hrel
    by_cases hlt : k < 8192
    · have HO := Lib.hid ho
      have HT := Lib.hid ht
      have HB := Lib.hid hb
      have HS := Lib.hid (fun q => src_noteN wr q fN)
      unfold fN at HS
      dsimp only at HS
      have hlt' : (k : Int) < 8192 := by omega
      have HK := Lib.hid hk
      have HLT := Lib.hid hlt
      clear ho ht hb HT2 HB2 hk hlt
      obtain ⟨p, cap, rfl⟩ := own_slice HO.out.1
      go_wp2_with (at_builtin; refine wpList_app _ rfl _ _ 29 29 37 rfl _ 4 32 Try.underlying29 Try.info_note rfl _ rfl _ _ (HO.out.1.alloc _) _ rfl 1 _ (HS.out _) ?h1 ?h2 ?hK)
      case h1 => unfold maxLen; omega
      case h2 => omega
      case hK =>
        intro v3 w3 ho3 hg3
        have HR : Hid (FullRel w v3 (.int .i64 ((k + 1 : Nat) : Int)) w3) := by
          have hb := Below.alloc1 wr (.cells #[.int .i64 1, .int .i64 16384, .int .i64 1, .int .i64 0] 37)
          have ht := HT.out.over hb
          refine ⟨k + 1, rfl, HLT.out, ?_, ht.grew hg3 (fun j e => (HO.out.2 j e).2), below_grew (HB.out.trans (hb.mono HT.out.2.2)) hg3 ht.2.2 (fun j e => (HO.out.2 j e).1)⟩
          rw [fL_succ, cellsL_append]
          exact OwnF.grew ht hg3 (fun j e => HO.out.2 j e) ho3
        clear ho3 hg3 HO HT HB HS
        go_wp2
        go_roundw
        case rel => exact HR.out
        case measure => simp [intOf]; omega
    · obtain rfl : k = 8192 := by omega
      obtain ⟨p, cap, rfl⟩ := own_slice ho.1
      obtain ⟨s1, s2, s3, s4, e1, g1, e1', e2, g2, e2', e3, g3, e4, g4, e4'⟩ := full_pure N hN3
      have HO := Lib.hid ho
      have HT := Lib.hid ht
      have HB := Lib.hid hb
      have E := Lib.hid (And.intro e1 (And.intro e1' (And.intro e2 (And.intro e2' (And.intro e3 (And.intro e4 e4'))))))
      have G := Lib.hid (And.intro g1 (And.intro g2 (And.intro g3 g4)))
      clear ho ht hb HT2 HB2 hk hlt e1 e1' e2 e2' e3 e4 e4' g1 g2 g3 g4
      have hcap : 8192 ≤ cap ∧ cap ≤ 2 ^ 63 - 1 := by
        rcases HO.out.1.2 with ⟨h, _⟩ | ⟨g, c, cur, h, _, h1, h2, _⟩
        · cases h
        · cases h; exact ⟨h1, h2⟩
      obtain ⟨hcap1, hcap2⟩ := hcap
      have HX := Lib.hid (tb_append HT.out (fL (8192 - N)) (.slice p (8192 - N) cap) new_fit (ns_fL HO.out (8192 - N) (by omega)) (by rw [fL_len]; omega))
      rw [E.out.1] at HX
      go_wp2_with fail
      refine HX.out.mono ?_
      rintro e z1 ⟨rfl, T⟩
      have HT := Lib.hid T.tape
      have HO := Lib.hid (HO.out.step T.keep)
      have HB := Lib.hid (HB.out.trans T.below)
      clear HX T
      have HX := Lib.hid (tb_size HT.out G.out.1.fits)
      rw [show (((s1.area s1.c).length : Nat) : Int) = 65536 - 8 * (N : Int) by rw [G.out.1.area, fL_enc]; omega] at HX
      go_wp2_with fail
      refine HX.out.mono ?_
      rintro e y1 ⟨rfl, t, b⟩
      have HT := Lib.hid t
      have HO := Lib.hid (HO.out.over b)
      have HB := Lib.hid (HB.out.trans (b.mono HB.out.size))
      clear HX t b
      have HX := Lib.hid (tb_append HT.out (fL (N + 1)) (.slice p (N + 1) cap) G.out.1.fits (ns_fL HO.out (N + 1) (by omega)) (by rw [fL_len]; omega))
      rw [E.out.2.1] at HX
      go_wp2_with fail
      refine HX.out.mono ?_
      rintro e z2 ⟨rfl, T⟩
      have HT := Lib.hid T.tape
      have HO := Lib.hid (HO.out.step T.keep)
      have HB := Lib.hid (HB.out.trans T.below)
      clear HX T
      have HX := Lib.hid (tb_compact HT.out (fL 8192) (.slice p 8192 cap) G.out.1.fits (ns_fL HO.out 8192 (by omega)) (by rw [fL_len]; omega))
      rw [E.out.2.2.1] at HX
      go_wp2_with fail
      refine HX.out.mono ?_
      rintro e z3 ⟨rfl, T⟩
      have HT := Lib.hid T.tape
      have HO := Lib.hid (HO.out.step T.keep)
      have HB := Lib.hid (HB.out.trans T.below)
      clear HX T
      have HX := Lib.hid (tb_append HT.out (fL 1) (.slice p 1 cap) G.out.2.1.fits (ns_fL HO.out 1 (by omega)) (by rw [fL_len]; omega))
      rw [E.out.2.2.2.1] at HX
      go_wp2_with fail
      refine HX.out.mono ?_
      rintro e z4 ⟨rfl, T⟩
      have HT := Lib.hid T.tape
      have HO := Lib.hid (HO.out.step T.keep)
      have HB := Lib.hid (HB.out.trans T.below)
      clear HX T
      have HX := Lib.hid (tb_compact HT.out (fL 1) (.slice p 1 cap) G.out.2.1.fits (ns_fL HO.out 1 (by omega)) (by rw [fL_len]; omega))
      rw [E.out.2.2.2.2.1] at HX
      go_wp2_with fail
      refine HX.out.mono ?_
      rintro e z5 ⟨rfl, T⟩
      have HT := Lib.hid T.tape
      have HO := Lib.hid (HO.out.step T.keep)
      have HB := Lib.hid (HB.out.trans T.below)
      clear HX T
      have HX := Lib.hid (tb_append HT.out (fL 2) (.slice p 2 cap) G.out.2.2.1.fits (ns_fL HO.out 2 (by omega)) (by rw [fL_len]; omega))
      rw [E.out.2.2.2.2.2.1] at HX
      go_wp2_with fail
      refine HX.out.mono ?_
      rintro e z6 ⟨rfl, T⟩
      have HT := Lib.hid T.tape
      have HO := Lib.hid (HO.out.step T.keep)
      have HB := Lib.hid (HB.out.trans T.below)
      clear HX T
      have HX := Lib.hid (tb_read HT.out G.out.2.2.2.fits)
      rw [show (readL (s4.area s4.c)).1.length = 3 by rw [G.out.2.2.2.read]; rfl] at HX
      go_wp2_with fail
      refine HX.out.mono ?_
      rintro e y2 ⟨p', cap', rfl, -, t, b⟩
      have HT := Lib.hid t
      have HO := Lib.hid (HO.out.over b)
      have HB := Lib.hid (HB.out.trans (b.mono HB.out.size))
      clear HX t b
      have HC := Lib.hid (fun q => src_noteN y2 q fN)
      unfold fN at HC
      dsimp only at HC
      have hfc := fL_cells HO.out (by omega)
      obtain ⟨g, rfl, hg, q0, q1, q2, q3⟩ := hfc
      go_wp2_with fail
      refine wp_app (.tmp 80) (.tmp 84) 29 29 37 (by rfl) _ 4 32 Try.underlying29 Try.info_note rfl _ (by rfl) _ _ (HO.out.1.alloc _) _ (by rfl) 1 _ (HC.out _) ?h1 ?h2 ?hK
      case h1 => unfold maxLen; omega
      case h2 => omega
      case hK =>
        intro v3 w3 ho3 hg3
        have hb := Below.alloc1 y2 (.cells #[.int .i64 1, .int .i64 16384, .int .i64 1, .int .i64 0] 37)
        have ht := HT.out.over hb
        have HB := Lib.hid (below_grew (HB.out.trans (hb.mono HT.out.2.2)) hg3 ht.2.2 (fun j e => (HO.out.2 j e).1))
        have HT := Lib.hid (ht.grew hg3 (fun j e => (HO.out.2 j e).2))
        have hN : Ns w3 v3 (fL 8193) := by
          apply Rd.ns
          rw [fL_len, show fL 8193 = fL 8192 ++ [fN] from fL_succ 8192, cellsL_append]
          exact ho3.rd
        have HX := Lib.hid (tb_compact HT.out (fL 8193) v3 G.out.2.2.2.fits hN (by rw [fL_len]; omega))
        rw [E.out.2.2.2.2.2.2] at HX
        obtain ⟨p3, cap3, rfl⟩ := own_slice ho3
        clear ho3 hg3 hb ht hN q0 q1 q2 q3 hg
        go_wp2_with fail
        refine HX.out.mono ?_
        rintro e y3 ⟨rfl, T⟩
        have HB := Lib.hid (HB.out.trans T.below)
        clear T HX
        go_wp2
        go_ret
        exact ⟨rfl, HB.out⟩
end Go.Proofs.Ytdclgmffgidcmaa
