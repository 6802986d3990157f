/- TapeApart: the plain law, the walk. -/
import Derived.Test.YtdclgmffgidcmaaFullWalk
namespace Go.Proofs.Ytdclgmffgidcmaa
set_option linter.unusedSimpArgs false
set_option linter.unusedVariables false
open Go.RowKit

def n5 : Nt := ⟨6, 5, 0, 0⟩
def n6 : Nt := ⟨6, 6, 0, 0⟩

theorem apart_pure (s : TS) (hf : fit s) (hl : (s.area s.c).length ≤ 2000) : ∃ s1 s2 s3 z, s.crash.repair = (s1, z, 0) ∧ Holds s1 (readL (s.area s.c)).1 ∧ s1.append [n5] = (s2, 0) ∧ Holds s2 ((readL (s.area s.c)).1 ++ [n5]) ∧
    s2.compact [n6] = (s3, 0) ∧ Holds s3 [n6] := by
  obtain ⟨s1, a1, b1⟩ := crash_repair s hf
  obtain ⟨r1, r2, r3, r4, r5, r6⟩ := readL_spec (s.area s.c)
  have h5 : ∀ n ∈ [n5], goodB n = true := fun n hn => by rw [List.mem_singleton.1 hn]; kernel_rfl
  have h6 : ∀ n ∈ [n6], goodB n = true := fun n hn => by rw [List.mem_singleton.1 hn]; kernel_rfl
  have e5 : (encL [n5]).length = 5 := by kernel_rfl
  have e6 : (encL [n6]).length = 5 := by kernel_rfl
  obtain ⟨s2, a2, b2⟩ := b1.append [n5] h5 (by rw [e5]; have := r2.length_le; omega)
  obtain ⟨s3, a3, b3⟩ := b2.compact [n6] h6 (by rw [e6]; omega)
  exact ⟨s1, s2, s3, _, a1, b1, a2, b2, a3, b3⟩

/-- An append of one note makes an area no more than 19 bytes longer. -/
theorem append_more (s : TS) (n : Nt) (hf : fit s) : fit (s.append [n]).1 ∧ ((s.append [n]).1.area (s.append [n]).1.c).length ≤ (s.area s.c).length + 19 := by
  refine ⟨append_fit s [n] hf, ?_⟩
  unfold TS.append
  repeat' split
  all_goals first
    | exact Nat.le_add_right _ _
    | skip
  all_goals
    rename_i hg _ _ _
    obtain ⟨k, hk, e⟩ := put_area s.c hf.2.2 (encL [n]) s
    have hgn : goodB n = true := by
      have : [n].all goodB = true := by
        cases h : [n].all goodB
        · exact absurd h hg
        · rfl
      simpa using this
    have hl := (encB_len hgn).1
    have hl1 : (encL [n]).length = (encB n).length := by simp [encL]
    show ((s.put s.c (encL [n])).area (s.put s.c (encL [n])).c).length ≤ _
    rw [(TS.put_step s.c hf.2.2 (encL [n]) s).1.c, e, List.length_append, List.length_take]
    omega

theorem TapeB.apart {B b : Nat} {w w' : World} {F S : Nat → Prop} {s : TS} (h : TapeB B w b F s) (k : Keep S w w') (hs : ∀ j, F j → ¬ S j) : TapeB B w' b F s := ⟨h.1.kept k hs, h.2.1, Nat.le_trans h.2.2 k.size⟩
theorem apart_wider {w w' : World} {F G : Nat → Prop} (h : ∀ j, G j → ¬ F j) (hl : ∀ j, G j → j < w.heap.size) : ∀ j, G j → ¬ Wider F w w' j := fun j hj q => Or.elim q (h j hj) (fun q => absurd (hl j hj) (by omega))

theorem Ns.cells {w : World} {p : Option Addr} {n c : Nat} {ns : List Nt} (h : Ns w (.slice p n c) ns) (hpos : 0 < ns.length) : ∃ b o, p = some ⟨b, o, none⟩ ∧ ∀ k m, ns[k]? = some m →
    w.cell? ⟨b, o + k * 4, none⟩ = some (.int .i64 m.k) ∧ w.cell? ⟨b, o + k * 4 + 1, none⟩ = some (.int .i64 m.a) ∧ w.cell? ⟨b, o + k * 4 + 2, none⟩ = some (.int .i64 m.b) ∧ w.cell? ⟨b, o + k * 4 + 3, none⟩ = some (.int .i64 m.c) := by
  rcases h.2 with ⟨rfl, _⟩ | ⟨b, o, c, hv, _, _, hc⟩
  · simp at hpos
  · cases hv; exact ⟨b, o, rfl, note_cells' hc⟩

/-- One note in a new block, as a slice of notes. -/
theorem ns_note (w : World) (t : TypeId) (n : Nt) : Ns (w.alloc (.cells #[.int .i64 n.k, .int .i64 n.a, .int .i64 n.b, .int .i64 n.c] t)) (.slice (some ⟨w.heap.size, 0, none⟩) 1 1) [n] :=
  Rd.ns (ns := [n]) ((own_new (w := w) (e := t) (cellsL [n]) (sz := 4) (n := 1) rfl (by unfold maxLen; omega)).rd)

theorem ns_note2 (w : World) (t t' : TypeId) (o : Obj) (n : Nt) : Ns ((w.alloc o).alloc (.cells #[.int .i64 n.k, .int .i64 n.a, .int .i64 n.b, .int .i64 n.c] t)) (.slice (some ⟨w.heap.size + 1, 0, none⟩) 1 1) [n] := by
  have h := ns_note (w.alloc o) t n
  rwa [show (w.alloc o).heap.size = w.heap.size + 1 by simp] at h
theorem below_alloc2 (w : World) (o o' : Obj) : Below w.heap.size w ((w.alloc o).alloc o') := (Below.alloc1 w o).alloc (by simp) o'

/-- What the loop that writes into what was read holds. -/
def BumpRel (w0 : World) (S : Nat → Prop) (g n : Nat) (iv : Value) (wr : World) : Prop :=
  ∃ k : Nat, iv = .int .i64 k ∧ k ≤ n ∧ Keep S w0 wr ∧ ∀ j, j < n → (∃ z : Int, wr.cell? ⟨g, j * 4 + 1, none⟩ = some (.int .i64 z)) ∧ wr.frozen? ⟨g, j * 4 + 1, none⟩ = false
theorem bump_step {w0 wr : World} {S : Nat → Prop} {g n k : Nat} (hS : S g) (hk : k < n) (hK : Keep S w0 wr) (hc : ∀ j, j < n → (∃ z : Int, wr.cell? ⟨g, j * 4 + 1, none⟩ = some (.int .i64 z)) ∧ wr.frozen? ⟨g, j * 4 + 1, none⟩ = false) (x : Int) :
    BumpRel w0 S g n (.int .i64 ((k + 1 : Nat) : Int)) (wr.setCell ⟨g, k * 4 + 1, none⟩ (.int .i64 x)) := by
  refine ⟨k + 1, rfl, hk, hK.setCell (p := ⟨g, k * 4 + 1, none⟩) (fun _ => hS) _, fun j hj => ⟨?_, ?_⟩⟩
  · obtain ⟨⟨z, hz⟩, _⟩ := hc j hj
    obtain ⟨⟨z', hz'⟩, _⟩ := hc k hk
    by_cases h : j = k
    · subst h; exact ⟨x, World.cell?_setCell_same _ _ _ hz⟩
    · exact ⟨z, by rw [World.cell?_setCell_other _ _ _ _ (by intro e; injection e with _ e; omega)]; exact hz⟩
  · rw [World.frozen?_setCell]; exact (hc j hj).2

/-- What the loop that appends holds. -/
def ApartRel (w : World) (b m : Nat) (iv : Value) (wr : World) : Prop :=
  ∃ (k : Nat) (F : Nat → Prop) (s : TS), iv = .int .i64 k ∧ k ≤ m ∧ TapeB w.heap.size wr b F s ∧ fit s ∧ (s.area s.c).length ≤ 19 * k ∧ Below w.heap.size w wr

set_option maxRecDepth 100000 in
set_option maxHeartbeats 1000000 in
theorem apart_any (v0 : Value) (a1 : Int) (l : List Nt) (w : World) (h0 : Ns w v0 l) : Calls Try.prog 8 #[v0, .int .i64 a1] w fun e w' => e = .returned (.bool true) ∧ Below w.heap.size w w' := by
  have HN := Lib.hid (tb_new w w.heap.size (Nat.le_refl _))
  obtain ⟨p0, c0, rfl, hn0, hc0⟩ := h0.slice
  unfold maxLen at hc0
  have N0 := Lib.hid h0
  by_cases hm : l.length ≤ 60
  · have hmi : (l.length : Int) ≤ 60 := by omega
    generalize hml : l.length = m at *
    have HML := Lib.hid hml
    clear h0 hml
    go_enter Try.func8, Try.ntmps8
    go_wp2_with fail
    refine HN.out.mono ?_
    rintro e u1 ⟨rfl, t1, hb1⟩
    have HB1 := Lib.hid hb1
    have HT1 := Lib.hid t1
    have HA := Lib.hid (awake_any u1)
    clear hb1 t1 HN
    go_wp2_with fail
    refine HA.out.mono ?_
    rintro e w2 ⟨rfl, hb2⟩
    have HB := Lib.hid (HB1.out.trans (hb2.mono HB1.out.size))
    have HT := Lib.hid (HT1.out.over hb2)
    clear hb2 HT1 HB1 HA
    obtain ⟨N, hN, hN3⟩ := wrap_rem a1 600 (by decide) (by decide)
    rw [show ((600 : Nat) : Int) = 600 by rfl] at hN
    have HX := Lib.hid (tb_arm HT.out N rfl (by omega))
    go_wp2_with fail
    rw [hN]
    clear hN
    refine HX.out.mono ?_
    rintro e w3 ⟨rfl, T⟩
    have HT := Lib.hid T.tape
    have HB := Lib.hid (HB.out.trans T.below)
    clear T HX
    go_wp2_with fail
    go_loopw [37] (fun iv wr => ApartRel w w.heap.size m iv wr) (fun iv _ => m - (intOf iv).toNat)
    case atStart => exact ⟨0, _, _, rfl, Nat.zero_le _, HT.out, new_fit, Nat.zero_le _, HB.out⟩
    case round =>
      obtain ⟨k, F, s, rfl, hk, ht, hf, hl, hb⟩ := hrel
      by_cases hlt : k < m
      · obtain ⟨b0, o0, rfl, hcs⟩ := N0.out.cells (by rw [HML.out]; omega)
        obtain ⟨n, hn⟩ : ∃ n, l[k]? = some n := ⟨l[k]'(by rw [HML.out]; exact hlt), List.getElem?_eq_getElem _⟩
        obtain ⟨q0, q1, q2, q3⟩ := hcs k n hn
        have lb0 := lt_of_cell q0
        obtain ⟨hbc, _⟩ := bcell hb
        rw [← hbc _ _ lb0] at q0 q1 q2 q3
        have hsz := hb.size
        have HT := Lib.hid ht
        have HB := Lib.hid hb
        have HF := Lib.hid (And.intro hf hl)
        clear hbc hcs hn ht hb hf hl
        have HX := Lib.hid (fun q q' => tb_append (HT.out.over (below_alloc2 wr (.cells #[.int .i64 n.k, .int .i64 n.a, .int .i64 n.b, .int .i64 n.c] q) (.cells #[.int .i64 n.k, .int .i64 n.a, .int .i64 n.b, .int .i64 n.c] q'))) [n] _ HF.out.1 (ns_note2 wr q' q _ n) (by simp))
        have hm1 := append_more s n HF.out.1
        have HM1 := Lib.hid hm1
        clear hm1
        go_wp2_with fail
        refine (HX.out _ _).mono ?_
        rintro e z ⟨rfl, T⟩
        have HR : Hid (ApartRel w w.heap.size m (.int .i64 ((k + 1 : Nat) : Int)) z) :=
          ⟨k + 1, _, _, rfl, hlt, T.tape, HM1.out.1, by have := HM1.out.2; have := HF.out.2; omega, (HB.out.trans ((below_alloc2 wr _ _).mono hsz)).trans T.below⟩
        clear HX T HT HB HF HM1
        go_wp2
        go_roundw
        case rel => exact HR.out
        case measure => simp [intOf]; omega
      · have HT := Lib.hid ht
        have HB := Lib.hid hb
        have hl2 : (s.area s.c).length ≤ 2000 := by omega
        obtain ⟨s1, s2, s3, z, p1, p2, p3, p4, p5, p6⟩ := apart_pure s hf hl2
        have P := Lib.hid (And.intro p1 (And.intro p3 p5))
        have G := Lib.hid (And.intro p2 (And.intro p4 p6))
        have Hf := Lib.hid hf
        have hwr := Lib.hid hb.size
        clear ht hb hl hl2 p1 p2 p3 p4 p5 p6 hf
        have HX := Lib.hid (tb_crash HT.out Hf.out)
        go_wp2_with fail
        refine HX.out.mono ?_
        rintro e x1 ⟨a, rfl, ta, tt, b⟩
        have HA := Lib.hid ta
        have HT := Lib.hid tt
        have HB := Lib.hid (HB.out.trans (b.mono HB.out.size))
        have HX := Lib.hid (tb_crash HA.out (crash_fit s Hf.out))
        have HL := Lib.hid (HA.out.1.lt)
        clear ta tt b
        go_wp2_with fail
        refine HX.out.mono ?_
        rintro e x2 ⟨b, rfl, tb, ta, bb⟩
        have HA := Lib.hid ta
        have HBB := Lib.hid tb
        have HD : Hid (∀ j, (x1.heap.size ≤ j ∧ j < x2.heap.size) → ¬ (wr.heap.size ≤ j ∧ j < x1.heap.size)) := fun j h q => by omega
        have HT := Lib.hid (HT.out.over bb)
        have HB := Lib.hid (HB.out.trans (bb.mono HB.out.size))
        clear ta tb bb HX
        have HX := Lib.hid (tb_size HA.out (crash_fit s Hf.out))
        have HY := Lib.hid (fun w' (h : Below x2.heap.size x2 w') => tb_size (HT.out.over h) Hf.out)
        have HZ := Lib.hid (fun w' (h : Below x2.heap.size x2 w') => tb_size (HBB.out.over h) (crash_fit _ (crash_fit s Hf.out)))
        rw [show s.crash.area s.crash.c = s.area s.c from rfl] at HX
        rw [show s.crash.crash.area s.crash.crash.c = s.area s.c from rfl] at HZ
        have HRA := Lib.hid (fun w' (h : Below x2.heap.size x2 w') => tb_read (HA.out.over h) (crash_fit s Hf.out))
        have HRB := Lib.hid (fun w' (h : Below x2.heap.size x2 w') => tb_read (HBB.out.over h) (crash_fit _ (crash_fit s Hf.out)))
        rw [show s.crash.area s.crash.c = s.area s.c from rfl] at HRA
        rw [show s.crash.crash.area s.crash.crash.c = s.area s.c from rfl] at HRB
        have hcrash := fun w' => tb_repair (w := w') (B := wr.heap.size) (b := a) (s := s.crash) (F := fun k => wr.heap.size ≤ k ∧ k < x1.heap.size)
        generalize hA : s.area s.c = A at *
        have HAA := Lib.hid hA
        clear hA hcrash
        go_wp2_with fail
        refine (HX.out).mono ?_
        rintro e x3 ⟨rfl, -, b⟩
        have HC := Lib.hid b
        clear b
        go_wp2_with fail
        refine (HY.out x3 HC.out).mono ?_
        rintro e x4 ⟨rfl, -, b⟩
        have HC := Lib.hid (HC.out.trans (b.mono HC.out.size))
        clear b
        go_wp2_with fail
        refine (HZ.out x4 HC.out).mono ?_
        rintro e x5 ⟨rfl, -, b⟩
        have HC := Lib.hid (HC.out.trans (b.mono HC.out.size))
        clear b
        go_wp2_with fail
        refine (HY.out x5 HC.out).mono ?_
        rintro e x6 ⟨rfl, -, b⟩
        have HC := Lib.hid (HC.out.trans (b.mono HC.out.size))
        clear b
        clear HX HY HZ
        go_wp2_with fail
        refine (HRA.out x6 HC.out).mono ?_
        rintro e x7 ⟨pa, ca, rfl, oa, -, b7⟩
        have NA := Lib.hid oa.1.rd.ns
        have HC := Lib.hid (HC.out.trans (b7.mono HC.out.size))
        clear oa b7
        go_wp2_with fail
        refine (HRB.out x7 HC.out).mono ?_
        rintro e x8 ⟨pb, cb, rfl, ob, -, b8⟩
        have HS := Lib.hid (same_any _ _ _ _ x8 (NA.out.below b8) ob.1.rd.ns)
        simp only [decide_true] at HS
        have HC := Lib.hid (HC.out.trans (b8.mono HC.out.size))
        clear ob b8 NA
        go_wp2_with fail
        refine (HS.out).mono ?_
        rintro e x9 ⟨rfl, b⟩
        have HC := Lib.hid (HC.out.trans (b.mono HC.out.size))
        clear b
        clear HS
        go_wp2_with fail
        refine (HRB.out x9 HC.out).mono ?_
        rintro e x10 ⟨pw, cw, rfl, ow, -, b10⟩
        have NW := Lib.hid ow.1.rd.ns
        have hs9 := HC.out.size
        have hs10 := b10.size
        have hwl := Lib.hid (ow.1.lt)
        have HW := Lib.hid (fun k hk => (ow.2 k hk).1)
        have HC := Lib.hid (HC.out.trans (b10.mono HC.out.size))
        have HA := Lib.hid (HA.out.over HC.out)
        have HBB := Lib.hid (HBB.out.over HC.out)
        have HB := Lib.hid (HB.out.trans (HC.out.mono HB.out.size))
        have hws : w.heap.size ≤ wr.heap.size := hwr.out
        have hx1 := HBB.out.1.me
        have hx1 : x1.heap.size ≤ x2.heap.size := by have h : x1.heap.size ≤ b ∧ b < x2.heap.size := hx1; omega
        have HX := Lib.hid (tb_repair HA.out (crash_fit s Hf.out))
        rw [P.out.1] at HX
        clear HRA HRB HC ow b10 HT
        have hx12 : Hid (x1.heap.size ≤ x2.heap.size ∧ x2.heap.size ≤ x9.heap.size ∧ x9.heap.size ≤ x10.heap.size) := ⟨hx1, hs9, hs10⟩
        have HWW : Hid (∀ k, (Value.slice pw (readL A).1.length cw).ownBlock = some k → x9.heap.size ≤ k ∧ k < x10.heap.size) := fun k hk => ⟨HW.out k hk, hwl.out k hk⟩
        have hnl := (readL_spec A).2.2.2.1
        have hn3 := NW.out.1
        clear hs9 hs10 hx1 HW hwl
        generalize hgot : (readL A).1 = got at *
        have hgn := Lib.hid hgot
        clear hgot hnl
        have HQF : Hid (∀ j, (x1.heap.size ≤ j ∧ j < x2.heap.size) → ¬ ((wr.heap.size ≤ j ∧ j < x1.heap.size) ∨ x10.heap.size ≤ j)) := fun j h q => by have := hx12.out; omega
        go_wp2_with fail
        refine HX.out.mono ?_
        rintro e x11 ⟨rfl, T⟩
        have K11 : Hid (Keep (fun k => (wr.heap.size ≤ k ∧ k < x1.heap.size) ∨ x10.heap.size ≤ k) x10 x11) := T.keep.mono (fun i _ h => .inl h)
        have HB := Lib.hid (HB.out.trans (T.below.mono hws))
        have HA := Lib.hid T.tape
        clear HX T
        have HX := Lib.hid (fun q => tb_append (w := x11.alloc (.cells #[.int .i64 6, .int .i64 5, .int .i64 0, .int .i64 0] q)) (HA.out.over (Below.alloc1 x11 _)) [n5] _ G.out.1.fits (ns_note x11 q n5) (by simp))
        rw [P.out.2.1] at HX
        go_wp2_with fail
        refine (HX.out _).mono ?_
        rintro e x12 ⟨rfl, T⟩
        have K12 : Hid (Keep (fun k => (wr.heap.size ≤ k ∧ k < x1.heap.size) ∨ x10.heap.size ≤ k) x10 x12) := (K11.out.alloc _).trans T.keep (fun i hi q => Or.elim q Or.inl (fun q => Or.inr q.1))
        have HB := Lib.hid ((HB.out.trans ((Below.alloc1 x11 _).mono HB.out.size)).trans (T.below.mono hws))
        have HA := Lib.hid T.tape
        clear HX T
        have HX := Lib.hid (fun q => tb_compact (w := x12.alloc (.cells #[.int .i64 6, .int .i64 6, .int .i64 0, .int .i64 0] q)) (HA.out.over (Below.alloc1 x12 _)) [n6] _ G.out.2.1.fits (ns_note x12 q n6) (by simp))
        rw [P.out.2.2] at HX
        go_wp2_with fail
        refine (HX.out _).mono ?_
        rintro e x13 ⟨rfl, T⟩
        have K13 : Hid (Keep (fun k => (wr.heap.size ≤ k ∧ k < x1.heap.size) ∨ x10.heap.size ≤ k) x10 x13) := (K12.out.alloc _).trans T.keep (fun i hi q => by
          rcases q with (q | q) | q
          · exact .inl q
          · exact .inr q.1
          · exact .inr (by have := K11.out.size; simp at q; omega))
        have HB := Lib.hid ((HB.out.trans ((Below.alloc1 x12 _).mono HB.out.size)).trans (T.below.mono hws))
        have hs0 := HB.out.size
        have HA := Lib.hid T.tape
        have HL3 := Lib.hid HA.out.1.lt
        have HBB := Lib.hid (HBB.out.apart K13.out HQF.out)
        have NW := Lib.hid (NW.out.kept K13.out (fun k e _ q => by have := HWW.out k e; have := hx12.out; omega))
        have hs13 := K13.out.size
        clear HX T K11 K12 HQF
        have HX := Lib.hid (tb_read HBB.out (crash_fit _ (crash_fit s Hf.out)))
        rw [show s.crash.crash.area s.crash.crash.c = s.area s.c from rfl, HAA.out, hgn.out] at HX
        go_wp2_with fail
        refine HX.out.mono ?_
        rintro e x14 ⟨pr, cr, rfl, og, tb, bb⟩
        have HB := Lib.hid (HB.out.trans (bb.mono HB.out.size))
        have HA := Lib.hid (HA.out.over bb)
        have HBB := Lib.hid tb
        have NW := Lib.hid (NW.out.below bb)
        have hs14 := bb.size
        have hcr : got.length ≤ cr ∧ cr ≤ 2 ^ 63 - 1 := by
          obtain ⟨p', c', hv, h1, h2⟩ := og.1.rd.ns.slice
          cases hv
          exact ⟨h1, h2⟩
        obtain ⟨hcr1, hcr2⟩ := hcr
        have OG := Lib.hid og
        have hbg : ∀ g o, pr = some ⟨g, o, none⟩ → x13.heap.size ≤ g := fun g o e => by subst e; exact (og.2 g rfl).1
        have HBG := Lib.hid hbg
        clear HX tb bb og hbg
        go_wp2_with fail
        obtain ⟨g, hg, hgb⟩ : ∃ g, (0 < got.length → pr = some ⟨g, 0, none⟩ ∧ ∀ j, j < got.length → (∃ z : Int, x14.cell? ⟨g, j * 4 + 1, none⟩ = some (.int .i64 z)) ∧ x14.frozen? ⟨g, j * 4 + 1, none⟩ = false) ∧ x13.heap.size ≤ g := by
          rcases OG.out.1.shape with ⟨_, h0, _⟩ | ⟨g, c, hv, _, _, hgs, hc⟩
          · exact ⟨x13.heap.size, fun h => by omega, Nat.le_refl _⟩
          · cases hv
            refine ⟨g, fun _ => ⟨rfl, fun j hj => ⟨⟨(got[j]).a, ?_⟩, (hc (j * 4 + 1) (by omega)).2⟩⟩, HBG.out g 0 rfl⟩
            rw [(hc (j * 4 + 1) (by omega)).1, cellsL_at got j 1 hj (by omega)]
            rfl
        have HG := Lib.hid hg
        clear hg
        go_loopw [103] (fun iv wr2 => BumpRel x14 (fun k => x13.heap.size ≤ k) g got.length iv wr2) (fun iv _ => got.length - (intOf iv).toNat)
        case atStart => exact ⟨0, rfl, Nat.zero_le _, Keep.refl _ _, fun j hj => (HG.out (by omega)).2 j hj⟩
        case round =>
          obtain ⟨i, rfl, hi, K, hc⟩ := hrel
          by_cases hilt : i < got.length
          · obtain ⟨rfl, _⟩ := HG.out (by omega)
            obtain ⟨⟨zz, c0⟩, f0⟩ := hc i hilt
            have lg := lt_of_cell c0
            have HR := Lib.hid (fun x => bump_step (g := g) hgb hilt K hc x)
            clear hc K
            go_wp2
            go_roundw
            case rel => exact HR.out _
            case measure => simp [intOf]; omega
          · have HK := Lib.hid K
            have hs15 := K.size
            clear hc K
            have HB := Lib.hid (HB.out.trans (⟨HK.out.os, HK.out.tape, HK.out.output, HK.out.size, fun i hi => HK.out.block i (by omega) (by omega)⟩ : Below w.heap.size x14 wr))
            have HA := Lib.hid (HA.out.apart HK.out (fun j hj q => by have := HL3.out j hj; omega))
            have HBB := Lib.hid (HBB.out.apart HK.out (fun j hj q => by have := hj.2; have := hx12.out; omega))
            have NW := Lib.hid (NW.out.kept HK.out (fun k e _ q => by have := HWW.out k e; omega))
            have HX := Lib.hid (tb_read HBB.out (crash_fit _ (crash_fit s Hf.out)))
            rw [show s.crash.crash.area s.crash.crash.c = s.area s.c from rfl, HAA.out, hgn.out] at HX
            have hile : ¬ ((i : Int) < (got.length : Int)) := by omega
            clear HG HBG OG HK HWW HL3 K13 HD HL HT
            go_wp2_with fail
            refine HX.out.mono ?_
            rintro e y1 ⟨p1, d1, rfl, o1, -, bb⟩
            have HS := Lib.hid (same_any _ _ _ _ y1 o1.1.rd.ns (NW.out.below bb))
            simp only [decide_true] at HS
            have HA := Lib.hid (HA.out.over bb)
            have HB := Lib.hid (HB.out.trans (bb.mono HB.out.size))
            clear HX o1 bb HBB NW
            go_wp2_with fail
            refine HS.out.mono ?_
            rintro e y2 ⟨rfl, bb⟩
            have HA := Lib.hid (HA.out.over bb)
            have HB := Lib.hid (HB.out.trans (bb.mono HB.out.size))
            have HX := Lib.hid (tb_read HA.out G.out.2.2.fits)
            rw [show (readL (s3.area s3.c)).1 = [n6] by rw [G.out.2.2.read]] at HX
            clear HS bb
            go_wp2_with fail
            refine HX.out.mono ?_
            rintro e y3 ⟨p1, d1, rfl, o1, -, bb⟩
            have NA := Lib.hid o1.1.rd.ns
            have HB := Lib.hid (HB.out.trans (bb.mono HB.out.size))
            have HS := Lib.hid (fun q => same_any _ _ _ _ (y3.alloc (.cells #[.int .i64 6, .int .i64 6, .int .i64 0, .int .i64 0] q)) (NA.out.below (Below.alloc1 y3 _)) (ns_note y3 q n6))
            simp only [decide_true] at HS
            clear HX o1 bb HA
            go_wp2_with fail
            refine (HS.out _).mono ?_
            rintro e y4 ⟨rfl, bb⟩
            have HB := Lib.hid ((HB.out.trans ((Below.alloc1 y3 _).mono HB.out.size)).trans (bb.mono (by have := HB.out.size; simp; omega)))
            clear HS bb NA
            go_wp2
            go_ret
            exact ⟨rfl, HB.out⟩
  · have hmi : (60 : Int) < (l.length : Int) := by omega
    generalize l.length = m at *
    clear h0 hm
    go_enter Try.func8, Try.ntmps8
    go_wp2_with fail
    refine HN.out.mono ?_
    rintro e u1 ⟨rfl, t1, hb1⟩
    have HB1 := Lib.hid hb1
    have HA := Lib.hid (awake_any u1)
    clear hb1 t1 HN
    go_wp2_with fail
    refine HA.out.mono ?_
    rintro e w2 ⟨rfl, hb2⟩
    have HB := Lib.hid (HB1.out.trans (hb2.mono HB1.out.size))
    clear hb2 HB1 HA
    go_wp2
    go_ret
    exact ⟨rfl, HB.out⟩
end Go.Proofs.Ytdclgmffgidcmaa
