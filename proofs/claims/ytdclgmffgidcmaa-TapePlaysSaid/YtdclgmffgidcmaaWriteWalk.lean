/- The program's notes: what Write comes to. -/
import Derived.Test.YtdclgmffgidcmaaReadWalk
import Derived.Test.YtdclgmffgidcmaaNs
namespace Go.Proofs.Ytdclgmffgidcmaa
set_option linter.unusedSimpArgs false
set_option linter.unusedVariables false
open Go.RowKit

theorem encL_len (ns : List Nt) (hg : ∀ n ∈ ns, goodB n = true) : (encL ns).length ≤ 19 * ns.length := by
  induction ns with
  | nil => simp [encL]
  | cons n ns ih =>
    have h1 := (encB_len (hg n List.mem_cons_self)).1
    have h2 := ih fun m hm => hg m (List.mem_cons_of_mem _ hm)
    rw [encL_cons, List.length_append, List.length_cons]; omega

/-- The cells of a note in a slice, as the walk asks for them. -/
theorem note_cells {w : World} {b off : Nat} {ns : List Nt} (hc : ∀ j, j < ns.length * 4 → w.cell? ⟨b, off + j, none⟩ = (cellsL ns)[j]?) (k : Nat) (hk : k < ns.length) :
    w.cell? ⟨b, off + k * 4, none⟩ = some (.int .i64 (ns[k]).k) ∧ w.cell? ⟨b, off + k * 4 + 1, none⟩ = some (.int .i64 (ns[k]).a) ∧ w.cell? ⟨b, off + k * 4 + 2, none⟩ = some (.int .i64 (ns[k]).b) ∧ w.cell? ⟨b, off + k * 4 + 3, none⟩ = some (.int .i64 (ns[k]).c) := by
  have h := fun j (hj : j < 4) => cellsL_at ns k j hk hj
  have hl : ∀ j, j < 4 → k * 4 + j < ns.length * 4 := fun j hj => by omega
  refine ⟨?_, ?_, ?_, ?_⟩
  · have := hc (k * 4 + 0) (hl 0 (by omega)); rw [h 0 (by omega)] at this; simpa [Nt.cells] using this
  · rw [Nat.add_assoc, hc (k * 4 + 1) (hl 1 (by omega)), h 1 (by omega)]; rfl
  · rw [Nat.add_assoc, hc (k * 4 + 2) (hl 2 (by omega)), h 2 (by omega)]; rfl
  · rw [Nat.add_assoc, hc (k * 4 + 3) (hl 3 (by omega)), h 3 (by omega)]; rfl

/-- What Write answers: all good, or not. -/
def WriteP (ns : List Nt) (w : World) (e : Ending) (w' : World) : Prop :=
  if ns.all goodB then ∃ v', e = .returned (.tuple #[v', .int .i64 0]) ∧ Own w' 5 1 (encL ns).length v' ((encL ns).map bv) ∧ Below w.heap.size w w' ∧ ∀ b, v'.ownBlock = some b → w.heap.size ≤ b
  else e = .returned (.tuple #[.slice none 0 0, .int .i64 180]) ∧ Below w.heap.size w w'

/-- What holds at the head of Write's loop. -/
def WriteRel (w : World) (ns : List Nt) (v iv : Value) (wr : World) : Prop :=
  ∃ k : Nat, iv = .int .i64 k ∧ k ≤ ns.length ∧ (∀ n ∈ ns.take k, goodB n = true) ∧ Own wr 5 1 (encL (ns.take k)).length v ((encL (ns.take k)).map bv) ∧ Below w.heap.size w wr ∧ ∀ b, v.ownBlock = some b → w.heap.size ≤ b

theorem write_any (v : Value) (ns : List Nt) (w : World) (hv : Ns w v ns) (hL : ns.length ≤ 2 ^ 20) :
    Calls Try.prog 26 #[v] w fun e w' => WriteP ns w e w' := by
  obtain ⟨_, hv⟩ := hv
  rcases hv with ⟨rfl, p0, c0, rfl, hcm⟩ | ⟨b, off, cap, rfl, hle, hcm, hc⟩
  · unfold maxLen at hcm
    go_enter Try.func26, Try.ntmps26
    go_wp2
    go_loopw [4, 11] (fun v at_ wr => NilRel w v at_ wr) (fun _ _ _ => 0)
    case atStart => exact ⟨rfl, rfl, rfl⟩
    case round =>
      obtain ⟨rfl, rfl, rfl⟩ := hrel
      go_wp2
      go_ret2
      exact ⟨_, rfl, Own.nil _ _ _, Below.refl _ _, fun b h => by cases h⟩
  · unfold maxLen at hcm
    have HC := Lib.hid hc
    clear hc
    go_enter Try.func26, Try.ntmps26
    go_wp2
    go_loopw [4, 11] (fun v iv wr => WriteRel w ns v iv wr) (fun _ iv _ => ns.length - (intOf iv).toNat)
    case atStart => exact ⟨0, rfl, Nat.zero_le _, fun _ h => by simp at h, Own.nil _ _ _, Below.refl _ _, fun b h => by cases h⟩
    case round =>
      obtain ⟨k, rfl, hk, hgd, ho, hb, hap⟩ := hrel
      by_cases hlt : k < ns.length
      · obtain ⟨c0, c1, c2, c3⟩ := note_cells HC.out k hlt
        have hbl := lt_of_cell c0
        obtain ⟨hbc, _⟩ := bcell hb
        have d0 := (hbc _ _ hbl).trans c0
        have d1 := (hbc _ _ hbl).trans c1
        have d2 := (hbc _ _ hbl).trans c2
        have d3 := (hbc _ _ hbl).trans c3
        have hbs := hb.size
        have hel := encL_len _ hgd
        rw [List.length_take, Nat.min_eq_left hk] at hel
        have HT : Hid (ns.take (k + 1) = ns.take k ++ [ns[k]]) := List.take_succ_eq_append_getElem hlt
        have HM : ns[k] ∈ ns := List.getElem_mem hlt
        generalize ns[k] = n at *
        clear hbc c0 c1 c2 c3
        cases hg : goodB n
        · have HE := Lib.hid (encode_no n hg)
          have HW : Hid (ns.all goodB = false) := by
            unfold Hid
            rw [Bool.eq_false_iff]
            intro h
            have := List.all_eq_true.1 h n HM
            rw [hg] at this; cases this
          clear hg hgd HT
          have HB := Lib.hid hb
          clear hb HM
          go_wp2_with fail
          refine (HE.out _).mono ?_
          rintro e w1 ⟨rfl, hb1⟩
          have HB1 := Lib.hid ((HB.out.alloc hbs _).trans (hb1.mono (by simp; omega)))
          clear hb1
          go_wp2
          go_ret2
          unfold WriteP
          rw [HW.out]
          exact ⟨rfl, HB1.out⟩
        · have HE := Lib.hid (encode_yes n hg)
          have hl := encB_len hg
          have HG : Hid (∀ m ∈ ns.take (k + 1), goodB m = true) := by
            unfold Hid
            rw [HT.out]
            intro m hm
            rcases List.mem_append.1 hm with h | h
            · exact hgd m h
            · rw [List.mem_singleton.1 h]; exact hg
          have HX : Hid (encL (ns.take (k + 1)) = encL (ns.take k) ++ encB n) := by unfold Hid; rw [HT.out, encL_append]; simp [encL]
          clear hg hgd HT HM
          have HB := Lib.hid hb
          have HO := Lib.hid ho
          clear hb ho
          go_wp2_with fail
          refine (HE.out _).mono ?_
          rintro e w1 ⟨c, rfl, hoc, hb1, hac⟩
          have HO1 := Lib.hid ((HO.out.alloc _).below hb1)
          have HB1 := Lib.hid ((HB.out.alloc hbs _).trans (hb1.mono (by simp; omega)))
          have hs1 := hb1.size
          simp at hs1
          have hsrc := src_rd (P := Try.prog) (tx := 57) Try.underlying57 hoc.rd (bv_one _)
          have HS := Lib.hid hsrc
          clear hb1 hoc hsrc
          go_wp2_with (at_builtin; refine wpList_app _ rfl _ _ 57 57 5 rfl (.int .u8 0) 1 1 Try.underlying57 Try.info_u8 rfl _ rfl _ _ HO1.out _ rfl _ _ HS.out ?h1 ?h2 ?hK)
          case h1 => unfold maxLen; omega
          case h2 => omega
          case hK =>
            intro v3 w3 ho3 hg3
            have HR : Hid (WriteRel w ns v3 (.int .i64 ((k + 1 : Nat) : Int)) w3) := by
              refine ⟨k + 1, rfl, hlt, HG.out, ?_, hg3.below HB1.out hap, hg3.from (by omega) hap⟩
              rw [HX.out, List.length_append, List.map_append]; exact ho3
            clear ho3 hg3 HG HX HO HB HS HO1 HB1 hap HE
            go_wp2
            go_roundw
            case rel => exact HR.out
            case measure => simp [intOf]; omega
      · obtain rfl : k = ns.length := by omega
        have HW : Hid (ns.all goodB = true) := by
          unfold Hid; rw [List.all_eq_true]; rw [List.take_length] at hgd; exact hgd
        rw [List.take_length] at ho
        have HO := Lib.hid ho
        have HB := Lib.hid hb
        clear ho hb hgd
        go_wp2
        go_ret2
        unfold WriteP
        rw [HW.out]
        exact ⟨_, rfl, HO.out, HB.out, hap⟩
end Go.Proofs.Ytdclgmffgidcmaa
