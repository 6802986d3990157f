/- The reference's tape: written. -/
import Derived.Test.YtdclgmffgidcmaaRef18f
import Derived.Test.YtdclgmffgidcmaaWriteWalk
import Derived.Test.YtdclgmffgidcmaaSameWalk
import Derived.Outline
namespace Go.Proofs.Ytdclgmffgidcmaa
set_option linter.unusedSimpArgs false
set_option linter.unusedVariables false
open Go.RowKit

theorem str_app (a b : List UInt8) : str a ++ str b = str (a ++ b) := by
  unfold str
  apply ByteArray.ext
  simp

theorem Ns.cellsAt {w : World} {p : Option Addr} {n c : Nat} {ns : List Nt} (h : Ns w (.slice p n c) ns) (hpos : 0 < ns.length) : ∃ b o, p = some ⟨b, o, none⟩ ∧ ∀ k m, ns[k]? = some m →
    w.cell? ⟨b, o + k * 4, none⟩ = some (.int .i64 m.k) ∧ w.cell? ⟨b, o + k * 4 + 1, none⟩ = some (.int .i64 m.a) ∧ w.cell? ⟨b, o + k * 4 + 2, none⟩ = some (.int .i64 m.b) ∧ w.cell? ⟨b, o + k * 4 + 3, none⟩ = some (.int .i64 m.c) := by
  rcases h.2 with ⟨rfl, _⟩ | ⟨b, o, c, hv, _, _, hc⟩
  · simp at hpos
  · cases hv; exact ⟨b, o, rfl, note_cells' hc⟩

/-- What written answers. -/
def WrittenP (ns : List Nt) (w : World) (e : Ending) (w' : World) : Prop :=
  (if ns.all goodB then e = .returned (.tuple #[.string (str (encL ns)), .bool true]) else e = .returned (.tuple #[.string (str []), .bool false])) ∧ Below w.heap.size w w'

def WrittenRel (w : World) (ns : List Nt) (sv iv : Value) (wr : World) : Prop :=
  ∃ k : Nat, iv = .int .i64 k ∧ k ≤ ns.length ∧ (∀ n ∈ ns.take k, goodB n = true) ∧ sv = .string (str (encL (ns.take k))) ∧ Below w.heap.size w wr

set_option maxHeartbeats 1000000 in
theorem written_any (v : Value) (ns : List Nt) (w : World) (hv : Ns w v ns) (hL : ns.length ≤ 2 ^ 16) :
    Calls Try.prog 33 #[v] w fun e w' => WrittenP ns w e w' := by
  obtain ⟨p, c, rfl, hn, hcm⟩ := hv.slice
  unfold maxLen at hcm
  have HV := Lib.hid hv
  clear hv
  go_enter Try.func33, Try.ntmps33
  go_wp2_with fail
  go_loopw [4, 8] (fun sv iv wr => WrittenRel w ns sv iv wr) (fun _ iv _ => ns.length - (intOf iv).toNat)
  case atStart => exact ⟨0, rfl, Nat.zero_le _, fun _ h => by simp at h, rfl, Below.refl _ _⟩
  case round =>
    obtain ⟨k, rfl, hk, hgd, rfl, hb⟩ := hrel
    by_cases hlt : k < ns.length
    · obtain ⟨b, off, rfl, hcs⟩ := Ns.cellsAt HV.out (by omega)
      obtain ⟨n, hnk⟩ : ∃ n, ns[k]? = some n := ⟨ns[k], List.getElem?_eq_getElem hlt⟩
      obtain ⟨q0, q1, q2, q3⟩ := hcs k n hnk
      have lb := lt_of_cell q0
      have hbw := hb.size
      obtain ⟨hbc, _⟩ := bcell hb
      have d0 := (hbc _ _ lb).trans q0
      have d1 := (hbc _ _ lb).trans q1
      have d2 := (hbc _ _ lb).trans q2
      have d3 := (hbc _ _ lb).trans q3
      have hel := encL_len _ hgd
      rw [List.length_take, Nat.min_eq_left hk] at hel
      have HG := Lib.hid (fun w => rgood_any n w)
      unfold Nt.val at HG
      have HT : Hid (ns.take (k + 1) = ns.take k ++ [n]) := by unfold Hid; rw [List.take_add_one, hnk]; rfl
      have HM : Hid (n ∈ ns) := List.mem_of_getElem? hnk
      have HB := Lib.hid hb
      have HGD := Lib.hid hgd
      clear hbc hcs hnk hb hgd q0 q1 q2 q3
      go_wp2_with fail
      refine (HG.out _).mono ?_
      rintro e w1 ⟨rfl, hb1⟩
      obtain ⟨hbc1, _⟩ := bcell hb1
      have e0 := (hbc1 _ _ (by omega)).trans d0
      have e1 := (hbc1 _ _ (by omega)).trans d1
      have e2 := (hbc1 _ _ (by omega)).trans d2
      have e3 := (hbc1 _ _ (by omega)).trans d3
      have hs1 := hb1.size
      have HB1 := Lib.hid (HB.out.trans (hb1.mono hbw))
      clear hbc1 hb1 d0 d1 d2 d3 HG HB
      cases hg : goodB n
      · have HW : Hid (ns.all goodB = false) := by
          unfold Hid
          rw [Bool.eq_false_iff]
          intro h
          have := List.all_eq_true.1 h n HM.out
          rw [hg] at this; cases this
        clear hg
        go_wp2
        go_ret2
        unfold WrittenP
        rw [HW.out]
        exact ⟨rfl, HB1.out⟩
      · have HY := Lib.hid (fun w => rbytes_any n hg w)
        unfold Nt.val at HY
        have hl := (encB_len hg).1
        have HGn := Lib.hid hg
        clear hg
        go_wp2_with fail
        refine (HY.out _).mono ?_
        rintro e w2 ⟨cv, rfl, hoc, hb2, -⟩
        obtain ⟨p2, c2, rfl⟩ := own_slice2 hoc
        have hS1 : (convert 57 9 (.slice p2 (encB n).length c2)).run Try.prog w2 = .ok (.string (str (encB n))) w2 := run_str _ _ _ _ Try.underlying57 Try.underlying5 Try.underlying9 _ _ hoc.rd
        have HB2 := Lib.hid (HB1.out.trans (hb2.mono (by omega)))
        have HR : Hid (WrittenRel w ns (.string (str (encL (ns.take k)) ++ str (encB n))) (.int .i64 ((k + 1 : Nat) : Int)) w2) := by
          refine ⟨k + 1, rfl, hlt, ?_, ?_, HB2.out⟩
          · rw [HT.out]; intro m hm
            rcases List.mem_append.1 hm with h | h
            · exact HGD.out m h
            · rw [List.mem_singleton.1 h]; exact HGn.out
          · rw [HT.out, encL_append, str_app]; simp [encL]
        have hz1 : (str (encL (ns.take k))).size ≤ 2 ^ 22 := by rw [str_size]; omega
        have hz2 : (str (encB n)).size ≤ 19 := by rw [str_size]; omega
        generalize str (encB n) = s2 at *
        generalize str (encL (ns.take k)) = s1 at *
        generalize (encB n).length = cl at *
        clear hoc hb2 HY HGD HT HB1
        go_wp2
        exact ⟨HR.out, by simp [intOf]; omega⟩
    · obtain rfl : k = ns.length := by omega
      have HW : Hid (ns.all goodB = true) := by
        unfold Hid; rw [List.all_eq_true]; rw [List.take_length] at hgd; exact hgd
      have HB := Lib.hid hb
      have he : Hid (encL (ns.take ns.length) = encL ns) := by unfold Hid; rw [List.take_length]
      clear hgd hb
      rw [he.out]
      go_wp2
      go_ret2
      unfold WrittenP
      rw [HW.out]
      exact ⟨rfl, HB.out⟩
end Go.Proofs.Ytdclgmffgidcmaa
