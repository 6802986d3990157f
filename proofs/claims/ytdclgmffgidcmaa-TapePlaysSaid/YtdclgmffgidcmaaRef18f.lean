/- The reference's notes: Read. -/
import Derived.Test.YtdclgmffgidcmaaRef18e
import Derived.Test.YtdclgmffgidcmaaReadWalk
namespace Go.Proofs.Ytdclgmffgidcmaa
set_option linter.unusedSimpArgs false
set_option linter.unusedVariables false
open Go.RowKit

theorem rread_any (v : Value) (L : List UInt8) (w : World) (hv : Rd w 1 L.length v (L.map bv)) (hL : L.length ≤ 2 ^ 20) :
    Calls Try.prog 39 #[v] w fun e w' => ∃ v', e = .returned (.tuple #[v', .int .i64 ((readL L).2 : Int)]) ∧ Own w' 37 4 (readL L).1.length v' (cellsL (readL L).1) ∧ Below w.heap.size w w' ∧ ∀ b, v'.ownBlock = some b → w.heap.size ≤ b := by
  have HV := Lib.hid hv
  obtain ⟨_, _, hv⟩ := hv
  rcases hv with ⟨rfl, h0⟩ | ⟨b, off, cap, rfl, hle, hcm, hc⟩
  · obtain rfl : L = [] := List.eq_nil_of_length_eq_zero h0
    have HD : Hid (firstN [] = (⟨0, 0, 0, 0⟩, 0)) := first_short (.inl (by simp))
    have HE : Hid (readL [] = ([], 0)) := readL_no (ok_no (.inl (by simp)))
    have hd := Lib.hid (rfirst_any (.slice none 0 0) [] w HV.out)
    unfold FirstP at hd
    rw [HD.out] at hd
    clear HV HD
    go_enter Try.func39, Try.ntmps39
    go_wp2
    go_loopw [4, 5] (fun v at_ wr => NilRel w v at_ wr) (fun _ _ _ => 0)
    case atStart => exact ⟨rfl, rfl, rfl⟩
    case round =>
      obtain ⟨rfl, rfl, rfl⟩ := hrel
      go_wp2_with fail
      refine hd.out.mono ?_
      rintro e w1 ⟨rfl, hb1⟩
      have HB := Lib.hid (hb1.alloc hb1.size (.cells #[.int .i64 0, .int .i64 0, .int .i64 0, .int .i64 0] 37))
      clear hb1
      go_wp2
      go_ret2
      refine ⟨_, ret_val (by rw [HE.out]; rfl), ?_, HB.out, fun b h => by cases h⟩
      rw [HE.out]; exact Own.nil _ _ _
  · clear hc
    unfold maxLen at hcm
    go_enter Try.func39, Try.ntmps39
    go_wp2
    go_loopw [4, 5] (fun v at_ wr => ReadRel w L v at_ wr) (fun _ at_ _ => L.length - (intOf at_).toNat)
    case atStart => exact ⟨[], 0, rfl, Nat.zero_le _, Own.nil _ _ _, Nat.le_refl _, by simp, Below.refl _ _, fun b h => by cases h⟩
    case round =>
      obtain ⟨ns, k, rfl, hk, ho, hlen, heq, hb, hap⟩ := hrel
      have HQ := Lib.hid heq
      clear heq
      have hsv : (cap = k ∧ Hid (Rd wr 1 (L.drop k).length (.slice (some ⟨b, off, none⟩) (L.length - k) 0) ((L.drop k).map bv))) ∨ (¬ cap = k ∧ Hid (Rd wr 1 (L.drop k).length (.slice (some ⟨b, off + k, none⟩) (L.length - k) (cap - k)) ((L.drop k).map bv))) := by
        have hd := (HV.out.below hb).drop k hk
        rw [Nat.mul_one, ← List.map_drop] at hd
        rw [List.length_drop]
        by_cases hck : cap = k
        · have h := hd _ (fun h => absurd hck h) (fun _ => rfl)
          rw [hck, Nat.sub_self] at h
          exact .inl ⟨hck, h⟩
        · exact .inr ⟨hck, hd _ (fun _ => rfl) (fun h => absurd h hck)⟩
      have hbs := hb.size
      cases hok : okB (L.drop k)
      · have HD : Hid (firstN (L.drop k) = (⟨0, 0, 0, 0⟩, 0)) := by unfold Hid firstN; rw [hok]; rfl
        have HE : Hid (readL L = (ns, k)) := by unfold Hid; rw [HQ.out, readL_no hok]; simp
        clear hok HQ
        rcases hsv with ⟨hck, hr⟩ | ⟨hck, hr⟩
        all_goals
          go_wp2_with fail
          refine (rfirst_any _ (L.drop k) _ hr.out).mono ?_
          rintro e w1 ⟨he, hb1⟩
          rw [HD.out] at he
          dsimp only at he
          subst he
          have ho1 := (ho.below hb1).alloc (.cells #[.int .i64 0, .int .i64 0, .int .i64 0, .int .i64 0] 37)
          have hb2 := (hb.trans (hb1.mono hbs)).alloc (by have := hb1.size; omega) (.cells #[.int .i64 0, .int .i64 0, .int .i64 0, .int .i64 0] 37)
          have HO := Lib.hid ho1
          have HB := Lib.hid hb2
          clear ho1 hb2 ho hb hb1
          go_wp2
          go_ret2
          refine ⟨_, ret_val (by rw [HE.out]; rfl), ?_, HB.out, hap⟩
          rw [HE.out]; exact HO.out
      · have hl := okB_len hok
        have hld : (L.drop k).length = L.length - k := List.length_drop
        have HD : Hid (firstN (L.drop k) = (rdNote (L.drop k), (encB (rdNote (L.drop k))).length)) := by unfold Hid firstN; rw [hok]; rfl
        have HE : Hid (readL L = ((ns ++ [rdNote (L.drop k)]) ++ (readL (L.drop (k + (encB (rdNote (L.drop k))).length))).1, (k + (encB (rdNote (L.drop k))).length) + (readL (L.drop (k + (encB (rdNote (L.drop k))).length))).2)) := by
          unfold Hid; rw [HQ.out, readL_yes hok, List.drop_drop, List.append_assoc, Nat.add_assoc]; rfl
        clear hok HQ
        generalize (encB (rdNote (L.drop k))).length = kk at *
        generalize rdNote (L.drop k) = nt at *
        obtain ⟨hl1, _, hl3, _, _⟩ := hl
        have hlk : k + kk ≤ L.length := by omega
        have hkz : ((kk : Int) == 0) = false := by rw [beq_eq_false_iff_ne]; omega
        clear hl3 hld
        rcases hsv with ⟨hck, hr⟩ | ⟨hck, hr⟩
        · omega
        · go_wp2_with fail
          refine (rfirst_any _ (L.drop k) _ hr.out).mono ?_
          rintro e w1 ⟨he, hb1⟩
          rw [HD.out] at he
          dsimp only at he
          subst he
          have HO := Lib.hid (ho.below hb1)
          have HB := Lib.hid (hb.trans (hb1.mono hbs))
          have hs1 := hb1.size
          clear ho hb hb1 hr
          go_wp2_with (at_builtin; refine wpList_app _ rfl _ _ 29 29 37 rfl _ 4 32 Try.underlying29 Try.info_note rfl _ rfl _ _ ((HO.out.alloc _).alloc _) _ rfl 1 [_, _, _, _] (src_note (by simp) Try.underlying29 rfl rfl rfl rfl) ?_ ?_ ?_)
          any_goals first | (unfold maxLen; omega) | omega
          · intro v3 w3 ho3 hg3
            have ho4 : Own w3 37 4 (ns ++ [nt]).length v3 (cellsL (ns ++ [nt])) := by
              rw [cellsL_append, List.length_append]; exact ho3
            have hb4 := hg3.below (w := w) ((HB.out.alloc (by omega) _).alloc (by simp; omega) _) hap
            have ha4 := hg3.from (B := w.heap.size) (by simp; omega) hap
            have HR : Hid (ReadRel w L v3 (.int .i64 ((k + kk : Nat) : Int)) w3) := ⟨ns ++ [nt], k + kk, rfl, hlk, ho4, by rw [List.length_append]; simp; omega, HE.out, hb4, ha4⟩
            clear ho3 hg3 ho4 hb4 ha4 HE HO HB HD hap
            go_wp2
            go_roundw
            case rel => exact HR.out
            case measure => simp [intOf]; omega
end Go.Proofs.Ytdclgmffgidcmaa
