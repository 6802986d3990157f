/- Arguments that are notes, opened. -/
import Derived.Test.YtdclgmffgidcmaaPostRead
import Derived.Test.YtdclgmffgidcmaaWriteWalk
namespace Go.Proofs.Ytdclgmffgidcmaa
set_option linter.unusedSimpArgs false
set_option linter.unusedVariables false
open Go.RowKit Go.ChangeShapes Go.WideShapes Go.ChangeAt Go.Deep

def numAt (w : World) (b o : Nat) : Int := match w.cell? ⟨b, o, none⟩ with
  | some (.int _ n) => n
  | _ => 0

theorem ns_of_cells {w : World} {b off len cap : Nat} (hl : len ≤ cap) (hm : cap ≤ maxLen) (h : ∀ j, j < len * 4 → ∃ n : Int, w.cell? ⟨b, off + j, none⟩ = some (.int .i64 n)) :
    ∃ ns : List Nt, ns.length = len ∧ Ns w (.slice (some ⟨b, off, none⟩) len cap) ns := by
  let ns : List Nt := (List.range len).map fun i => ⟨numAt w b (off + (i * 4 + 0)), numAt w b (off + (i * 4 + 1)), numAt w b (off + (i * 4 + 2)), numAt w b (off + (i * 4 + 3))⟩
  have hlen : ns.length = len := by simp [ns]
  refine ⟨ns, hlen, by omega, .inr ⟨b, off, cap, by rw [hlen], by omega, hm, fun j hj => ?_⟩⟩
  rw [hlen] at hj
  obtain ⟨i, r, hi, hr, rfl⟩ : ∃ i r, i < len ∧ r < 4 ∧ j = i * 4 + r := ⟨j / 4, j % 4, by omega, by omega, by omega⟩
  rw [cellsL_at ns i r (by omega) hr]
  have hv : w.cell? ⟨b, off + (i * 4 + r), none⟩ = some (.int .i64 (numAt w b (off + (i * 4 + r)))) := by
    obtain ⟨n, hn⟩ := h (i * 4 + r) (by omega)
    unfold numAt; rw [hn]
  rw [hv]
  have hg : ns[i]'(by omega) = ⟨numAt w b (off + (i * 4 + 0)), numAt w b (off + (i * 4 + 1)), numAt w b (off + (i * 4 + 2)), numAt w b (off + (i * 4 + 3))⟩ := by simp [ns]
  rw [hg]
  match r, hr with
  | 0, _ => rfl
  | 1, _ => rfl
  | 2, _ => rfl
  | 3, _ => rfl

theorem trod_notes {H : Type} {enc : TypeId × Value → H} {w : World} {base : Nat} {spare : Nat → Bool} {held : Bool} {fuel : Nat} {cs : List Value} {x : DataW H × List MemPlace}
    (h : DataW.trod enc Try.prog w base spare held fuel 29 cs = some x) : ∃ v ns, cs = [v] ∧ Ns w v ns := by
  rcases open_slice_fields (P := Try.prog) (e := 37) (fs := Try.prog.fieldsOf 37) Try.underlying29 (by kernel_rfl) (by kernel_rfl) (by kernel_rfl) h with rfl | ⟨a, len, cap, m, rfl, _, hl, hm, hlm, hf⟩
  · exact ⟨_, [], rfl, ⟨by simp [maxLen], .inl ⟨rfl, none, 0, rfl, by unfold maxLen; omega⟩⟩⟩
  · rcases Nat.eq_zero_or_pos len with rfl | hpos
    · exact ⟨_, [], rfl, ⟨by simp [maxLen], .inl ⟨rfl, some a, cap, rfl, hm⟩⟩⟩
    · have hsz : (Try.prog.fieldsOf 37).size = 4 := by kernel_rfl
      have ht : ∀ j, j < 4 → ∃ f, (Try.prog.fieldsOf 37)[j]? = some f ∧ Try.prog.underlying f.type = some (.int .i64) := by
        have hF : Try.prog.fieldsOf 37 = #[⟨"Kind", 3, 0, false, "", "", 0⟩, ⟨"A", 3, 1, false, "", "", 8⟩, ⟨"B", 3, 2, false, "", "", 16⟩, ⟨"C", 3, 3, false, "", "", 24⟩] := by kernel_rfl
        rw [hF]
        intro j hj
        match j, hj with
        | 0, _ => exact ⟨_, rfl, Try.underlying3⟩
        | 1, _ => exact ⟨_, rfl, Try.underlying3⟩
        | 2, _ => exact ⟨_, rfl, Try.underlying3⟩
        | 3, _ => exact ⟨_, rfl, Try.underlying3⟩
      have hc : ∀ j, j < len * 4 → ∃ n : Int, w.cell? (a.add j) = some (.int .i64 n) := by
        intro j hj
        obtain ⟨f, hf1, hf2⟩ := ht (j % 4) (by omega)
        obtain ⟨v, y, n, hv, hy⟩ := hf (j / 4) (by omega) (j % 4) f hf1
        obtain ⟨z, hz, _⟩ := DataW.trod_int hf2 hy
        cases hz
        rw [hsz] at hv
        rw [show j / 4 * 4 + j % 4 = j by omega] at hv
        exact ⟨z, hv⟩
      obtain ⟨n0, h0⟩ := hc 0 (by omega)
      have hsp : a.spot = none := by have := World.cell?_spot h0; simpa [Addr.add] using this
      obtain ⟨b, off, sp⟩ := a
      dsimp only at hsp
      subst hsp
      obtain ⟨ns, h1, h2⟩ := ns_of_cells (w := w) (b := b) (off := off) hl hm (fun j hj => by have := hc j hj; rwa [Addr.add_lit] at this)
      exact ⟨_, ns, rfl, h2⟩

theorem open_notes {H : Type} {enc : TypeId × Value → H} {w : World} {base b0 : Nat} {spare : Nat → Bool} {held : Bool} {r : Reach} {v : Value} {d : DataW H} {ps : List MemPlace}
    (hval : Value.okWide Try.prog w r b0 29 v) (hd : DataW.Trod enc Try.prog w base spare held 29 v d ps) : ∃ ns, Ns w v ns := by
  obtain ⟨p, n, c, rfl⟩ := okWide_slice Try.underlying29 hval
  obtain ⟨fuel, hf⟩ := hd
  obtain ⟨v, ns, h1, h2⟩ := trod_notes hf
  simp [Value.cells] at h1
  subst h1
  exact ⟨ns, h2⟩
end Go.Proofs.Ytdclgmffgidcmaa
