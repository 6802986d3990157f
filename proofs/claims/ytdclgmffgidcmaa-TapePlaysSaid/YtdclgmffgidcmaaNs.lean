/- A slice value that reads as notes, whatever its address where it is empty. -/
import Derived.Test.YtdclgmffgidcmaaReadPure
import Derived.Deep.AppendSrc
namespace Go.Proofs.Ytdclgmffgidcmaa
set_option linter.unusedSimpArgs false
set_option linter.unusedVariables false
open Go.RowKit

/-- The slice value v reads as the notes ns. -/
def Ns (w : World) (v : Value) (ns : List Nt) : Prop :=
  ns.length ≤ maxLen ∧ ((ns = [] ∧ ∃ p c, v = .slice p 0 c ∧ c ≤ maxLen) ∨
    ∃ b off cap, v = .slice (some ⟨b, off, none⟩) ns.length cap ∧ ns.length ≤ cap ∧ cap ≤ maxLen ∧ ∀ j, j < ns.length * 4 → w.cell? ⟨b, off + j, none⟩ = (cellsL ns)[j]?)

theorem Rd.ns {w : World} {v : Value} {ns : List Nt} (h : Rd w 4 ns.length v (cellsL ns)) : Ns w v ns := by
  obtain ⟨_, hm, hv⟩ := h
  rcases hv with ⟨rfl, h0⟩ | ⟨b, off, cap, rfl, h1, h2, h3⟩
  · exact ⟨hm, .inl ⟨List.eq_nil_of_length_eq_zero h0, none, 0, rfl, by unfold maxLen; omega⟩⟩
  · exact ⟨hm, .inr ⟨b, off, cap, rfl, h1, h2, h3⟩⟩

theorem Ns.slice {w : World} {v : Value} {ns : List Nt} (h : Ns w v ns) : ∃ p c, v = .slice p ns.length c ∧ ns.length ≤ c ∧ c ≤ maxLen := by
  obtain ⟨hm, hv⟩ := h
  rcases hv with ⟨rfl, p, c, rfl, hc⟩ | ⟨b, off, cap, rfl, h1, h2, h3⟩
  · exact ⟨p, c, rfl, Nat.zero_le _, hc⟩
  · exact ⟨_, cap, rfl, h1, h2⟩

theorem Ns.keep {w w' : World} {v : Value} {ns : List Nt} (h : Ns w v ns) (hk : ∀ b, v.ownBlock = some b → b < w.heap.size → w'.heap[b]? = w.heap[b]?) : Ns w' v ns := by
  obtain ⟨hm, hv⟩ := h
  refine ⟨hm, hv.imp id ?_⟩
  rintro ⟨b, off, cap, rfl, h1, h2, hc⟩
  refine ⟨b, off, cap, rfl, h1, h2, fun j hj => ?_⟩
  have hx : j < (cellsL ns).length := by rw [cellsL_len]; exact hj
  have h1 := hc j hj
  rw [List.getElem?_eq_getElem hx] at h1
  rw [List.getElem?_eq_getElem hx, ← h1]
  exact World.cell?_of_block (a := ⟨b, off + j, none⟩) (hk b rfl (lt_of_cell h1))

theorem Ns.below {w w' : World} {v : Value} {ns : List Nt} (h : Ns w v ns) (hb : Below w.heap.size w w') : Ns w' v ns := h.keep fun b _ hl => hb.block b hl
theorem Ns.kept {S : Nat → Prop} {w w' : World} {v : Value} {ns : List Nt} (h : Ns w v ns) (hb : Keep S w w') (hs : ∀ b, v.ownBlock = some b → b < w.heap.size → ¬ S b) : Ns w' v ns :=
  h.keep fun b hv hl => hb.block b hl (hs b hv hl)

theorem cellsL_take (ns : List Nt) (m : Nat) : ∀ j, j < m * 4 → (cellsL (ns.take m))[j]? = (cellsL ns)[j]? := by
  intro j hj
  have h : cellsL ns = cellsL (ns.take m) ++ cellsL (ns.drop m) := by rw [← cellsL_append, List.take_append_drop]
  rcases Nat.lt_or_ge m ns.length with hl | hl
  · rw [h, List.getElem?_append_left (by rw [cellsL_len, List.length_take]; omega)]
  · rw [List.take_of_length_le hl]

/-- The first m of them. -/
theorem Ns.take {w : World} {p : Option Addr} {n c : Nat} {ns : List Nt} (h : Ns w (.slice p n c) ns) (m : Nat) (hm : m ≤ ns.length) : Ns w (.slice p m c) (ns.take m) := by
  obtain ⟨hx, hv⟩ := h
  refine ⟨by rw [List.length_take]; omega, ?_⟩
  rcases hv with ⟨rfl, p, c, hv, hc⟩ | ⟨b, off, cap, hv, h1, h2, hc⟩
  · cases hv
    obtain rfl : m = 0 := by simpa using hm
    exact .inl ⟨rfl, _, _, rfl, hc⟩
  · cases hv
    have hl : (ns.take m).length = m := by rw [List.length_take]; omega
    refine .inr ⟨b, off, c, by rw [hl], by omega, h2, fun j hj => ?_⟩
    rw [hl] at hj
    rw [cellsL_take ns m j hj]
    exact hc j (by omega)

/-- As what is appended. -/
theorem src_ns {P : Program} {w : World} {tx e' : TypeId} {x : Value} {ns : List Nt} (hk : P.underlying tx = some (.slice e')) (h : Ns w x ns) : Src P 4 tx x ns.length (cellsL ns) w := by
  obtain ⟨hx, hv⟩ := h
  rcases hv with ⟨rfl, p, c, rfl, hc⟩ | ⟨b, off, cap, rfl, hle, hcm, hc⟩
  · cases p with
    | none => exact Src.ofNil w hk c
    | some a => exact Src.ofSlice w hk _ _ _ _ rfl (fun j u hu => by simp [cellsL] at hu) (by simp [cellsL])
  · refine Src.ofSlice w hk _ _ _ _ (cellsL_len ns) (fun j u hu => ?_) (cellsL_one ns)
    rw [Addr.add_lit, ← hu]
    have hj := (List.getElem?_eq_some_iff.1 hu).1
    rw [cellsL_len] at hj
    exact hc j hj
end Go.Proofs.Ytdclgmffgidcmaa
