/- A region whose order is open, walked in one order: what only reads is taken first, under facts that hold until the last operation, N, for which all others are waited. -/
import Derived.Test.YtdclgmffgidcmaaBase
import Derived.OrdersHeld
import Derived.RegionTactic
namespace Go.Proofs.Ytdclgmffgidcmaa
set_option linter.unusedSimpArgs false
set_option linter.unusedVariables false
open Go.RowKit

/-- Does the operation N wait for the operation i itself? -/
def waitsFor (md : Region.Mode) (ops : Array Oper) (N i : Nat) : Bool :=
  match ops[N]? with
  | some o => o.after.any fun e => Region.binds md e && e.on == i
  | none => false

section
variable {P : Program} {md : Region.Mode} {ops : Array Oper} {Q : Exit → Act → World → Prop} {S : World → Prop} {N : Nat}

/-- Whatever order is picked; behind each operation the facts S hold, as long as N has not come up. -/
def wpTill (P : Program) (md : Region.Mode) (ops : Array Oper) (Q : Exit → Act → World → Prop) (S : World → Prop) (N : Nat) : Nat → Array Bool → Act → World → Prop
  | 0, done, a, w => Region.ready md ops done = [] ∧ Q .normal a w
  | n + 1, done, a, w => (Region.ready md ops done = [] → Q .normal a w) ∧
      ∀ i ∈ Region.ready md ops done, wpOp P ops Q i (fun a' w' => ((done.setIfInBounds i true).getD N true = false → S w') ∧ wpTill P md ops Q S N n (done.setIfInBounds i true) a' w') a w

theorem wpTill_any : ∀ (n : Nat) (done : Array Bool) (a : Act) (w : World), wpTill P md ops Q S N n done a w → wpAny P md ops Q n done a w := by
  intro n
  induction n with
  | zero => intro done a w h; exact h
  | succ n ih => intro done a w h; exact ⟨h.1, fun i hi => wpOp_mono (fun a' w' h' => ih _ a' w' h'.2) (h.2 i hi)⟩

theorem ready_waits {i : Nat} {done : Array Bool} {oj : Oper} (hr : i ∈ Region.ready md ops done) (hall : ∀ e ∈ oj.after, Region.binds md e = true → done.getD e.on false = true) :
    ∀ e ∈ oj.after, Region.binds md e = true → e.on ≠ i := by
  intro e he hb heq
  have h1 := hall e he hb
  have h0 := (mem_ready.1 hr).1
  rw [heq] at h1
  rcases Nat.lt_or_ge i done.size with h' | h'
  · simp [h'] at h0 h1; rw [h0] at h1; cases h1
  · simp [Array.getElem?_eq_none h'] at h1

/-- The one proof of both: T is what the operation needs of the world: all of S (then N waits for it), or nothing. -/
theorem wpTill_first {i : Nat} {oi : Oper} {v : Value} {T : World → Prop} (hT : (∀ w, T w) ∨ (T = S ∧ waitsFor md ops N i = true)) (hi : ops[i]? = some oi) (hsel : ∀ (j : Nat) (o : Oper) cs b, ops[j]? = some o → o.op ≠ .select cs b)
    (hQ : ∀ c a w, Q (.panic c) (a.put oi.dst v) w → Q (.panic c) a w) (hiN : i ≠ N) : ∀ (n : Nat) (done : Array Bool) (a : Act) (w : World),
      (∀ j oj, ops[j]? = some oj → j ≠ i → done.getD j true = false → (∀ e ∈ oj.after, Region.binds md e = true → e.on ≠ i) → oi.apart ops oj = true) →
      i ∈ Region.ready md ops done → YieldsIf P ops T oi v a → (done.getD N true = false → S w) → T w → ((∀ w, T w) ∨ done.getD N true = false) → wpTill P md ops Q S N n (done.setIfInBounds i true) (a.put oi.dst v) w → wpTill P md ops Q S N (n + 1) done a w := by
  intro n
  induction n with
  | zero =>
    intro done a w _ hr hy hS hTw _ H
    refine ⟨fun h => (by rw [h] at hr; cases hr), fun j hj => ?_⟩
    by_cases hji : j = i
    · subst hji; exact hy.wpOp hi hTw ⟨fun h => hS (by rwa [getD_set_ne true hiN] at h), H⟩
    · have h := ready_mono hj hji
      rw [H.1] at h; cases h
  | succ n ih =>
    intro done a w hfree hr hy hS hTw hd H
    refine ⟨fun h => (by rw [h] at hr; cases hr), fun j hj => ?_⟩
    by_cases hji : j = i
    · subst hji; exact hy.wpOp hi hTw ⟨fun h => hS (by rwa [getD_set_ne true hiN] at h), H⟩
    obtain ⟨hjun, oj, hoj, hall⟩ := mem_ready.1 hj
    have hnot := ready_waits hr hall
    have hir : i ∈ Region.ready md ops (done.setIfInBounds j true) := ready_mono hr (Ne.symm hji)
    have h2 := wpOp_putIf hoj (hfree j oj hoj hji hjun hnot) (fun cs b => hsel i oi cs b hi) (fun cs b => hsel j oj cs b hoj) hQ hy (H.2 j (ready_mono hj hji))
    have hS2 : ∀ w', (((done.setIfInBounds i true).setIfInBounds j true).getD N true = false → S w') → ((done.setIfInBounds j true).getD N true = false → S w') := by
      intro w' h hN
      rw [Array.setIfInBounds_comm _ _ (Ne.symm hji), getD_set_ne true hiN] at h
      exact h hN
    have hTS : (∀ w, T w) ∨ (T = S ∧ (done.setIfInBounds j true).getD N true = false) := by
      rcases hT with h | ⟨h, hN⟩
      · exact .inl h
      · rcases hd with hd | hd
        · exact .inl hd
        · refine .inr ⟨h, ?_⟩
          have hjN : j ≠ N := by
            rintro rfl
            unfold waitsFor at hN
            rw [hoj] at hN
            obtain ⟨e, he, hb⟩ := Array.any_eq_true'.1 hN
            simp only [Bool.and_eq_true, beq_iff_eq] at hb
            exact hnot e he hb.1 hb.2
          rw [getD_set_ne true hjN]; exact hd
    refine wpOp_mono (fun a' w' h3 => ?_) h2
    refine ⟨hS2 w' h3.2.1, ih (done.setIfInBounds j true) a' w' ?_ hir h3.1 (hS2 w' h3.2.1) ?_ ?_ ?_⟩
    · intro k ok hk hki hun hno
      refine hfree k ok hk hki ?_ hno
      by_cases hjk : j = k
      · subst hjk; exact hjun
      · rw [getD_set_ne true hjk] at hun; exact hun
    · rcases hTS with h | ⟨rfl, h⟩
      · exact h w'
      · exact hS2 w' h3.2.1 h
    · exact hTS.imp id And.right
    · rw [Array.setIfInBounds_comm _ _ hji]
      exact h3.2.2

/-- An operation that only reads is taken first. -/
theorem till_take (i : Nat) {oi : Oper} {v : Value} {n : Nat} {done : Array Bool} {a : Act} {w : World} (hi : ops[i]? = some oi) (hs : Region.noSelect ops = true) (hf : Region.free md ops done i = true)
    (hr : (Region.ready md ops done).contains i = true) (hN : waitsFor md ops N i = true) (hiN : (i == N) = false) (hdN : done.getD N true = false) (hQ : ∀ c a w, Q (.panic c) (a.put oi.dst v) w → Q (.panic c) a w) (hy : YieldsIf P ops S oi v a) (hS : S w)
    (h : wpTill P md ops Q S N n (done.setIfInBounds i true) (a.put oi.dst v) w) : wpTill P md ops Q S N (n + 1) done a w :=
  wpTill_first (T := S) (.inr ⟨rfl, hN⟩) hi (Region.noSelect_spec hs) hQ (by simpa using hiN) n done a w (Region.free_spec hi hf) (by simpa using hr) hy (fun _ => hS) hS (.inr hdN) h

/-- An operation that yields in whatever world is taken first. -/
theorem till_pure (i : Nat) {oi : Oper} {v : Value} {n : Nat} {done : Array Bool} {a : Act} {w : World} (hi : ops[i]? = some oi) (hs : Region.noSelect ops = true) (hf : Region.free md ops done i = true)
    (hr : (Region.ready md ops done).contains i = true) (hiN : (i == N) = false) (hQ : ∀ c a w, Q (.panic c) (a.put oi.dst v) w → Q (.panic c) a w) (hy : YieldsIf P ops (fun _ => True) oi v a) (hS : S w)
    (h : wpTill P md ops Q S N n (done.setIfInBounds i true) (a.put oi.dst v) w) : wpTill P md ops Q S N (n + 1) done a w :=
  wpTill_first (T := fun _ => True) (.inl fun _ => trivial) hi (Region.noSelect_spec hs) hQ (by simpa using hiN) n done a w (Region.free_spec hi hf) (by simpa using hr) hy (fun _ => hS) trivial (.inl fun _ => trivial) h

/-- The one operation that may come up. -/
theorem till_step (i : Nat) {o : Oper} {n : Nat} {done : Array Bool} {a : Act} {w : World} (hr : Region.ready md ops done = [i]) (ho : ops[i]? = some o)
    (h : ∀ K : Act → World → Prop, Hid (∀ a' w', ((done.setIfInBounds i true).getD N true = false → S w') → wpTill P md ops Q S N n (done.setIfInBounds i true) a' w' → K a' w') → if Region.wanted o (yielded ops a.tmps) = true then Oper.wp P o a w K Q else K (a.put o.dst undef) w) :
    wpTill P md ops Q S N (n + 1) done a w := by
  refine ⟨fun h0 => (by rw [hr] at h0; cases h0), fun j hj => ?_⟩
  rw [hr, List.mem_singleton] at hj
  subst hj
  exact wpOp_step ho fun K hK => h K fun a' w' hS hW => hK a' w' ⟨hS, hW⟩

theorem till_done {done : Array Bool} {a : Act} {w : World} (hr : Region.ready md ops done = []) (h : Q .normal a w) : ∀ n, wpTill P md ops Q S N n done a w
  | 0 => ⟨hr, h⟩
  | _ + 1 => ⟨fun _ => h, by rw [hr]; simp⟩

theorem till_start (S : World → Prop) (N : Nat) {id : Nat} {a : Act} {w : World} (hm : P.follows .mixedOrders = true) (h : wpTill P .any ops Q S N ops.size (Array.replicate ops.size false) a w.drew) : (Code.region id ops true).wp P Q a w :=
  wp_region_any hm (wpTill_any _ _ _ _ h)
end
end Go.Proofs.Ytdclgmffgidcmaa
