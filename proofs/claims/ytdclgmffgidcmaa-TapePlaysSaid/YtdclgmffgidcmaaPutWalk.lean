/- The tape: what a unit of work does, with each of the functions that are handed over. -/
import Derived.Test.YtdclgmffgidcmaaUnitWalk
import Derived.Test.YtdclgmffgidcmaaTapePure
namespace Go.Proofs.Ytdclgmffgidcmaa
set_option linter.unusedSimpArgs false
set_option linter.unusedVariables false
open Go.RowKit

/-- A tape lies at the block b; all its blocks are F's. -/
structure TapeAt (w : World) (b : Nat) (F : Nat → Prop) (s : TS) : Prop where
  ex : ∃ v0 v1, w.heap[b]? = some (tapeObj v0 v1 (s.c : Int) s.armed s.budget s.dead) ∧ Own w 5 1 s.a0.length v0 (s.a0.map bv) ∧ Own w 5 1 s.a1.length v1 (s.a1.map bv) ∧
    (∀ k, v0.ownBlock = some k → F k ∧ k ≠ b) ∧ (∀ k, v1.ownBlock = some k → F k ∧ k ≠ b ∧ v0.ownBlock ≠ some k)
  me : F b
  lt : ∀ k, F k → k < w.heap.size

/-- The blocks behind a call that may make new ones. -/
def Wider (F : Nat → Prop) (w w' : World) : Nat → Prop := fun k => F k ∨ (w.heap.size ≤ k ∧ k < w'.heap.size)

theorem TapeAt.kept {w w' : World} {b : Nat} {F S : Nat → Prop} {s : TS} (h : TapeAt w b F s) (hk : Keep S w w') (hs : ∀ k, F k → ¬ S k) : TapeAt w' b F s := by
  obtain ⟨⟨v0, v1, hb, h0, h1, a0, a1⟩, hm, hl⟩ := h
  exact ⟨⟨v0, v1, (hk.block b (hl b hm) (hs b hm)).trans hb, h0.kept hk (fun k e _ => hs k (a0 k e).1), h1.kept hk (fun k e _ => hs k (a1 k e).1), a0, a1⟩, hm, fun k h => Nat.lt_of_lt_of_le (hl k h) hk.size⟩
theorem TapeAt.wider {w w' : World} {b : Nat} {F : Nat → Prop} {s : TS} (h : TapeAt w' b F s) (hk : w.heap.size ≤ w'.heap.size) : TapeAt w' b (Wider F w w') s := by
  obtain ⟨⟨v0, v1, hb, h0, h1, a0, a1⟩, hm, hl⟩ := h
  exact ⟨⟨v0, v1, hb, h0, h1, fun k e => ⟨.inl (a0 k e).1, (a0 k e).2⟩, fun k e => ⟨.inl (a1 k e).1, (a1 k e).2⟩⟩, .inl hm, fun k h => h.elim (hl k) And.right⟩
theorem TapeAt.mono {w : World} {b : Nat} {F G : Nat → Prop} {s : TS} (h : TapeAt w b F s) (hs : ∀ k, F k → G k) (hg : ∀ k, G k → k < w.heap.size) : TapeAt w b G s := by
  obtain ⟨⟨v0, v1, hb, h0, h1, a0, a1⟩, hm, hl⟩ := h
  exact ⟨⟨v0, v1, hb, h0, h1, fun k e => ⟨hs _ (a0 k e).1, (a0 k e).2⟩, fun k e => ⟨hs _ (a1 k e).1, (a1 k e).2⟩⟩, hs _ hm, hg⟩

/-- A store of a cell that is no area's. -/
theorem own_set {w : World} {e : TypeId} {sz n b : Nat} {v : Value} {xs : List Value} (h : Own w e sz n v xs) (hv : v.ownBlock ≠ some b) (j : Nat) (u : Value) : Own (w.setCell ⟨b, j, none⟩ u) e sz n v xs :=
  h.keep fun k hk _ => Below.heap_setCell _ _ _ _ (fun e => hv (by have e : k = b := e; rw [← e]; exact hk))

theorem TapeAt.dies {w : World} {b : Nat} {F : Nat → Prop} {s : TS} (h : TapeAt w b F s) : TapeAt (w.setCell ⟨b, 5, none⟩ (.bool true)) b F { s with dead := true } := by
  obtain ⟨⟨v0, v1, hb, h0, h1, a0, a1⟩, hm, hl⟩ := h
  exact ⟨⟨v0, v1, (tape_set hb).2.2.2.2.2 _, own_set h0 (fun e => (a0 _ e).2 rfl) _ _, own_set h1 (fun e => (a1 _ e).2.1 rfl) _ _, a0, a1⟩, hm, fun k h => by simpa using hl k h⟩
theorem TapeAt.pays {w : World} {b : Nat} {F : Nat → Prop} {s : TS} (h : TapeAt w b F s) (k : Int) : TapeAt (w.setCell ⟨b, 4, none⟩ (.int .i64 k)) b F { s with budget := k } := by
  obtain ⟨⟨v0, v1, hb, h0, h1, a0, a1⟩, hm, hl⟩ := h
  exact ⟨⟨v0, v1, (tape_set hb).2.2.2.2.1 _, own_set h0 (fun e => (a0 _ e).2 rfl) _ _, own_set h1 (fun e => (a1 _ e).2.1 rfl) _ _, a0, a1⟩, hm, fun k h => by simpa using hl k h⟩
theorem TapeAt.flips {w : World} {b : Nat} {F : Nat → Prop} {s : TS} (h : TapeAt w b F s) (k : Nat) : TapeAt (w.setCell ⟨b, 2, none⟩ (.int .i64 k)) b F { s with c := k } := by
  obtain ⟨⟨v0, v1, hb, h0, h1, a0, a1⟩, hm, hl⟩ := h
  exact ⟨⟨v0, v1, (tape_set hb).2.2.1 _, own_set h0 (fun e => (a0 _ e).2 rfl) _ _, own_set h1 (fun e => (a1 _ e).2.1 rfl) _ _, a0, a1⟩, hm, fun k h => by simpa using hl k h⟩

theorem keep_set {F : Nat → Prop} {b : Nat} (hm : F b) (w : World) (j : Nat) (u : Value) : Keep F w (w.setCell ⟨b, j, none⟩ u) := (Keep.refl F w).setCell (p := ⟨b, j, none⟩) (fun _ => hm) u

/-- A unit of work, by what the handed function does with the tape that has paid. -/
theorem unit_any (w : World) (b k : Nat) (F : Nat → Prop) (s : TS) (f : TS → TS) (caps : Array Value) (hT : TapeAt w b F s) (hcf : ∀ ar w, (callFunc k ar).run Try.prog w = .ok (.enter k ar) w)
    (hdo : ∀ w1, Keep F w w1 → w1.heap.size = w.heap.size → TapeAt w1 b F { s with budget := wrap64 (s.budget - 1) } → Calls Try.prog k caps w1 fun e w' => e = .returned (.tuple #[]) ∧ TapeAt w' b (Wider F w1 w') (f { s with budget := wrap64 (s.budget - 1) }) ∧ Keep F w1 w') :
    Calls Try.prog 37 #[.pointer (some ⟨b, 0, none⟩), .func (.func k) #[] caps] w fun e w' => e = .returned (.tuple #[]) ∧ TapeAt w' b (Wider F w w') (s.unit f) ∧ Keep F w w' := by
  have hT0 := hT
  obtain ⟨a0, a1, c, arm, bu, de⟩ := s
  obtain ⟨⟨v0, v1, hb, -⟩, hm, hl⟩ := hT
  dsimp only at hb
  cases de
  · by_cases hz : arm = false ∨ bu ≠ 0
    · have hu : TS.unit ⟨a0, a1, c, arm, bu, false⟩ f = f ⟨a0, a1, c, arm, wrap64 (bu - 1), false⟩ := by
        unfold TS.unit
        rcases hz with rfl | hz
        · simp
        · simp [hz]
      rw [hu]
      refine (unit_do w b k v0 v1 caps c arm bu hb hz hcf (R := fun w' => TapeAt w' b (Wider F w w') (f ⟨a0, a1, c, arm, wrap64 (bu - 1), false⟩) ∧ Keep F w w') ?_)
      have hkeep := keep_set hm w 4 (.int .i64 (wrap64 (bu - 1)))
      refine (hdo _ hkeep (by simp) (hT0.pays _)).mono ?_
      rintro e w' ⟨rfl, h1, h2⟩
      refine ⟨rfl, ?_, hkeep.trans h2 fun _ _ h => h⟩
      refine h1.mono (fun k hk => ?_) (fun k hk => ?_)
      · rcases hk with h | ⟨h, h'⟩
        · exact .inl h
        · exact .inr ⟨by simpa using h, h'⟩
      · rcases hk with h | ⟨h, h'⟩
        · exact h1.lt k (.inl h)
        · exact h'
    · obtain ⟨rfl, rfl⟩ : arm = true ∧ bu = 0 := by simpa using hz
      have hu : TS.unit ⟨a0, a1, c, true, 0, false⟩ f = ⟨a0, a1, c, true, 0, true⟩ := by simp [TS.unit]
      rw [hu]
      refine (unit_out w b v0 v1 _ c hb).mono ?_
      rintro e w' ⟨rfl, rfl⟩
      exact ⟨rfl, hT0.dies.wider (by simp), keep_set hm w 5 _⟩
  · have hu : TS.unit ⟨a0, a1, c, arm, bu, true⟩ f = ⟨a0, a1, c, arm, bu, true⟩ := by simp [TS.unit]
    rw [hu]
    refine (unit_dead w b v0 v1 _ c arm bu hb).mono ?_
    rintro e w' ⟨rfl, rfl⟩
    exact ⟨rfl, hT0.wider (Nat.le_refl _), Keep.refl _ _⟩


/-- One byte behind an area's. -/
theorem put_unit (w : World) (b B3 B4 B7 ar : Nat) (F : Nat → Prop) (s : TS) (x : UInt8) (hT : TapeAt w b F s) (har : ar = 0 ∨ ar = 1)
    (h3 : w.cell? ⟨B3, 0, none⟩ = some (.pointer (some ⟨b, 0, none⟩))) (h4 : w.cell? ⟨B4, 0, none⟩ = some (.int .i64 (ar : Int))) (h7 : w.cell? ⟨B7, 0, none⟩ = some (bv x))
    (f3 : ¬ F B3) (f4 : ¬ F B4) (f7 : ¬ F B7) (hl : (s.area ar).length ≤ 2 ^ 20) :
    Calls Try.prog 37 #[.pointer (some ⟨b, 0, none⟩), .func (.func 41) #[] #[.pointer (some ⟨B3, 0, none⟩), .pointer (some ⟨B4, 0, none⟩), .pointer (some ⟨B7, 0, none⟩)]] w
      fun e w' => e = .returned (.tuple #[]) ∧ TapeAt w' b (Wider F w w') (s.put1 ar x) ∧ Keep F w w' := by
  refine unit_any w b _ F s (fun s => s.set ar (s.area ar ++ [x])) _ hT (by intro ar w; rfl) ?_
  intro w1 hk hsz h1
  have c3 : w1.cell? ⟨B3, 0, none⟩ = some (.pointer (some ⟨b, 0, none⟩)) := (hk.cell (lt_of_cell h3) f3).trans h3
  have c4 : w1.cell? ⟨B4, 0, none⟩ = some (.int .i64 (ar : Int)) := (hk.cell (lt_of_cell h4) f4).trans h4
  have c7 : w1.cell? ⟨B7, 0, none⟩ = some (bv x) := (hk.cell (lt_of_cell h7) f7).trans h7
  obtain ⟨⟨v0, v1, hb, h0, h1, a0, a1⟩, hm, hlt⟩ := h1
  dsimp only at hb h0 h1
  have w0 : ∀ k v, (∀ j, v = some j → F j) → ¬ F k → v ≠ some k := fun k v h hn e => hn (h k e)
  rcases har with rfl | rfl
  · refine (putdo0 w1 B3 B4 B7 b v0 v1 s.c s.armed _ s.dead x s.a0 hb c3 c4 c7 h0 (by simpa [TS.area] using hl) (fun e => (a0 _ e).2 rfl) (w0 _ _ (fun j e => (a0 j e).1) f3) (w0 _ _ (fun j e => (a0 j e).1) f4) (w0 _ _ (fun j e => (a0 j e).1) f7)).mono ?_
    rintro e w' ⟨rfl, v', ho, hb', hk', hown⟩
    have hF : ∀ k, v'.ownBlock = some k → Wider F w1 w' k ∧ k ≠ b := by
      intro k e
      have hlt' := ho.lt k e
      rcases hown with q | ⟨g, q, hg⟩
      · rw [q] at e; exact ⟨.inl (a0 k e).1, (a0 k e).2⟩
      · rw [q] at e; cases e; exact ⟨.inr ⟨hg, hlt'⟩, fun e => absurd (hlt b hm) (by omega)⟩
    have hne : ∀ k, v1.ownBlock = some k → v'.ownBlock ≠ some k := by
      intro k e
      rcases hown with q | ⟨g, q, hg⟩
      · rw [q]; exact (a1 k e).2.2
      · rw [q]; intro q'; cases q'; exact absurd (hlt _ (a1 _ e).1) (by omega)
    refine ⟨rfl, ⟨⟨v', v1, by simpa [TS.set, TS.area] using hb', by simpa [TS.set, TS.area] using ho, ?_, hF, fun k e => ⟨.inl (a1 k e).1, (a1 k e).2.1, hne k e⟩⟩, .inl hm, ?_⟩, ?_⟩
    · simp only [TS.set, TS.area, if_true]
      exact h1.kept hk' (fun k e _ q => q.elim (a1 k e).2.1 (a1 k e).2.2)
    · exact fun k h => h.elim (fun h => Nat.lt_of_lt_of_le (hlt k h) hk'.size) And.right
    · exact hk'.mono fun k _ h => h.elim (fun h => h ▸ hm) (fun h => (a0 k h).1)
  · refine (putdo1 w1 B3 B4 B7 b v0 v1 s.c s.armed _ s.dead x s.a1 hb c3 c4 c7 h1 (by simpa [TS.area] using hl) (fun e => (a1 _ e).2.1 rfl) (w0 _ _ (fun j e => (a1 j e).1) f3) (w0 _ _ (fun j e => (a1 j e).1) f4) (w0 _ _ (fun j e => (a1 j e).1) f7)).mono ?_
    rintro e w' ⟨rfl, v', ho, hb', hk', hown⟩
    have hF : ∀ k, v'.ownBlock = some k → Wider F w1 w' k ∧ k ≠ b ∧ v0.ownBlock ≠ some k := by
      intro k e
      have hlt' := ho.lt k e
      rcases hown with q | ⟨g, q, hg⟩
      · rw [q] at e; exact ⟨.inl (a1 k e).1, (a1 k e).2⟩
      · rw [q] at e; cases e; exact ⟨.inr ⟨hg, hlt'⟩, fun e => absurd (hlt b hm) (by omega), fun e => absurd (hlt _ (a0 _ e).1) (by omega)⟩
    refine ⟨rfl, ⟨⟨v0, v', by simpa [TS.set, TS.area] using hb', ?_, by simpa [TS.set, TS.area] using ho, fun k e => ⟨.inl (a0 k e).1, (a0 k e).2⟩, hF⟩, .inl hm, ?_⟩, ?_⟩
    · simp only [TS.set, TS.area, if_neg Nat.one_ne_zero]
      exact h0.kept hk' (fun k e _ q => q.elim (a0 k e).2 (fun q => (a1 k q).2.2 e))
    · exact fun k h => h.elim (fun h => Nat.lt_of_lt_of_le (hlt k h) hk'.size) And.right
    · exact hk'.mono fun k _ h => h.elim (fun h => h ▸ hm) (fun h => (a1 k h).1)

/-- One area cut. -/
theorem cut_unit (w : World) (b B3 B4 B5 ar n : Nat) (F : Nat → Prop) (s : TS) (hT : TapeAt w b F s) (har : ar = 0 ∨ ar = 1)
    (h3 : w.cell? ⟨B3, 0, none⟩ = some (.pointer (some ⟨b, 0, none⟩))) (h4 : w.cell? ⟨B4, 0, none⟩ = some (.int .i64 (ar : Int))) (h5 : w.cell? ⟨B5, 0, none⟩ = some (.int .i64 (n : Int)))
    (f3 : ¬ F B3) (f4 : ¬ F B4) (f5 : ¬ F B5) (hn : n < (s.area ar).length) :
    Calls Try.prog 37 #[.pointer (some ⟨b, 0, none⟩), .func (.func 43) #[] #[.pointer (some ⟨B3, 0, none⟩), .pointer (some ⟨B4, 0, none⟩), .pointer (some ⟨B5, 0, none⟩)]] w
      fun e w' => e = .returned (.tuple #[]) ∧ TapeAt w' b (Wider F w w') (s.cut ar n) ∧ Keep F w w' := by
  have hcut : s.cut ar n = s.unit fun s => s.set ar ((s.area ar).take n) := by simp [TS.cut, hn]
  rw [hcut]
  refine unit_any w b _ F s (fun s => s.set ar ((s.area ar).take n)) _ hT (by intro ar w; rfl) ?_
  intro w1 hk hsz h1
  have c3 : w1.cell? ⟨B3, 0, none⟩ = some (.pointer (some ⟨b, 0, none⟩)) := (hk.cell (lt_of_cell h3) f3).trans h3
  have c4 : w1.cell? ⟨B4, 0, none⟩ = some (.int .i64 (ar : Int)) := (hk.cell (lt_of_cell h4) f4).trans h4
  have c5 : w1.cell? ⟨B5, 0, none⟩ = some (.int .i64 (n : Int)) := (hk.cell (lt_of_cell h5) f5).trans h5
  obtain ⟨⟨v0, v1, hb, h0, h1, a0, a1⟩, hm, hlt⟩ := h1
  dsimp only at hb h0 h1
  rcases har with rfl | rfl
  · have hn' : n < s.a0.length := by simpa [TS.area] using hn
    rcases h0.shape with ⟨_, q, _⟩ | ⟨g, cap, hv, hc1, hc2, hg, _⟩
    · omega
    subst hv
    refine (cutdo0 w1 B3 B4 B5 b g cap n s.a0.length _ v1 s.c s.armed _ s.dead rfl hb c3 c4 c5 (by omega) hc1).mono ?_
    rintro e w' ⟨rfl, hb', hk'⟩
    refine ⟨rfl, ⟨⟨.slice (some ⟨g, 0, none⟩) n n, v1, by simpa [TS.set, TS.area] using hb', ?_, ?_, fun k e => ⟨.inl (a0 k e).1, (a0 k e).2⟩, fun k e => ⟨.inl (a1 k e).1, (a1 k e).2⟩⟩, .inl hm, ?_⟩, ?_⟩
    · have := (h0.cut n (by omega)).kept hk' (fun k e _ q => (a0 k e).2 q)
      simpa [TS.set, TS.area, List.map_take, Nat.min_eq_left (Nat.le_of_lt hn')] using this
    · simp only [TS.set, TS.area, if_true]
      exact h1.kept hk' (fun k e _ q => (a1 k e).2.1 q)
    · exact fun k h => h.elim (fun h => Nat.lt_of_lt_of_le (hlt k h) hk'.size) And.right
    · exact hk'.mono fun k _ h => h ▸ hm
  · have hn' : n < s.a1.length := by simpa [TS.area] using hn
    rcases h1.shape with ⟨_, q, _⟩ | ⟨g, cap, hv, hc1, hc2, hg, _⟩
    · omega
    subst hv
    refine (cutdo1 w1 B3 B4 B5 b g cap n s.a1.length v0 _ s.c s.armed _ s.dead rfl hb c3 c4 c5 (by omega) hc1).mono ?_
    rintro e w' ⟨rfl, hb', hk'⟩
    refine ⟨rfl, ⟨⟨v0, .slice (some ⟨g, 0, none⟩) n n, by simpa [TS.set, TS.area] using hb', ?_, ?_, fun k e => ⟨.inl (a0 k e).1, (a0 k e).2⟩, fun k e => ⟨.inl (a1 k e).1, (a1 k e).2⟩⟩, .inl hm, ?_⟩, ?_⟩
    · simp only [TS.set, TS.area, if_neg Nat.one_ne_zero]
      exact h0.kept hk' (fun k e _ q => (a0 k e).2 q)
    · have := (h1.cut n (by omega)).kept hk' (fun k e _ q => (a1 k e).2.1 q)
      simpa [TS.set, TS.area, List.map_take, Nat.min_eq_left (Nat.le_of_lt hn')] using this
    · exact fun k h => h.elim (fun h => Nat.lt_of_lt_of_le (hlt k h) hk'.size) And.right
    · exact hk'.mono fun k _ h => h ▸ hm

end Go.Proofs.Ytdclgmffgidcmaa
