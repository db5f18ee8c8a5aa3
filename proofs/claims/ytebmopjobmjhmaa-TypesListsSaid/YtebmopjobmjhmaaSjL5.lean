/-
  States that lead to one another; loops whose rounds end in such a state.
-/
import Derived.Test.YtebmopjobmjhmaaSjL4
namespace Go.Sj
set_option linter.unusedVariables false

/-- Whatever the first state means, the second one means too, with more memory that never changes. -/
def GoTo (N : Nat) (st : St) (L : Own) (st' : St) (L' : Own) : Prop := ∀ (σ : Hp) (F : Fr) (w : World) (a : Act), HRel σ L F w → TR σ N st a → ∃ τ, σ.le τ ∧ HRel τ L' F w ∧ TR τ N st' a
section
variable {N : Nat} {st st' st'' : St} {L L' L'' : Own}
theorem GoTo.trans (h : GoTo N st L st' L') (k : GoTo N st' L' st'' L'') : GoTo N st L st'' L'' := fun σ F w a h1 h2 => by
  obtain ⟨τ, a1, a2, a3⟩ := h σ F w a h1 h2
  obtain ⟨υ, b1, b2, b3⟩ := k τ F w a a2 a3
  exact ⟨υ, Hp.le_trans a1 b1, b2, b3⟩
theorem GoTo.sub (h : SubS st st') (k : OSub L' L) : GoTo N st L st' L' := fun σ F w a h1 h2 => ⟨σ, σ.le_refl, h1.osub k, h2.sub h⟩
theorem GoTo.perm (h : L.Perm L') : GoTo N st L st L' := fun σ F w a h1 h2 => ⟨σ, σ.le_refl, h1.perm h, h2⟩
theorem GoTo.freeze (i : Nat) {v : Value} {E sz : Nat} {es : List (List AV)} (hL : L[i]? = some (v, .row E sz es)) (hst : FZS v sz es st st') (M : Own) (hM : FZO v sz es (L.eraseIdx i) M) : GoTo N st L st' M := fun σ F w a h1 h2 => by
  obtain ⟨k1, k2⟩ := (h1.at hL).freeze hM
  exact ⟨_, frz_le σ w v, k1, ⟨h2.defers, h2.size, fun j => hst j _ _ k2 ((h2.mono (frz_le σ w v)).vals j)⟩⟩
theorem FZS.refl {v : Value} {sz : Nat} {es : List (List AV)} (st : St) : FZS v sz es st st := fun i => FZ.refl _
theorem a_goto {P : Program} {c : Code} {Q : Exit → St → Own → Prop} (h : GoTo N st L st' L') (k : AWp P N c Q st' L') : AWp P N c Q st L :=
  ⟨fun σ F w a h1 h2 => by
    obtain ⟨τ, a1, a2, a3⟩ := h σ F w a h1 h2
    exact wp_mono (k.out τ F w a a2 a3) fun e a' w' hp => hp.le a1⟩
end
/-- A loop whose state is a function of some data; a round may end in any state that leads to the next one. -/
theorem a_loopG {P : Program} {N : Nat} {c : Code} {Q : Exit → St → Own → Prop} {st : St} {L : Own} {X : Type} (sx : X → List (Nat × AV)) (lx : X → Own) (px : X → Prop) (m : X → Nat) (x0 : X)
    (h0 : px x0) (hs : GoTo N st L (lk (sx x0)) (lx x0))
    (round : ∀ x, px x → AWp P N c (thenA (fun st' L' => ∃ x', px x' ∧ m x' < m x ∧ GoTo N st' L' (lk (sx x')) (lx x')) Q) (lk (sx x)) (lx x)) : AWp P N (.loop c) Q st L :=
  a_loop (fun n st L => ∃ x, px x ∧ n = m x ∧ GoTo N st L (lk (sx x)) (lx x)) (m x0) ⟨x0, h0, rfl, hs⟩ fun n st L ⟨x, h1, h2, h3⟩ =>
    a_goto h3 ((round x h1).mono fun e st' L' h => by
      cases e with
      | normal =>
        obtain ⟨x', k1, k2, k3⟩ := h
        exact ⟨m x', by rw [h2]; exact k2, x', k1, rfl, k3⟩
      | _ => exact h)
theorem a_loopG2 {P : Program} {N : Nat} {c : Code} {Q : Exit → St → Own → Prop} {st : St} {L : Own} {A B : Type} (sx : A → B → List (Nat × AV)) (lx : A → B → Own) (px : A → B → Prop) (m : A → B → Nat) (a0 : A) (b0 : B)
    (h0 : px a0 b0) (hs : GoTo N st L (lk (sx a0 b0)) (lx a0 b0))
    (round : ∀ a b, px a b → AWp P N c (thenA (fun st' L' => ∃ a' b', px a' b' ∧ m a' b' < m a b ∧ GoTo N st' L' (lk (sx a' b')) (lx a' b')) Q) (lk (sx a b)) (lx a b)) : AWp P N (.loop c) Q st L :=
  a_loopG (X := A × B) (fun x => sx x.1 x.2) (fun x => lx x.1 x.2) (fun x => px x.1 x.2) (fun x => m x.1 x.2) (a0, b0) h0 hs fun x hx =>
    (round x.1 x.2 hx).mono fun e st' L' h => by
      cases e with
      | normal =>
        obtain ⟨a', b', k⟩ := h
        exact ⟨(a', b'), k⟩
      | _ => exact h
theorem a_loopG3 {P : Program} {N : Nat} {c : Code} {Q : Exit → St → Own → Prop} {st : St} {L : Own} {A B C : Type} (sx : A → B → C → List (Nat × AV)) (lx : A → B → C → Own) (px : A → B → C → Prop) (m : A → B → C → Nat) (a0 : A) (b0 : B) (c0 : C)
    (h0 : px a0 b0 c0) (hs : GoTo N st L (lk (sx a0 b0 c0)) (lx a0 b0 c0))
    (round : ∀ a b d, px a b d → AWp P N c (thenA (fun st' L' => ∃ a' b' d', px a' b' d' ∧ m a' b' d' < m a b d ∧ GoTo N st' L' (lk (sx a' b' d')) (lx a' b' d')) Q) (lk (sx a b d)) (lx a b d)) : AWp P N (.loop c) Q st L :=
  a_loopG (X := A × B × C) (fun x => sx x.1 x.2.1 x.2.2) (fun x => lx x.1 x.2.1 x.2.2) (fun x => px x.1 x.2.1 x.2.2) (fun x => m x.1 x.2.1 x.2.2) (a0, b0, c0) h0 hs fun x hx =>
    (round x.1 x.2.1 x.2.2 hx).mono fun e st' L' h => by
      cases e with
      | normal =>
        obtain ⟨a', b', c', k⟩ := h
        exact ⟨(a', b', c'), k⟩
      | _ => exact h
/-- The values of owned rows are single cells. -/
def rowsCell (M : Own) : Prop := ∀ p ∈ M, match p.2 with | .row _ _ _ => p.1.oneCell' = true | _ => True
theorem ACalls.cells {P : Program} {f : FuncId} {args : List AV} {L : Own} {R : AV → Own → Prop} (h : ACalls P f args L R) : ACalls P f args L fun x M => R x M ∧ rowsCell M :=
  ⟨h.ok, fun σ F w vs a b => (h.out σ F w vs a b).mono fun e w' ⟨v, hv, τ, x, M, h1, h2, h3, h4⟩ => ⟨v, hv, τ, x, M, h1, h2, h3, h4, fun p hp => by
    have := h2.own p hp
    obtain ⟨u, ob⟩ := p
    cases ob with
    | row E sz es => exact own_row_cell this
    | _ => trivial⟩⟩
theorem a_know {P : Program} {N : Nat} {c : Code} {Q : Exit → St → Own → Prop} {st : St} {L : Own} (i : Nat) {v : Value} {E sz : Nat} {es : List (List AV)} (hL : L[i]? = some (v, .row E sz es)) (k : v.oneCell' = true → AWp P N c Q st L) : AWp P N c Q st L :=
  ⟨fun σ F w a h1 h2 => (k (own_row_cell (h1.own1 hL))).out σ F w a h1 h2⟩
end Go.Sj
