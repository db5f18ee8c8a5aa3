/-
  An own row that changes no more from the operation on that gives it.
-/
import Derived.Test.YtebmopjobmjhmaaSjL14
namespace Go.Sj
set_option linter.unusedVariables false
set_option linter.unusedSimpArgs false

theorem ARes.turn {P : Program} {σ : Hp} {F : Fr} {K K' : AV → Own → Prop} (hk : ∀ x M, K x M → ∃ y M', K' y M' ∧ Turn x M y M') {r : Result Next} (h : ARes P σ F K r) : ARes P σ F K' r := by
  cases r with
  | ok n w =>
    cases n <;> simp only [ARes] at h ⊢
    case value v =>
      obtain ⟨τ, x, L, a, b, c, d⟩ := h
      obtain ⟨y, M', hy, ht⟩ := hk x L d
      obtain ⟨υ, h1, h2, h3⟩ := ht τ F w v b c
      exact ⟨υ, y, M', Hp.le_trans a h1, h2, h3, hy⟩
    case skip =>
      obtain ⟨τ, x, L, a, b, c, d⟩ := h
      obtain ⟨y, M', hy, ht⟩ := hk x L d
      obtain ⟨υ, h1, h2, h3⟩ := ht τ F w _ b c
      exact ⟨υ, y, M', Hp.le_trans a h1, h2, h3, hy⟩
    case enter f args =>
      refine h.mono fun e w' ⟨v, hv, τ, x, L, a, b, c, d⟩ => ?_
      obtain ⟨y, M', hy, ht⟩ := hk x L d
      obtain ⟨υ, h1, h2, h3⟩ := ht τ F w' v b c
      exact ⟨v, hv, υ, y, M', Hp.le_trans a h1, h2, h3, hy⟩
  | halt x w => exact h.elim
theorem AOp.turn {P : Program} {o : Oper} {K K' : AV → Own → Prop} {st : St} {L : Own} (hk : ∀ x M, K x M → ∃ y M', K' y M' ∧ Turn x M y M') (h : AOp P o K st L) : AOp P o K' st L :=
  ⟨fun σ F w ρ a b => (h.out σ F w ρ a b).turn hk⟩
/-! Rows that say less. -/
def SubLL : List (List AV) → List (List AV) → Prop
  | [], [] => True
  | x :: l, y :: m => SubL x y ∧ SubLL l m
  | _, _ => False
theorem SubL.len : ∀ {l m : List AV}, SubL l m → l.length = m.length
  | [], [], _ => rfl
  | _ :: l, _ :: m, h => by simp [SubL.len h.2]
  | [], _ :: _, h => h.elim
  | _ :: _, [], h => h.elim
theorem SubL.get : ∀ {l m : List AV}, SubL l m → ∀ {j : Nat} {y : AV}, m[j]? = some y → ∃ x, l[j]? = some x ∧ Sub x y
  | x :: l, z :: m, h, 0, y, hy => by simp at hy; subst hy; exact ⟨x, rfl, h.1⟩
  | x :: l, z :: m, h, j + 1, y, hy => by
    obtain ⟨x', h1, h2⟩ := SubL.get h.2 (j := j) (by simpa using hy)
    exact ⟨x', by simpa using h1, h2⟩
  | [], [], _, j, y, hy => by simp at hy
  | [], _ :: _, h, _, _, _ => h.elim
  | _ :: _, [], h, _, _, _ => h.elim
theorem SubLL.len : ∀ {l m : List (List AV)}, SubLL l m → l.length = m.length
  | [], [], _ => rfl
  | _ :: l, _ :: m, h => by simp [SubLL.len h.2]
  | [], _ :: _, h => h.elim
  | _ :: _, [], h => h.elim
theorem SubLL.get : ∀ {l m : List (List AV)}, SubLL l m → ∀ {j : Nat} {y : List AV}, m[j]? = some y → ∃ x, l[j]? = some x ∧ SubL x y
  | x :: l, z :: m, h, 0, y, hy => by simp at hy; subst hy; exact ⟨x, rfl, h.1⟩
  | x :: l, z :: m, h, j + 1, y, hy => by
    obtain ⟨x', h1, h2⟩ := SubLL.get h.2 (j := j) (by simpa using hy)
    exact ⟨x', by simpa using h1, h2⟩
  | [], [], _, j, y, hy => by simp at hy
  | [], _ :: _, h, _, _, _ => h.elim
  | _ :: _, [], h, _, _, _ => h.elim
theorem Sub.im {sz : Nat} {es es' : List (List AV)} (h : SubLL es es') : Sub (.im sz es) (.im sz es') := fun σ v hv => by
  cases hv with
  | imNil _ a cap =>
    have := h.len
    have : es' = [] := List.length_eq_zero_iff.1 this.symm
    subst this
    exact .imNil _ _ _
  | im _ _ b off cap c E fr f h1 h2 h3 h4 h5 h6 =>
    have hl := h.len
    rw [hl]
    refine .im sz es' b off cap c E fr f h1 (fun e => h2 (List.length_eq_zero_iff.1 (by rw [hl, e]; rfl))) (by omega) (fun i e he => ?_) (fun i e j x he hx => ?_) (fun i e j x he hx => ?_)
    · obtain ⟨d, hd, hs⟩ := h.get he
      rw [← hs.len]
      exact h4 i d hd
    · obtain ⟨d, hd, hs⟩ := h.get he
      obtain ⟨y, hy, _⟩ := hs.get hx
      exact h5 i d j y hd hy
    · obtain ⟨d, hd, hs⟩ := h.get he
      obtain ⟨y, hy, hsub⟩ := hs.get hx
      exact hsub σ _ (h6 i d j y hd hy)
section
variable {P : Program} {N : Nat} {ops : List Oper} {Q : St → Own → Prop} {L : Own} {rest : List (Oper × Kd)} {l : List (Nat × AV)} {k : Kd} {q : Nat}
theorem s_frzNow (i : Nat) {o : Oper} {E sz : Nat} {es : List (List AV)} {M : Own} (hdst : o.dst = some q) (hd : Nat.blt q N = true) (hg : guardA ops o (lk l) = some true)
    (h : AL P N ops (fun st' L' => ∃ v, st' q = .lit v ∧ L'[i]? = some (v, .row E sz es) ∧ L'.eraseIdx i = M) [(o, .eff)] (lk l) L)
    (n : AL P N ops Q rest (lk ((q, .im sz es) :: l)) M) : AL P N ops Q ((o, .eff) :: rest) (lk l) L := by
  obtain ⟨h1, h2⟩ := AL_head h
  rcases h2 with ⟨hg', _⟩ | ⟨hg', hop⟩
  · rw [hg] at hg'; cases hg'
  · refine s_eff (fun x M' => x = .im sz es ∧ M' = M) hdst hd hg (AOp.turn (fun x L' hx => ?_) hop) (fun x M' ⟨e1, e2⟩ => by rw [e1, e2]; exact n)
    cases hx with
    | nil hq =>
      obtain ⟨v, hv, hL, hM⟩ := hq
      rw [hdst] at hv
      have hv' : x = .lit v := by rw [← hv]; exact (upd_same _ _ _).symm
      subst hv'
      subst hM
      exact ⟨_, _, ⟨rfl, rfl⟩, Turn.freeze i hL FZ.here⟩
end
end Go.Sj
