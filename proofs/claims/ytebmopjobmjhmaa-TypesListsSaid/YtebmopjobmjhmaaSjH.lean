/-
  Part H: what no longer changes, what is lent, what is forgotten, within code and in contracts.
  No condition; nothing here names a program.
-/
import Derived.Test.YtebmopjobmjhmaaSjG
namespace Go.Sj
set_option linter.unusedVariables false
set_option linter.unusedSimpArgs false

/-! ### An owned row that will change no more -/

/-- If v reads as the row 'im sz es', then whatever x means, y means. -/
def FZ (v : Value) (sz : Nat) (es : List (List AV)) (x y : AV) : Prop := ∀ (τ : Hp) (u : Value), VR τ (.im sz es) v → VR τ x u → VR τ y u
theorem FZ.sub {v : Value} {sz : Nat} {es : List (List AV)} {x y : AV} (h : Sub x y) : FZ v sz es x y := fun τ u _ k => h τ u k
theorem FZ.refl {v : Value} {sz : Nat} {es : List (List AV)} (x : AV) : FZ v sz es x x := fun τ u _ k => k
theorem FZ.here {v : Value} {sz : Nat} {es : List (List AV)} : FZ v sz es (.lit v) (.im sz es) := fun τ u h k => by rw [k.lit_inv]; exact h

def FZL (v : Value) (sz : Nat) (es : List (List AV)) : List AV → List AV → Prop
  | [], [] => True
  | x :: l, y :: m => FZ v sz es x y ∧ FZL v sz es l m
  | _, _ => False
theorem FZL.refl {v : Value} {sz : Nat} {es : List (List AV)} : ∀ l, FZL v sz es l l
  | [] => trivial
  | x :: l => ⟨FZ.refl x, FZL.refl l⟩
theorem FZL.vrs {v : Value} {sz : Nat} {es : List (List AV)} {τ : Hp} (h : VR τ (.im sz es) v) : ∀ {l m : List AV} {vs : List Value}, FZL v sz es l m → VRs τ l vs → VRs τ m vs
  | [], [], vs, _, k => k
  | x :: l, y :: m, vs, hs, k => by
    obtain ⟨u, us, rfl, hu, hus⟩ := k.cons_inv
    exact .cons (hs.1 τ u h hu) (FZL.vrs h hs.2 hus)
  | [], _ :: _, _, hs, _ => hs.elim
  | _ :: _, [], _, hs, _ => hs.elim
theorem FZ.agg {v : Value} {sz : Nat} {es : List (List AV)} {l m : List AV} (h : FZL v sz es l m) : FZ v sz es (.agg l) (.agg m) := fun τ u k hu => by
  obtain ⟨vs, rfl, hvs⟩ := hu.agg_inv
  exact VR.agg_of (h.vrs k hvs)
theorem FZ.tup {v : Value} {sz : Nat} {es : List (List AV)} {l m : List AV} (h : FZL v sz es l m) : FZ v sz es (.tup l) (.tup m) := fun τ u k hu => by
  obtain ⟨vs, rfl, hvs⟩ := hu.tup_inv
  exact VR.tup_of (h.vrs k hvs)

/-- The same for what is owned. -/
def FZO (v : Value) (sz : Nat) (es : List (List AV)) : Own → Own → Prop
  | [], [] => True
  | (u, .box c) :: L, (u', .box c') :: M => u = u' ∧ FZL v sz es c c' ∧ FZO v sz es L M
  | (u, .row E s e) :: L, (u', .row E' s' e') :: M => u = u' ∧ E = E' ∧ s = s' ∧ e.length = e'.length ∧ (∀ x ∈ e', x.length = s) ∧ FZL v sz es e.flatten e'.flatten ∧ FZO v sz es L M
  | (u, .mp m) :: L, (u', .mp m') :: M => u = u' ∧ m = m' ∧ FZO v sz es L M
  | _, _ => False
theorem FZO.refl {v : Value} {sz : Nat} {es : List (List AV)} : ∀ {L : Own}, (∀ p ∈ L, match p.2 with | .row _ s e => ∀ x ∈ e, x.length = s | _ => True) → FZO v sz es L L
  | [], _ => trivial
  | (u, .box c) :: L, h => ⟨rfl, FZL.refl _, FZO.refl (fun p hp => h p (List.mem_cons_of_mem _ hp))⟩
  | (u, .mp m) :: L, h => ⟨rfl, rfl, FZO.refl (fun p hp => h p (List.mem_cons_of_mem _ hp))⟩
  | (u, .row E s e) :: L, h => ⟨rfl, rfl, rfl, rfl, h (u, .row E s e) (List.mem_cons_self ..), FZL.refl _, FZO.refl (fun p hp => h p (List.mem_cons_of_mem _ hp))⟩

theorem FZO.own {v : Value} {sz : Nat} {es : List (List AV)} {τ : Hp} {w : World} (h : VR τ (.im sz es) v) : ∀ {L M : Own}, FZO v sz es L M → (∀ p ∈ L, Own1 τ w p) → (∀ p ∈ M, Own1 τ w p) ∧ M.filterMap (blk ∘ Prod.fst) = L.filterMap (blk ∘ Prod.fst)
  | [], [], _, k => ⟨k, rfl⟩
  | (u, .box c) :: L, (u', .box c') :: M, hs, k => by
    obtain ⟨rfl, h1, h2⟩ := hs
    obtain ⟨i1, i2⟩ := FZO.own h h2 (fun p hp => k p (List.mem_cons_of_mem _ hp))
    refine ⟨fun p hp => ?_, by simp only [List.filterMap_cons, i2]; rfl⟩
    rcases List.mem_cons.1 hp with rfl | hp
    · obtain ⟨b, c0, E, a1, a2, a3⟩ := k (u, .box c) (by simp)
      exact ⟨b, c0, E, a1, a2, h1.vrs h a3⟩
    · exact i1 p hp
  | (u, .row E s e) :: L, (u', .row E' s' e') :: M, hs, k => by
    obtain ⟨rfl, rfl, rfl, hl, hls, h1, h2⟩ := hs
    obtain ⟨i1, i2⟩ := FZO.own h h2 (fun p hp => k p (List.mem_cons_of_mem _ hp))
    refine ⟨fun p hp => ?_, by simp only [List.filterMap_cons, i2]; rfl⟩
    rcases List.mem_cons.1 hp with rfl | hp
    · obtain ⟨xs, a1, a2, a3⟩ := k (u, .row E s e) (by simp)
      exact ⟨xs, by rw [← hl]; exact a1, hls, h1.vrs h a3⟩
    · exact i1 p hp
  | (u, .mp m) :: L, (u', .mp m') :: M, hs, k => by
    obtain ⟨rfl, rfl, h2⟩ := hs
    obtain ⟨i1, i2⟩ := FZO.own h h2 (fun p hp => k p (List.mem_cons_of_mem _ hp))
    refine ⟨fun p hp => ?_, by simp only [List.filterMap_cons, i2]⟩
    rcases List.mem_cons.1 hp with rfl | hp
    · exact k (u, .mp m) (by simp)
    · exact i1 p hp
  | (_, .mp _) :: _, (_, .row _ _ _) :: _, hs, _ => hs.elim
  | (_, .mp _) :: _, (_, .box _) :: _, hs, _ => hs.elim
  | (_, .row _ _ _) :: _, (_, .mp _) :: _, hs, _ => hs.elim
  | (_, .box _) :: _, (_, .mp _) :: _, hs, _ => hs.elim
  | (_, .mp _) :: _, [], hs, _ => hs.elim
  | (_, .box _) :: _, (_, .row _ _ _) :: _, hs, _ => hs.elim
  | (_, .row _ _ _) :: _, (_, .box _) :: _, hs, _ => hs.elim
  | [], _ :: _, hs, _ => by cases hs
  | (_, .box _) :: _, [], hs, _ => hs.elim
  | (_, .row _ _ _) :: _, [], hs, _ => hs.elim

theorem own_frozen {σ : Hp} {w : World} {v : Value} {E sz : Nat} {es : List (List AV)} (h : Own1 σ w (v, .row E sz es)) {τ : Hp} (hle : σ.le τ) (hb : ∀ b, blk v = some b → τ b = w.heap[b]?) : VR τ (.im sz es) v := by
  by_cases hne : es = []
  · subst hne
    obtain ⟨a, cap, hv, _⟩ := own_row_val h
    rw [hv]
    exact .imNil _ _ _
  · obtain ⟨g, cap, cur, hv, h0, hg, hn, hm, hc, hl, hr⟩ := own_row_cells h hne
    have hbg := hb g (by rw [hv]; simp [blk]; omega)
    rw [hv]
    exact VR.im_of (by rw [hbg]; exact hg) hne hn hl (by simpa using hr.mono hle)

/-- The heap part with an owned block made to never change. -/
def frz (σ : Hp) (w : World) (v : Value) : Hp := fun b => match σ b with
  | some o => some o
  | none => if blk v = some b then w.heap[b]? else none
theorem frz_le (σ : Hp) (w : World) (v : Value) : σ.le (frz σ w v) := fun b o h => by simp only [frz, h]

theorem HRel.freeze {σ : Hp} {L M : Own} {F : Fr} {w : World} {v : Value} {E sz : Nat} {es : List (List AV)} (h : HRel σ ((v, .row E sz es) :: L) F w) (hM : FZO v sz es L M) :
    HRel (frz σ w v) M F w ∧ VR (frz σ w v) (.im sz es) v := by
  have hown := h.own (v, .row E sz es) (by simp)
  have hap : ∀ b, blk v = some b → σ b = none ∧ F.h b = none := fun b hb => h.apart b (List.mem_filterMap.2 ⟨(v, .row E sz es), by simp, hb⟩)
  have hv : VR (frz σ w v) (.im sz es) v := own_frozen hown (frz_le σ w v) fun b hb => by simp only [frz, (hap b hb).1, if_pos hb]
  obtain ⟨i1, i2⟩ := hM.own hv (fun p hp => (h.own p (List.mem_cons_of_mem _ hp)).mono (frz_le σ w v))
  have hnd := h.nodup
  refine ⟨⟨fun b o hb => ?_, h.frame, h.os, h.out, i1, fun b o hb => ?_, ?_, fun b hb => ?_⟩, hv⟩
  · simp only [frz] at hb
    split at hb
    · rename_i o' ho
      cases hb
      exact h.agree b o ho
    · split at hb
      · exact hb
      · cases hb
  · simp only [frz] at hb
    split at hb
    · rename_i o' ho
      exact h.sep b o' ho
    · split at hb
      · rename_i hbv
        exact (hap b hbv).2
      · cases hb
  · rw [i2]
    exact hnd.sublist ((List.sublist_cons_self _ _).filterMap _)
  · rw [i2] at hb
    have h1 := h.apart b ((List.sublist_cons_self _ _).filterMap _ |>.subset hb)
    refine ⟨?_, h1.2⟩
    simp only [frz, h1.1]
    rw [if_neg]
    intro hbv
    have e : ((v, OB.row E sz es) :: L).filterMap (blk ∘ Prod.fst) = b :: L.filterMap (blk ∘ Prod.fst) := by simp [hbv]
    rw [e] at hnd
    exact (List.nodup_cons.1 hnd).1 hb

/-- The same where all else stays as it is. -/
theorem HRel.freezeKeep {σ : Hp} {L : Own} {F : Fr} {w : World} {v : Value} {E sz : Nat} {es : List (List AV)} (h : HRel σ ((v, .row E sz es) :: L) F w) :
    HRel (frz σ w v) L F w ∧ VR (frz σ w v) (.im sz es) v := by
  have h0 := (h.sub (M := [(v, .row E sz es)]) (by simp)).freeze (M := []) trivial
  have hown := h.own (v, .row E sz es) (by simp)
  have hnd := h.nodup
  refine ⟨⟨h0.1.agree, h.frame, h.os, h.out, fun p hp => (h.own p (List.mem_cons_of_mem _ hp)).mono (frz_le σ w v), h0.1.sep, hnd.sublist ((List.sublist_cons_self _ _).filterMap _), fun b hb => ?_⟩, h0.2⟩
  have h1 := h.apart b ((List.sublist_cons_self _ _).filterMap _ |>.subset hb)
  refine ⟨?_, h1.2⟩
  simp only [frz, h1.1]
  rw [if_neg]
  intro hbv
  have e : ((v, OB.row E sz es) :: L).filterMap (blk ∘ Prod.fst) = b :: L.filterMap (blk ∘ Prod.fst) := by simp [hbv]
  rw [e] at hnd
  exact (List.nodup_cons.1 hnd).1 hb

/-- At the end of a body: the row at place i changes no more. -/
theorem Turn.freeze (i : Nat) {L : Own} {v : Value} {E sz : Nat} {es : List (List AV)} {x y : AV} (hL : L[i]? = some (v, .row E sz es)) (hz : FZ v sz es x y) : Turn x L y (L.eraseIdx i) := fun τ F w u a b => by
  obtain ⟨h1, h2⟩ := (a.at hL).freezeKeep
  exact ⟨_, frz_le τ w v, h1, hz _ u h2 (b.mono (frz_le τ w v))⟩
theorem Turn.none {x : AV} (L : Own) : Turn x L x [] := .of (Sub.refl x) (OSub.none L)
theorem finF (i : Nat) {rs : List ResultVar} {R : AV → Own → Prop} {e : Exit} {st : St} {L : Own} {v : Value} {E sz : Nat} {es : List (List AV)} {x y : AV} (he : e = .normal ∨ e = .ret) (hx : resA st rs = some x) (hL : L[i]? = some (v, .row E sz es)) (hz : FZ v sz es x y) (hr : R y []) : FinP rs R e st L :=
  finT he hx ((Turn.freeze i hL hz).trans (Turn.none _)) hr

def FZS (v : Value) (sz : Nat) (es : List (List AV)) (st st' : St) : Prop := ∀ i, FZ v sz es (st i) (st' i)
theorem fzs_nil {v : Value} {sz : Nat} {es : List (List AV)} {st : St} : FZS v sz es st (lk []) := fun _ => .sub (Sub.any _)
theorem fzs_cons {v : Value} {sz : Nat} {es : List (List AV)} {st : St} {i : Nat} {x : AV} {l : List (Nat × AV)} (h : FZ v sz es (st i) x) (k : FZS v sz es st (lk l)) : FZS v sz es st (lk ((i, x) :: l)) := fun j => by
  by_cases e : i = j
  · subst e
    rw [show lk ((i, x) :: l) i = x by simp [lk]]
    exact h
  · rw [show lk ((i, x) :: l) j = lk l j by simp [lk, beq_false e]]
    exact k j

/-- From here on the row at place i changes no more. -/
theorem a_freeze {P : Program} {N : Nat} {c : Code} {Q : Exit → St → Own → Prop} {st : St} {L : Own} (i : Nat) {v : Value} {E sz : Nat} {es : List (List AV)} (hL : L[i]? = some (v, .row E sz es)) (st' : St) (hst : FZS v sz es st st') (M : Own) (hM : FZO v sz es (L.eraseIdx i) M)
    (k : AWp P N c Q st' M) : AWp P N c Q st L :=
  ⟨fun σ F w a hr ht => by
    obtain ⟨h1, h2⟩ := (hr.at hL).freeze hM
    have ht' : TR (frz σ w v) N st' a := ⟨ht.defers, ht.size, fun j => hst j _ _ h2 ((ht.mono (frz_le σ w v)).vals j)⟩
    exact wp_mono (k.out _ F w a h1 ht') fun e a' w' hp => hp.le (frz_le σ w v)⟩

/-! ### Contracts -/

/-- A call that only looks and gives a tree. -/
def Pure (P : Program) (f : FuncId) (args : List AV) (x : AV) : Prop := ACalls P f args [] fun y L => y = x ∧ L = []
/-- A call that gives a row of its own. -/
def Gives (P : Program) (f : FuncId) (args : List AV) (E sz : Nat) (es : List (List AV)) : Prop := ACalls P f args [] fun y L => ∃ v, y = .lit v ∧ L = [(v, .row E sz es)]

theorem ACalls.weaken {P : Program} {f : FuncId} {args : List AV} {L : Own} {R R' : AV → Own → Prop} (h : ACalls P f args L R) (hr : ∀ x M, R x M → ∃ y M', R' y M' ∧ (∀ τ F w v, HRel τ M F w → VR τ x v → ∃ υ, Hp.le τ υ ∧ HRel υ M' F w ∧ VR υ y v)) : ACalls P f args L R' :=
  ⟨h.ok, fun σ F w vs a b => (h.out σ F w vs a b).mono fun e w' ⟨v, hv, τ, x, M, h1, h2, h3, h4⟩ => by
    obtain ⟨y, M', h5, h6⟩ := hr x M h4
    obtain ⟨υ, h7, h8, h9⟩ := h6 τ F w' v h2 h3
    exact ⟨v, hv, υ, y, M', Hp.le_trans h1 h7, h8, h9, h5⟩⟩

/-- What is given may be taken as a row that never changes. -/
theorem Gives.pure {P : Program} {f : FuncId} {args : List AV} {E sz : Nat} {es : List (List AV)} (h : Gives P f args E sz es) : Pure P f args (.im sz es) :=
  ACalls.weaken h fun x M ⟨v, hx, hM⟩ => ⟨_, _, ⟨rfl, rfl⟩, fun τ F w u hr hv => by
    subst hM
    rw [hx] at hv
    rw [hv.lit_inv]
    obtain ⟨h1, h2⟩ := hr.freeze (M := []) trivial
    exact ⟨_, frz_le τ w v, h1, h2⟩⟩

/-- The same for the parts of a tuple: the first one is an own row. -/
theorem ACalls.tupFreeze {P : Program} {f : FuncId} {args : List AV} {E sz : Nat} {es : List (List AV)} {l : List AV} (h : ACalls P f args [] fun y L => ∃ v, y = .tup (.lit v :: l) ∧ L = [(v, .row E sz es)]) : Pure P f args (.tup (.im sz es :: l)) :=
  ACalls.weaken h fun x M ⟨v, hx, hM⟩ => ⟨_, _, ⟨rfl, rfl⟩, fun τ F w u hr hv => by
    subst hM
    rw [hx] at hv
    obtain ⟨h1, h2⟩ := hr.freeze (M := []) trivial
    exact ⟨_, frz_le τ w v, h1, (FZ.tup (l := .lit v :: l) (m := .im sz es :: l) ⟨FZ.here, FZL.refl l⟩) _ _ h2 (hv.mono (frz_le τ w v))⟩⟩

/-! ### What is lent -/

/-- A tree that leans on no memory. -/
inductive Free : AV → Prop
  | any : Free .any
  | lit (v : Value) : Free (.lit v)
  | agg (l : List AV) : (∀ x ∈ l, Free x) → Free (.agg l)
  | tup (l : List AV) : (∀ x ∈ l, Free x) → Free (.tup l)

theorem Free.move {σ τ : Hp} {x : AV} (h : Free x) : ∀ {v : Value}, VR σ x v → VR τ x v := by
  induction h with
  | any => intro v _; exact .any v
  | lit u => intro v h; rw [h.lit_inv]; exact .lit u
  | agg l _ ih =>
    intro v h
    obtain ⟨vs, rfl, hl, hvs⟩ := h.agg_inv
    exact VR.agg_of ⟨hl, fun j x y hx hy => ih x (List.mem_of_getElem? hx) (hvs j x y hx hy)⟩
  | tup l _ ih =>
    intro v h
    obtain ⟨vs, rfl, hl, hvs⟩ := h.tup_inv
    exact VR.tup_of ⟨hl, fun j x y hx hy => ih x (List.mem_of_getElem? hx) (hvs j x y hx hy)⟩

def FreeO (L : Own) : Prop := ∀ p ∈ L, match p.2 with
  | .row _ _ es => ∀ e ∈ es, ∀ x ∈ e, Free x
  | .box c => ∀ x ∈ c, Free x
  | .mp _ => True

theorem free_vrs {σ τ : Hp} {l : List AV} {vs : List Value} (hf : ∀ x ∈ l, Free x) (h : VRs σ l vs) : VRs τ l vs := ⟨h.1, fun j x y hx hy => (hf x (List.mem_of_getElem? hx)).move (h.2 j x y hx hy)⟩

theorem own_free {σ τ : Hp} {w : World} {p : Value × OB} (hf : match p.2 with
  | .row _ _ es => ∀ e ∈ es, ∀ x ∈ e, Free x
  | .box c => ∀ x ∈ c, Free x
  | .mp _ => True) (h : Own1 σ w p) : Own1 τ w p := by
  obtain ⟨v, ob⟩ := p
  cases ob with
  | row E sz es =>
    obtain ⟨xs, h1, h2, h3⟩ := h
    exact ⟨xs, h1, h2, free_vrs (fun x hx => by obtain ⟨e, he, hxe⟩ := List.mem_flatten.1 hx; exact hf e he x hxe) h3⟩
  | box c =>
    obtain ⟨b, c0, E, h1, h2, h3⟩ := h
    exact ⟨b, c0, E, h1, h2, free_vrs hf h3⟩
  | mp m => exact h

/-- A callee that reads a row which never changes reads an owned one as well, where what it gives leans on no memory. -/
theorem ACalls.borrow {P : Program} {f : FuncId} {a b : List AV} {v : Value} {E sz : Nat} {es : List (List AV)} {R : AV → Own → Prop} (h : ACalls P f (a ++ .im sz es :: b) [] R) (hfree : ∀ x M, R x M → Free x ∧ FreeO M) :
    ACalls P f (a ++ .lit v :: b) [(v, .row E sz es)] fun x M => ∃ M', R x M' ∧ M = M' ++ [(v, .row E sz es)] :=
  ⟨h.ok, fun σ F w vs hr hvs => by
    have hown := hr.own (v, .row E sz es) (by simp)
    have hap : ∀ b, blk v = some b → σ b = none ∧ F.h b = none := fun b hb => hr.apart b (List.mem_filterMap.2 ⟨(v, .row E sz es), by simp, hb⟩)
    obtain ⟨h1, h2⟩ := hr.freeze (M := []) trivial
    have hargs : VRs (frz σ w v) (a ++ .im sz es :: b) vs := by
      have h3 := hvs.mono (frz_le σ w v)
      refine ⟨by have := h3.1; simpa using this, fun j x y hx hy => ?_⟩
      by_cases hj : j < a.length
      · rw [List.getElem?_append_left hj] at hx
        exact h3.2 j x y (by rw [List.getElem?_append_left hj]; exact hx) hy
      · rw [List.getElem?_append_right (by omega)] at hx
        cases hk : j - a.length with
        | zero =>
          rw [hk] at hx
          simp at hx
          subst hx
          have := h3.2 j (.lit v) y (by rw [List.getElem?_append_right (by omega), hk]; rfl) hy
          rw [this.lit_inv]
          exact h2
        | succ n =>
          rw [hk] at hx
          exact h3.2 j x y (by rw [List.getElem?_append_right (by omega), hk]; simpa using hx) hy
    refine (h.out (frz σ w v) F w vs h1 hargs).mono fun e w' ⟨u, he, τ, x, M, k1, k2, k3, k4⟩ => ?_
    obtain ⟨f1, f2⟩ := hfree x M k4
    -- what is known without the lent block
    let τ' : Hp := fun b => if blk v = some b then none else τ b
    have hle : σ.le τ' := fun b o hb => by
      have hne : blk v ≠ some b := fun e => by rw [(hap b e).1] at hb; cases hb
      show (if blk v = some b then none else τ b) = some o
      rw [if_neg hne]
      exact k1 b o (frz_le σ w v b o hb)
    have hsub : Hp.le τ' τ := fun b o hb => by
      by_cases hb' : blk v = some b
      · simp [τ', hb'] at hb
      · simpa [τ', hb'] using hb
    have hblock : ∀ b, blk v = some b → τ b = w.heap[b]? ∧ w'.heap[b]? = w.heap[b]? := fun b hb => by
      have hlt := hown.lt (v := v) hb
      have e0 : w.heap[b]? = some w.heap[b] := Array.getElem?_eq_getElem hlt
      have e1 : frz σ w v b = some w.heap[b] := by simp only [frz, (hap b hb).1, if_pos hb]; exact e0
      have e2 := k1 b _ e1
      exact ⟨by rw [e2, e0], by rw [e0]; exact k2.agree b _ e2⟩
    have hMb : ∀ b ∈ M.filterMap (blk ∘ Prod.fst), blk v ≠ some b := fun b hb e => by
      have h5 := (k2.apart b hb).1
      rw [(hblock b e).1] at h5
      have := hown.lt (v := v) e
      rw [Array.getElem?_eq_getElem this] at h5
      cases h5
    refine ⟨u, he, τ', x, M ++ [(v, .row E sz es)], hle, ⟨k2.agree.mono hsub, k2.frame, k2.os, k2.out, fun p hp => ?_, fun b o hb => k2.sep b o (hsub b o hb), ?_, fun b hb => ?_⟩, f1.move k3, M, k4, rfl⟩
    · rcases List.mem_append.1 hp with hp | hp
      · exact own_free (f2 p hp) (k2.own p hp)
      · simp at hp
        subst hp
        exact (hown.mono hle).kept fun b hb => (hblock b hb).2
    · rw [List.filterMap_append, List.nodup_append]
      refine ⟨k2.nodup, ?_, fun a ha b hb e => ?_⟩
      · cases hv : blk v <;> simp [hv]
      · subst e
        have : blk v = some a := by
          cases hv : blk v with
          | none => simp [hv] at hb
          | some c => simp [hv] at hb; rw [hb]
        exact hMb a ha this
    · rw [List.filterMap_append] at hb
      rcases List.mem_append.1 hb with hb | hb
      · refine ⟨?_, (k2.apart b hb).2⟩
        show (if blk v = some b then none else τ b) = none
        rw [if_neg (hMb b hb)]
        exact (k2.apart b hb).1
      · have hvb : blk v = some b := by
          cases hv : blk v with
          | none => simp [hv] at hb
          | some c => simp [hv] at hb; rw [hb]
        refine ⟨?_, (hap b hvb).2⟩
        show (if blk v = some b then none else τ b) = none
        rw [if_pos hvb]⟩

end Go.Sj
