/- Parts of a proof. -/
import Derived.Laws.Cover3
import Derived.Test.YtimfponihbfimaaGreatP02
set_option linter.unusedVariables false
set_option linter.unusedSimpArgs false
section
namespace Go.Sj
def FZ (v : Value) (sz : Nat) (es : List (List AV)) (x y : AV) : Prop := ∀ (τ : Hp) (u : Value), VR τ (.im sz es) v → VR τ x u → VR τ y u
theorem FZ.sub {v : Value} {sz : Nat} {es : List (List AV)} {x y : AV} (h : Sub x y) : FZ v sz es x y := fun τ u _ k => h τ u k
theorem FZ.refl {v : Value} {sz : Nat} {es : List (List AV)} (x : AV) : FZ v sz es x x := fun τ u _ k => k
theorem FZ.here {v : Value} {sz : Nat} {es : List (List AV)} : FZ v sz es (.lit v) (.im sz es) := fun τ u h k => by rw [k.lit_inv]; exact h
def FZL (v : Value) (sz : Nat) (es : List (List AV)) : List AV → List AV → Prop
  | [], [] => True
  | x :: l, y :: m => FZ v sz es x y ∧ FZL v sz es l m
  | _, _ => False
theorem FZL.refl {v : Value} {sz : Nat} {es : List (List AV)} : ∀ l, FZL v sz es l l
  | [] => trivial
  | x :: l => ⟨FZ.refl x, FZL.refl l⟩
theorem FZL.vrs {v : Value} {sz : Nat} {es : List (List AV)} {τ : Hp} (h : VR τ (.im sz es) v) : ∀ {l m : List AV} {vs : List Value}, FZL v sz es l m → VRs τ l vs → VRs τ m vs
  | [], [], vs, _, k => k
  | x :: l, y :: m, vs, hs, k => by
    obtain ⟨u, us, rfl, hu, hus⟩ := k.cons_inv
    exact .cons (hs.1 τ u h hu) (FZL.vrs h hs.2 hus)
  | [], _ :: _, _, hs, _ => hs.elim
  | _ :: _, [], _, hs, _ => hs.elim
theorem FZ.agg {v : Value} {sz : Nat} {es : List (List AV)} {l m : List AV} (h : FZL v sz es l m) : FZ v sz es (.agg l) (.agg m) := fun τ u k hu => by
  obtain ⟨vs, rfl, hvs⟩ := hu.agg_inv
  exact VR.agg_of (h.vrs k hvs)
theorem FZ.tup {v : Value} {sz : Nat} {es : List (List AV)} {l m : List AV} (h : FZL v sz es l m) : FZ v sz es (.tup l) (.tup m) := fun τ u k hu => by
  obtain ⟨vs, rfl, hvs⟩ := hu.tup_inv
  exact VR.tup_of (h.vrs k hvs)
def FZO (v : Value) (sz : Nat) (es : List (List AV)) : Own → Own → Prop
  | [], [] => True
  | (u, .box c) :: L, (u', .box c') :: M => u = u' ∧ FZL v sz es c c' ∧ FZO v sz es L M
  | (u, .row E s e) :: L, (u', .row E' s' e') :: M => u = u' ∧ E = E' ∧ s = s' ∧ e.length = e'.length ∧ (∀ x ∈ e', x.length = s) ∧ FZL v sz es e.flatten e'.flatten ∧ FZO v sz es L M
  | (u, .mp m) :: L, (u', .mp m') :: M => u = u' ∧ m = m' ∧ FZO v sz es L M
  | _, _ => False
theorem FZO.refl {v : Value} {sz : Nat} {es : List (List AV)} : ∀ {L : Own}, (∀ p ∈ L, match p.2 with | .row _ s e => ∀ x ∈ e, x.length = s | _ => True) → FZO v sz es L L
  | [], _ => trivial
  | (u, .box c) :: L, h => ⟨rfl, FZL.refl _, FZO.refl (fun p hp => h p (List.mem_cons_of_mem _ hp))⟩
  | (u, .mp m) :: L, h => ⟨rfl, rfl, FZO.refl (fun p hp => h p (List.mem_cons_of_mem _ hp))⟩
  | (u, .row E s e) :: L, h => ⟨rfl, rfl, rfl, rfl, h (u, .row E s e) (List.mem_cons_self ..), FZL.refl _, FZO.refl (fun p hp => h p (List.mem_cons_of_mem _ hp))⟩
theorem FZO.own {v : Value} {sz : Nat} {es : List (List AV)} {τ : Hp} {w : World} (h : VR τ (.im sz es) v) : ∀ {L M : Own}, FZO v sz es L M → (∀ p ∈ L, Own1 τ w p) → (∀ p ∈ M, Own1 τ w p) ∧ M.filterMap (blk ∘ Prod.fst) = L.filterMap (blk ∘ Prod.fst)
  | [], [], _, k => ⟨k, rfl⟩
  | (u, .box c) :: L, (u', .box c') :: M, hs, k => by
    obtain ⟨rfl, h1, h2⟩ := hs
    obtain ⟨i1, i2⟩ := FZO.own h h2 (fun p hp => k p (List.mem_cons_of_mem _ hp))
    refine ⟨fun p hp => ?_, by simp only [List.filterMap_cons, i2]; rfl⟩
    rcases List.mem_cons.1 hp with rfl | hp
    · obtain ⟨b, c0, E, a1, a2, a3⟩ := k (u, .box c) (by simp)
      exact ⟨b, c0, E, a1, a2, h1.vrs h a3⟩
    · exact i1 p hp
  | (u, .row E s e) :: L, (u', .row E' s' e') :: M, hs, k => by
    obtain ⟨rfl, rfl, rfl, hl, hls, h1, h2⟩ := hs
    obtain ⟨i1, i2⟩ := FZO.own h h2 (fun p hp => k p (List.mem_cons_of_mem _ hp))
    refine ⟨fun p hp => ?_, by simp only [List.filterMap_cons, i2]; rfl⟩
    rcases List.mem_cons.1 hp with rfl | hp
    · obtain ⟨xs, a1, a2, a3⟩ := k (u, .row E s e) (by simp)
      exact ⟨xs, by rw [← hl]; exact a1, hls, h1.vrs h a3⟩
    · exact i1 p hp
  | (u, .mp m) :: L, (u', .mp m') :: M, hs, k => by
    obtain ⟨rfl, rfl, h2⟩ := hs
    obtain ⟨i1, i2⟩ := FZO.own h h2 (fun p hp => k p (List.mem_cons_of_mem _ hp))
    refine ⟨fun p hp => ?_, by simp only [List.filterMap_cons, i2]⟩
    rcases List.mem_cons.1 hp with rfl | hp
    · exact k (u, .mp m) (by simp)
    · exact i1 p hp
  | (_, .mp _) :: _, (_, .row _ _ _) :: _, hs, _ => hs.elim
  | (_, .mp _) :: _, (_, .box _) :: _, hs, _ => hs.elim
  | (_, .row _ _ _) :: _, (_, .mp _) :: _, hs, _ => hs.elim
  | (_, .box _) :: _, (_, .mp _) :: _, hs, _ => hs.elim
  | (_, .mp _) :: _, [], hs, _ => hs.elim
  | (_, .box _) :: _, (_, .row _ _ _) :: _, hs, _ => hs.elim
  | (_, .row _ _ _) :: _, (_, .box _) :: _, hs, _ => hs.elim
  | [], _ :: _, hs, _ => by cases hs
  | (_, .box _) :: _, [], hs, _ => hs.elim
  | (_, .row _ _ _) :: _, [], hs, _ => hs.elim
theorem own_frozen {σ : Hp} {w : World} {v : Value} {E sz : Nat} {es : List (List AV)} (h : Own1 σ w (v, .row E sz es)) {τ : Hp} (hle : σ.le τ) (hb : ∀ b, blk v = some b → τ b = w.heap[b]?) : VR τ (.im sz es) v := by
  by_cases hne : es = []
  · subst hne
    obtain ⟨a, cap, hv, _⟩ := own_row_val h
    rw [hv]
    exact .imNil _ _ _
  · obtain ⟨g, cap, cur, hv, h0, hg, hn, hm, hc, hl, hr⟩ := own_row_cells h hne
    have hbg := hb g (by rw [hv]; simp [blk]; omega)
    rw [hv]
    exact VR.im_of (by rw [hbg]; exact hg) hne hn hl (by simpa using hr.mono hle)
def frz (σ : Hp) (w : World) (v : Value) : Hp := fun b => match σ b with
  | some o => some o
  | none => if blk v = some b then w.heap[b]? else none
theorem frz_le (σ : Hp) (w : World) (v : Value) : σ.le (frz σ w v) := fun b o h => by simp only [frz, h]
theorem HRel.freeze {σ : Hp} {L M : Own} {F : Fr} {w : World} {v : Value} {E sz : Nat} {es : List (List AV)} (h : HRel σ ((v, .row E sz es) :: L) F w) (hM : FZO v sz es L M) :
    HRel (frz σ w v) M F w ∧ VR (frz σ w v) (.im sz es) v := by
  have hown := h.own (v, .row E sz es) (by simp)
  have hap : ∀ b, blk v = some b → σ b = none ∧ F.h b = none := fun b hb => h.apart b (List.mem_filterMap.2 ⟨(v, .row E sz es), by simp, hb⟩)
  have hv : VR (frz σ w v) (.im sz es) v := own_frozen hown (frz_le σ w v) fun b hb => by simp only [frz, (hap b hb).1, if_pos hb]
  obtain ⟨i1, i2⟩ := hM.own hv (fun p hp => (h.own p (List.mem_cons_of_mem _ hp)).mono (frz_le σ w v))
  have hnd := h.nodup
  refine ⟨⟨fun b o hb => ?_, h.frame, h.os, h.out, i1, fun b o hb => ?_, ?_, fun b hb => ?_⟩, hv⟩
  · simp only [frz] at hb
    split at hb
    · rename_i o' ho
      cases hb
      exact h.agree b o ho
    · split at hb
      · exact hb
      · cases hb
  · simp only [frz] at hb
    split at hb
    · rename_i o' ho
      exact h.sep b o' ho
    · split at hb
      · rename_i hbv
        exact (hap b hbv).2
      · cases hb
  · rw [i2]
    exact hnd.sublist ((List.sublist_cons_self _ _).filterMap _)
  · rw [i2] at hb
    have h1 := h.apart b ((List.sublist_cons_self _ _).filterMap _ |>.subset hb)
    refine ⟨?_, h1.2⟩
    simp only [frz, h1.1]
    rw [if_neg]
    intro hbv
    have e : ((v, OB.row E sz es) :: L).filterMap (blk ∘ Prod.fst) = b :: L.filterMap (blk ∘ Prod.fst) := by simp [hbv]
    rw [e] at hnd
    exact (List.nodup_cons.1 hnd).1 hb
theorem HRel.freezeKeep {σ : Hp} {L : Own} {F : Fr} {w : World} {v : Value} {E sz : Nat} {es : List (List AV)} (h : HRel σ ((v, .row E sz es) :: L) F w) :
    HRel (frz σ w v) L F w ∧ VR (frz σ w v) (.im sz es) v := by
  have h0 := (h.sub (M := [(v, .row E sz es)]) (by simp)).freeze (M := []) trivial
  have hown := h.own (v, .row E sz es) (by simp)
  have hnd := h.nodup
  refine ⟨⟨h0.1.agree, h.frame, h.os, h.out, fun p hp => (h.own p (List.mem_cons_of_mem _ hp)).mono (frz_le σ w v), h0.1.sep, hnd.sublist ((List.sublist_cons_self _ _).filterMap _), fun b hb => ?_⟩, h0.2⟩
  have h1 := h.apart b ((List.sublist_cons_self _ _).filterMap _ |>.subset hb)
  refine ⟨?_, h1.2⟩
  simp only [frz, h1.1]
  rw [if_neg]
  intro hbv
  have e : ((v, OB.row E sz es) :: L).filterMap (blk ∘ Prod.fst) = b :: L.filterMap (blk ∘ Prod.fst) := by simp [hbv]
  rw [e] at hnd
  exact (List.nodup_cons.1 hnd).1 hb
theorem Turn.freeze (i : Nat) {L : Own} {v : Value} {E sz : Nat} {es : List (List AV)} {x y : AV} (hL : L[i]? = some (v, .row E sz es)) (hz : FZ v sz es x y) : Turn x L y (L.eraseIdx i) := fun τ F w u a b => by
  obtain ⟨h1, h2⟩ := (a.at hL).freezeKeep
  exact ⟨_, frz_le τ w v, h1, hz _ u h2 (b.mono (frz_le τ w v))⟩
theorem Turn.none {x : AV} (L : Own) : Turn x L x [] := .of (Sub.refl x) (OSub.none L)
theorem finF (i : Nat) {rs : List ResultVar} {R : AV → Own → Prop} {e : Exit} {st : St} {L : Own} {v : Value} {E sz : Nat} {es : List (List AV)} {x y : AV} (he : e = .normal ∨ e = .ret) (hx : resA st rs = some x) (hL : L[i]? = some (v, .row E sz es)) (hz : FZ v sz es x y) (hr : R y []) : FinP rs R e st L :=
  finT he hx ((Turn.freeze i hL hz).trans (Turn.none _)) hr
def FZS (v : Value) (sz : Nat) (es : List (List AV)) (st st' : St) : Prop := ∀ i, FZ v sz es (st i) (st' i)
def Pure (P : Program) (f : FuncId) (args : List AV) (x : AV) : Prop := ACalls P f args [] fun y L => y = x ∧ L = []
def Gives (P : Program) (f : FuncId) (args : List AV) (E sz : Nat) (es : List (List AV)) : Prop := ACalls P f args [] fun y L => ∃ v, y = .lit v ∧ L = [(v, .row E sz es)]
theorem ACalls.weaken {P : Program} {f : FuncId} {args : List AV} {L : Own} {R R' : AV → Own → Prop} (h : ACalls P f args L R) (hr : ∀ x M, R x M → ∃ y M', R' y M' ∧ (∀ τ F w v, HRel τ M F w → VR τ x v → ∃ υ, Hp.le τ υ ∧ HRel υ M' F w ∧ VR υ y v)) : ACalls P f args L R' :=
  ⟨h.ok, fun σ F w vs a b => (h.out σ F w vs a b).mono fun e w' ⟨v, hv, τ, x, M, h1, h2, h3, h4⟩ => by
    obtain ⟨y, M', h5, h6⟩ := hr x M h4
    obtain ⟨υ, h7, h8, h9⟩ := h6 τ F w' v h2 h3
    exact ⟨v, hv, υ, y, M', Hp.le_trans h1 h7, h8, h9, h5⟩⟩
theorem Gives.pure {P : Program} {f : FuncId} {args : List AV} {E sz : Nat} {es : List (List AV)} (h : Gives P f args E sz es) : Pure P f args (.im sz es) :=
  ACalls.weaken h fun x M ⟨v, hx, hM⟩ => ⟨_, _, ⟨rfl, rfl⟩, fun τ F w u hr hv => by
    subst hM
    rw [hx] at hv
    rw [hv.lit_inv]
    obtain ⟨h1, h2⟩ := hr.freeze (M := []) trivial
    exact ⟨_, frz_le τ w v, h1, h2⟩⟩
inductive Free : AV → Prop
  | any : Free .any
  | lit (v : Value) : Free (.lit v)
  | agg (l : List AV) : (∀ x ∈ l, Free x) → Free (.agg l)
  | tup (l : List AV) : (∀ x ∈ l, Free x) → Free (.tup l)
theorem Free.move {σ τ : Hp} {x : AV} (h : Free x) : ∀ {v : Value}, VR σ x v → VR τ x v := by
  induction h with
  | any => intro v _; exact .any v
  | lit u => intro v h; rw [h.lit_inv]; exact .lit u
  | agg l _ ih =>
    intro v h
    obtain ⟨vs, rfl, hl, hvs⟩ := h.agg_inv
    exact VR.agg_of ⟨hl, fun j x y hx hy => ih x (List.mem_of_getElem? hx) (hvs j x y hx hy)⟩
  | tup l _ ih =>
    intro v h
    obtain ⟨vs, rfl, hl, hvs⟩ := h.tup_inv
    exact VR.tup_of ⟨hl, fun j x y hx hy => ih x (List.mem_of_getElem? hx) (hvs j x y hx hy)⟩
def FreeO (L : Own) : Prop := ∀ p ∈ L, match p.2 with
  | .row _ _ es => ∀ e ∈ es, ∀ x ∈ e, Free x
  | .box c => ∀ x ∈ c, Free x
  | .mp _ => True
theorem free_vrs {σ τ : Hp} {l : List AV} {vs : List Value} (hf : ∀ x ∈ l, Free x) (h : VRs σ l vs) : VRs τ l vs := ⟨h.1, fun j x y hx hy => (hf x (List.mem_of_getElem? hx)).move (h.2 j x y hx hy)⟩
theorem own_free {σ τ : Hp} {w : World} {p : Value × OB} (hf : match p.2 with
  | .row _ _ es => ∀ e ∈ es, ∀ x ∈ e, Free x
  | .box c => ∀ x ∈ c, Free x
  | .mp _ => True) (h : Own1 σ w p) : Own1 τ w p := by
  obtain ⟨v, ob⟩ := p
  cases ob with
  | row E sz es =>
    obtain ⟨xs, h1, h2, h3⟩ := h
    exact ⟨xs, h1, h2, free_vrs (fun x hx => by obtain ⟨e, he, hxe⟩ := List.mem_flatten.1 hx; exact hf e he x hxe) h3⟩
  | box c =>
    obtain ⟨b, c0, E, h1, h2, h3⟩ := h
    exact ⟨b, c0, E, h1, h2, free_vrs hf h3⟩
  | mp m => exact h
end Go.Sj
namespace Go.Sj
def vI (xs : List Int) : Value := .agg (xs.map (Value.int .i64)).toArray
structure SE (P : Program) (T n : Nat) : Prop where
  eq : ∀ (xs ys : List Int), xs.length = n → ys.length = n → ∀ w, (Op.equal T (vI xs) (vI ys)).run P w = .ok (decide (xs = ys)) w
  guard : P.eqGuardType P.depth T = false
theorem se_one {P : Program} {w : World} {T : TypeId} {xs ys : List Int} {i : Nat} {f : Field} {fs : List Field} (hn : f.name ≠ "_") (ho : f.offset = i) (hu : P.underlying f.type = some (.int .i64)) (hx : i < xs.length) (hy : i < ys.length) :
    (Op.eqFields 9999 (xs.map (Value.int .i64)).toArray (ys.map (Value.int .i64)).toArray (f :: fs)).run P w =
      if xs[i]? = ys[i]? then (Op.eqFields 9999 (xs.map (Value.int .i64)).toArray (ys.map (Value.int .i64)).toArray fs).run P w else .ok false w := by
  subst ho
  have h1 : (isAgg f.type).run P w = .ok false w := by simp [isAgg, run_underlying hu]
  have p1 : ∀ (zs : List Int) (h : f.offset < zs.length), (part f.type (zs.map (Value.int .i64)).toArray f.offset).run P w = .ok (.int .i64 zs[f.offset]) w := by
    intro zs h
    simp [part, h1, h]
  simp only [Op.eqFields, if_pos hn, Sem.run_bind, p1 xs hx, p1 ys hy, Result.andThen_ok, run_equalIn_int w 9998 f.type .i64 .i64 _ _ hu, Sem.run_ite, Sem.run_pure, List.getElem?_eq_getElem hx, List.getElem?_eq_getElem hy, Option.some.injEq]
  by_cases h : xs[f.offset] = ys[f.offset]
  · simp [h]
  · simp [h]
def numF (P : Program) : Nat → List Field → Bool
  | _, [] => true
  | i, f :: fs => (f.name != "_") && f.offset == i && (match P.underlying f.type with | some (.int .i64) => true | _ => false) && numF P (i + 1) fs
theorem se_fields {P : Program} {w : World} {T : TypeId} {xs ys : List Int} : ∀ (fs : List Field) (i : Nat), numF P i fs = true → xs.length = i + fs.length → ys.length = i + fs.length →
    (Op.eqFields 9999 (xs.map (Value.int .i64)).toArray (ys.map (Value.int .i64)).toArray fs).run P w = .ok (decide (xs.drop i = ys.drop i)) w
  | [], i, h, hx, hy => by
    simp at hx hy
    rw [List.drop_of_length_le (by omega), List.drop_of_length_le (by omega)]
    simp [Op.eqFields]
  | f :: fs, i, h, hx, hy => by
    simp only [numF, Bool.and_eq_true, bne_iff_ne, ne_eq, beq_iff_eq] at h
    obtain ⟨⟨⟨h1, h2⟩, h3⟩, h4⟩ := h
    have hu : P.underlying f.type = some (.int .i64) := by
      split at h3
      · assumption
      · cases h3
    simp only [List.length_cons] at hx hy
    have ih := se_fields (P := P) (w := w) (T := T) (xs := xs) (ys := ys) fs (i + 1) h4 (by omega) (by omega)
    have hxi : i < xs.length := by omega
    have hyi : i < ys.length := by omega
    rw [se_one (T := T) h1 h2 hu hxi hyi, ih, List.getElem?_eq_getElem hxi, List.getElem?_eq_getElem hyi, List.drop_eq_getElem_cons hxi, List.drop_eq_getElem_cons hyi]
    by_cases e : xs[i] = ys[i]
    · rw [if_pos (by rw [e])]
      congr 1
      simp only [e, List.cons.injEq, true_and]
    · rw [if_neg (by simpa using e)]
      congr 1
      simp only [e, List.cons.injEq, false_and, decide_false]
theorem se_of {P : Program} {T n : Nat} {fs : Array Field} (hf : P.underlying T = some (.struct fs)) (hp : P.stoodInHeld T = false) (hn : numF P 0 fs.toList = true) (hl : fs.size = n) (hg : P.eqGuardType P.depth T = false) : SE P T n :=
  ⟨fun xs ys hx hy w => by
    have hfo : P.fieldsOf T = fs := by simp [Program.fieldsOf, hf]
    simp only [Op.equal, Op.maxDepth, vI]
    rw [run_equalIn_struct w 9999 T _ _ (by rw [hfo]; exact hf) hp, hfo]
    have := se_fields (P := P) (w := w) (T := T) (xs := xs) (ys := ys) fs.toList 0 hn (by simp [hx, hl]) (by simp [hy, hl])
    simpa using this, hg⟩
section
variable {P : Program} {N : Nat} {ops : List Oper} {Q : St → Own → Prop} {L : Own} {rest : List (Oper × Kd)} {l : List (Nat × AV)} {k : Kd} {q : Nat}
def cIs (xs : List Int) : List AV := xs.map fun x => .lit (.int .i64 x)
theorem VR.aggI {σ : Hp} {xs : List Int} {v : Value} (h : VR σ (.agg (cIs xs)) v) : v = vI xs := by
  obtain ⟨vs, rfl, hl, hv⟩ := h.agg_inv
  have : vs = xs.map (Value.int .i64) := by
    apply List.ext_getElem?
    intro i
    by_cases hi : i < xs.length
    · have h1 : (cIs xs)[i]? = some (.lit (.int .i64 xs[i])) := by simp [cIs, hi]
      have hi' : i < vs.length := by rw [hl]; simp [cIs, hi]
      have h2 := hv i _ _ h1 (List.getElem?_eq_getElem hi')
      rw [List.getElem?_eq_getElem hi', h2.lit_inv]
      simp [hi]
    · have e1 : vs[i]? = none := by simp [hl, cIs]; omega
      have e2 : (xs.map (Value.int .i64))[i]? = none := by simp; omega
      rw [e1, e2]
  rw [this]; rfl
theorem s_seq {n T T' : Nat} (hse : SE P T n) {o : Oper} {x y : Operand} {xs ys : List Int} {b : Bool} (ho : o.op = .binOp .eql T x y T') (hdst : o.dst = some q) (hd : Nat.blt q N = true) (hg : guardA ops o (lk l) = some true)
    (hx : ev (lk l) x = .agg (cIs xs)) (hy : ev (lk l) y = .agg (cIs ys)) (hxl : xs.length = n) (hyl : ys.length = n) (hb : decide (xs = ys) = b)
    (nx : AL P N ops Q rest (lk ((q, .lit (.bool b)) :: l)) L) : AL P N ops Q ((o, k) :: rest) (lk l) L := by
  obtain ⟨dst, op', ty, pos, after, g⟩ := o
  simp only at ho
  subst ho
  refine s_pure hdst hd hg ⟨fun σ F w ρ hR hρ => ⟨.bool b, ?_, .lit _⟩⟩ nx
  have e1 := hρ x (by simp [Op.operands])
  have e2 := hρ y (by simp [Op.operands])
  rw [hx] at e1
  rw [hy] at e2
  have h1 := e1.aggI
  have h2 := e2.aggI
  have hq := hse.eq xs ys hxl hyl w
  simp only [vI] at h1 h2 hq
  simp only [execOp, h1, h2, Sem.run_bind, run_eqGuard_agg w .eql T x y _ _ hse.guard, Result.andThen_ok, binOp, hq, hb, Sem.run_pure]
theorem s_sne {n T T' : Nat} (hse : SE P T n) {o : Oper} {x y : Operand} {xs ys : List Int} {b : Bool} (ho : o.op = .binOp .neq T x y T') (hdst : o.dst = some q) (hd : Nat.blt q N = true) (hg : guardA ops o (lk l) = some true)
    (hx : ev (lk l) x = .agg (cIs xs)) (hy : ev (lk l) y = .agg (cIs ys)) (hxl : xs.length = n) (hyl : ys.length = n) (hb : (!decide (xs = ys)) = b)
    (nx : AL P N ops Q rest (lk ((q, .lit (.bool b)) :: l)) L) : AL P N ops Q ((o, k) :: rest) (lk l) L := by
  obtain ⟨dst, op', ty, pos, after, g⟩ := o
  simp only at ho
  subst ho
  refine s_pure hdst hd hg ⟨fun σ F w ρ hR hρ => ⟨.bool b, ?_, .lit _⟩⟩ nx
  have e1 := hρ x (by simp [Op.operands])
  have e2 := hρ y (by simp [Op.operands])
  rw [hx] at e1
  rw [hy] at e2
  have h1 := e1.aggI
  have h2 := e2.aggI
  have hq := hse.eq xs ys hxl hyl w
  simp only [vI] at h1 h2 hq
  simp only [execOp, h1, h2, Sem.run_bind, run_eqGuard_agg w .neq T x y _ _ hse.guard, Result.andThen_ok, binOp, hq, hb, Sem.run_pure]
theorem s_appendZ {tt : List (TypeId × TD)} (ok : TOK P tt) {o : Oper} {T : TypeId} {x y : Operand} {E s1 b1 : Nat} {z1 : List Value} {d : TD} {sz : Nat} {es2 : List (List AV)} (ho : o.op = .call ⟨.builtin .append, #[x, y], #[T, T]⟩) (hdst : o.dst = some q) (hd : Nat.blt q N = true) (hg : guardA ops o (lk l) = some true)
    (hT : lkT tt T = some ⟨.slice E, s1, b1, z1⟩) (hE : lkT tt E = some d) (hpos : 0 < d.size) (hx : Sub (ev (lk l) x) .z0) (hs : sz = d.size) (hy : ev (lk l) y = .im sz es2)
    (hcell : es2.all (fun e => e.all AV.cell) = true) (hlen : es2.length ≤ 140737488355328) (hby : es2.length * d.bytes ≤ 140737488355328)
    (nx : ∀ v', AL P N ops Q rest (lk ((q, .lit v') :: l)) ((v', .row E sz es2) :: L)) : AL P N ops Q ((o, .eff) :: rest) (lk l) L := by
  obtain ⟨dst, op', ty, pos, after, g⟩ := o
  simp only at ho
  subst ho
  refine s_eff (fun x M => ∃ v', x = .lit v' ∧ M = (v', .row E sz es2) :: L) hdst hd hg ⟨fun σ F w ρ hR hρ => ?_⟩ (fun x M ⟨p, e1, e2⟩ => by rw [e1, e2]; exact nx p)
  have e1 := hx σ _ (hρ x (by simp [Op.operands, Call.operands]))
  have e2 := hρ y (by simp [Op.operands, Call.operands])
  rw [hy] at e2
  generalize hv : ρ x = v at e1
  cases e1 with
  | z0 a =>
    have hR2 := hR.nil E sz a
    have hu := (ok _ _ hT).slice rfl
    obtain ⟨v', w', hr, hown, h1, h2, h3, h4, h5⟩ := own_append (P := P) (ty := ty) (hR2.own1 (i := 0) rfl) (SrcA.im hR.agree e2) hu (ok _ _ hE) hs hpos hcell (by simp only [maxLen, List.length_nil]; omega) (by simpa using hby)
    have hrun : (execOp ρ ⟨dst, .call ⟨.builtin .append, #[x, y], #[T, T]⟩, ty, pos, after, g⟩).run P w = .ok (.value v') w' := by
      simp [execOp, resolve, invoke, builtin, hv, hr]
    rw [hrun]
    exact ⟨σ, _, _, σ.le_refl, hR2.writeAt (i := 0) rfl h1 h2 h3 h4 h5 hown, .lit _, _, rfl, by simp⟩
theorem Sub.z0nil : Sub (.lit (.slice none 0 0)) .z0 := fun _ v h => by rw [h.lit_inv]; exact .z0 _
theorem eqNil_run {P : Program} {T e : TypeId} (h : P.underlying T = some (.slice e)) (a : Option Addr) (n c : Nat) (w : World) : (Op.equal T (.slice a n c) (.slice none 0 0)).run P w = .ok a.isNone w := by
  have := run_equal_slice_nil (P := P) w T e a n c h
  exact this
theorem s_eqNil {tt : List (TypeId × TD)} (ok : TOK P tt) {o : Oper} {T T' : TypeId} {x : Operand} {E s1 b1 : Nat} {z1 : List Value} {sz : Nat} {es : List (List AV)}
    (ho : o.op = .binOp .eql T x (.const (.slice none 0 0)) T') (hdst : o.dst = some q) (hd : Nat.blt q N = true) (hg : guardA ops o (lk l) = some true) (hT : lkT tt T = some ⟨.slice E, s1, b1, z1⟩) (hx : ev (lk l) x = .im sz es)
    (n0 : es = [] → AL P N ops Q rest (lk ((q, .lit (.bool true)) :: l)) L) (n1 : AL P N ops Q rest (lk ((q, .lit (.bool false)) :: l)) L) : AL P N ops Q ((o, .eff) :: rest) (lk l) L := by
  obtain ⟨dst, op', ty, pos, after, g⟩ := o
  simp only at ho
  subst ho
  refine s_eff (fun y M => M = L ∧ ((y = .lit (.bool true) ∧ es = []) ∨ y = .lit (.bool false))) hdst hd hg ⟨fun σ F w ρ hR hρ => ?_⟩ (fun y M ⟨e, h⟩ => by
    subst e
    rcases h with ⟨rfl, he⟩ | rfl
    · exact n0 he
    · exact n1)
  have h1 := hρ x (by simp [Op.operands])
  have h2 := hρ (.const (.slice none 0 0)) (by simp [Op.operands])
  rw [hx] at h1
  have h2' : ρ (.const (.slice none 0 0)) = .slice none 0 0 := h2.lit_inv
  have hu := (ok _ _ hT).slice rfl
  obtain ⟨a, cap, hv, _⟩ := VR.im_len h1
  have hrun : (execOp ρ ⟨dst, .binOp .eql T x (.const (.slice none 0 0)) T', ty, pos, after, g⟩).run P w = .ok (.value (.bool a.isNone)) w := by
    simp [execOp, hv, h2', eqGuard, binOp, eqNil_run hu]
  rw [hrun]
  refine ⟨σ, _, L, σ.le_refl, hR, .lit _, rfl, ?_⟩
  cases a with
  | some a => exact .inr rfl
  | none =>
    refine .inl ⟨rfl, ?_⟩
    rw [hv] at h1
    cases es with
    | nil => rfl
    | cons e es => cases h1
end
end Go.Sj
namespace Go.Sj
section
variable {P : Program} {N : Nat} {ops : List Oper} {Q : St → Own → Prop} {L : Own} {rest : List (Oper × Kd)} {l : List (Nat × AV)} {q : Nat}
theorem s_callP {o : Oper} {x : Operand} {args : List Operand} {tys : Array TypeId} {f : FuncId} {first caps as : List AV} {y : AV} (ho : o.op = .call ⟨.value x, args.toArray, tys⟩) (hdst : o.dst = some q) (hd : Nat.blt q N = true) (hg : guardA ops o (lk l) = some true)
    (hx : ev (lk l) x = .fn (.func f) first caps) (hc : Pure P f as y) (has : SubL (first ++ args.map (ev (lk l)) ++ caps) as) (n : AL P N ops Q rest (lk ((q, y) :: l)) L) : AL P N ops Q ((o, .eff) :: rest) (lk l) L :=
  zsc (Lc := []) (Lr := L) ho hdst hd hg hx hc has (List.Perm.refl _) (fun z M ⟨h1, h2⟩ => by subst h1; subst h2; exact n)
theorem s_callG {o : Oper} {x : Operand} {args : List Operand} {tys : Array TypeId} {f : FuncId} {first caps as : List AV} {E sz : Nat} {es : List (List AV)} (ho : o.op = .call ⟨.value x, args.toArray, tys⟩) (hdst : o.dst = some q) (hd : Nat.blt q N = true) (hg : guardA ops o (lk l) = some true)
    (hx : ev (lk l) x = .fn (.func f) first caps) (hc : Gives P f as E sz es) (has : SubL (first ++ args.map (ev (lk l)) ++ caps) as) (n : ∀ v, AL P N ops Q rest (lk ((q, .lit v) :: l)) ((v, .row E sz es) :: L)) : AL P N ops Q ((o, .eff) :: rest) (lk l) L :=
  zsc (Lc := []) (Lr := L) ho hdst hd hg hx hc has (List.Perm.refl _) (fun z M ⟨v, h1, h2⟩ => by subst h1; subst h2; exact n v)
theorem s_callO (i : Nat) {o : Oper} {x : Operand} {args : List Operand} {tys : Array TypeId} {f : FuncId} {first caps as : List AV} {p : Value × OB} {R : AV → Own → Prop} (ho : o.op = .call ⟨.value x, args.toArray, tys⟩) (hdst : o.dst = some q) (hd : Nat.blt q N = true) (hg : guardA ops o (lk l) = some true)
    (hx : ev (lk l) x = .fn (.func f) first caps) (hL : L[i]? = some p) (hc : ACalls P f as [p] R) (has : SubL (first ++ args.map (ev (lk l)) ++ caps) as) (n : ∀ y M, R y M → AL P N ops Q rest (lk ((q, y) :: l)) (M ++ L.eraseIdx i)) : AL P N ops Q ((o, .eff) :: rest) (lk l) L :=
  zsc (Lc := [p]) (Lr := L.eraseIdx i) ho hdst hd hg hx hc has (own_perm hL).symm n
theorem s_build1 {tt : List (TypeId × TD)} (ok : TOK P tt) {o : Oper} {T : TypeId} {y : Operand} {E s1 b1 : Nat} {z1 : List Value} {kd : TK} {b : Nat} {z : List Value} {u : Value} (ho : o.op = .buildSlice T 1 #[(0, y)]) (hdst : o.dst = some q) (hd : Nat.blt q N = true) (hg : guardA ops o (lk l) = some true)
    (hT : lkT tt T = some ⟨.slice E, s1, b1, z1⟩) (hE : lkT tt E = some ⟨kd, 1, b, z⟩) (hy : ev (lk l) y = .lit u) (hu : u.oneCell' = true)
    (nx : ∀ v, AL P N ops Q rest (lk ((q, .lit v) :: l)) ((v, .row E 1 [[.lit u]]) :: L)) : AL P N ops Q ((o, .eff) :: rest) (lk l) L :=
  s_build ok (parts := [(0, y)]) ho hdst hd hg hT hE (es := [[.lit u]]) (by simp [bsEs, hy, AV.cells, AV.whole, AV.cell, hu]) rfl (by simp) (by omega) nx
theorem s_build1M {tt : List (TypeId × TD)} (ok : TOK P tt) {o : Oper} {T : TypeId} {y : Operand} {E s1 b1 : Nat} {z1 : List Value} {kd : TK} {b : Nat} {z : List Value} {sz : Nat} {es : List (List AV)} (ho : o.op = .buildSlice T 1 #[(0, y)]) (hdst : o.dst = some q) (hd : Nat.blt q N = true) (hg : guardA ops o (lk l) = some true)
    (hT : lkT tt T = some ⟨.slice E, s1, b1, z1⟩) (hE : lkT tt E = some ⟨kd, 1, b, z⟩) (hy : ev (lk l) y = .im sz es)
    (nx : ∀ v, AL P N ops Q rest (lk ((q, .lit v) :: l)) ((v, .row E 1 [[.im sz es]]) :: L)) : AL P N ops Q ((o, .eff) :: rest) (lk l) L :=
  s_build ok (parts := [(0, y)]) ho hdst hd hg hT hE (es := [[.im sz es]]) (by simp [bsEs, hy, AV.cells, AV.whole, AV.cell]) rfl (by simp) (by omega) nx
theorem zba {tt : List (TypeId × TD)} (ok : TOK P tt) {o : Oper} {T : TypeId} {y : Operand} {E s1 b1 : Nat} {z1 : List Value} {kd : TK} {n b : Nat} {z : List Value} {c : List AV} (ho : o.op = .buildSlice T 1 #[(0, y)]) (hdst : o.dst = some q) (hd : Nat.blt q N = true) (hg : guardA ops o (lk l) = some true)
    (hT : lkT tt T = some ⟨.slice E, s1, b1, z1⟩) (hE : lkT tt E = some ⟨kd, n, b, z⟩) (hy : ev (lk l) y = .agg c) (hc : c.length = n) (hn : n ≤ 65536)
    (nx : ∀ v, AL P N ops Q rest (lk ((q, .lit v) :: l)) ((v, .row E n [c]) :: L)) : AL P N ops Q ((o, .eff) :: rest) (lk l) L :=
  s_build ok (parts := [(0, y)]) ho hdst hd hg hT hE (es := [c]) (by simp [bsEs, hy, AV.cells, AV.whole, hc]) rfl (by simp; omega) (by omega) nx
theorem s_append1 {tt : List (TypeId × TD)} (ok : TOK P tt) (i : Nat) {o : Oper} {T : TypeId} {x y : Operand} {E s1 b1 : Nat} {z1 : List Value} {kd : TK} {sz b : Nat} {z : List Value} {v u : Value} {es : List (List AV)} {c : List AV} (ho : o.op = .call ⟨.builtin .append, #[x, y], #[T, T]⟩) (hdst : o.dst = some q) (hd : Nat.blt q N = true) (hg : guardA ops o (lk l) = some true)
    (hT : lkT tt T = some ⟨.slice E, s1, b1, z1⟩) (hE : lkT tt E = some ⟨kd, sz, b, z⟩) (hpos : 0 < sz) (hx : ev (lk l) x = .lit v) (hL : L[i]? = some (v, .row E sz es)) (hy : ev (lk l) y = .lit u)
    (hcell : c.all AV.cell = true) (hlen : es.length < 140737488355328) (hby : (es.length + 1) * b ≤ 140737488355328)
    (nx : ∀ v', AL P N ops Q rest (lk ((q, .lit v') :: l)) (L.set i (v', .row E sz (es ++ [c])))) : AL P N ops Q ((o, .eff) :: rest) (lk l) ((u, .row E sz [c]) :: L) := by
  obtain ⟨dst, op', ty, pos, after, g⟩ := o
  simp only at ho
  subst ho
  refine s_eff (fun x M => ∃ v', x = .lit v' ∧ M = L.set i (v', .row E sz (es ++ [c]))) hdst hd hg ⟨fun σ F w ρ hR hρ => ?_⟩ (fun x M ⟨p, e1, e2⟩ => by rw [e1, e2]; exact nx p)
  have e1 := hρ x (by simp [Op.operands, Call.operands])
  have e2 := hρ y (by simp [Op.operands, Call.operands])
  rw [hx] at e1
  rw [hy] at e2
  have hu := (ok _ _ hT).slice rfl
  have hL' : ((u, OB.row E sz [c]) :: L)[i + 1]? = some (v, .row E sz es) := by simpa using hL
  have hsrc : SrcA σ w (ρ y) sz [c] := by rw [e2.lit_inv]; exact SrcA.own (hR.own1 (i := 0) rfl)
  obtain ⟨v', w', hr, hown, h1, h2, h3, h4, h5⟩ := own_append (P := P) (ty := ty) (hR.own1 hL') hsrc hu (ok _ _ hE) rfl hpos (by simpa using hcell) (by simp only [maxLen, List.length_cons, List.length_nil]; omega) (by simpa using hby)
  have hrun : (execOp ρ ⟨dst, .call ⟨.builtin .append, #[x, y], #[T, T]⟩, ty, pos, after, g⟩).run P w = .ok (.value v') w' := by
    simp [execOp, resolve, invoke, builtin, e1.lit_inv, hr]
  rw [hrun]
  refine ⟨σ, _, _, σ.le_refl, (hR.writeAt hL' h1 h2 h3 h4 h5 hown).sub ?_, .lit _, _, rfl, rfl⟩
  simp
end
theorem a_loop2 {P : Program} {N : Nat} {c : Code} {Q : Exit → St → Own → Prop} {st : St} {L : Own} {A B : Type} (sx : A → B → List (Nat × AV)) (lx : A → B → Own) (px : A → B → Prop) (m : A → B → Nat) (a0 : A) (b0 : B)
    (h0 : px a0 b0) (hs : SubS st (lk (sx a0 b0))) (hl : OSub (lx a0 b0) L)
    (round : ∀ a b, px a b → AWp P N c (thenA (fun st' L' => ∃ a' b', px a' b' ∧ m a' b' < m a b ∧ SubS st' (lk (sx a' b')) ∧ OSub (lx a' b') L') Q) (lk (sx a b)) (lx a b)) : AWp P N (.loop c) Q st L :=
  zlx (X := A × B) (fun x => sx x.1 x.2) (fun x => lx x.1 x.2) (fun x => px x.1 x.2) (fun x => m x.1 x.2) (a0, b0) h0 hs hl fun x hx =>
    (round x.1 x.2 hx).mono fun e st' L' h => by
      cases e with
      | normal => obtain ⟨a', b', h⟩ := h; exact ⟨(a', b'), h⟩
      | _ => exact h
theorem a_loop3 {P : Program} {N : Nat} {c : Code} {Q : Exit → St → Own → Prop} {st : St} {L : Own} {A B C : Type} (sx : A → B → C → List (Nat × AV)) (lx : A → B → C → Own) (px : A → B → C → Prop) (m : A → B → C → Nat) (a0 : A) (b0 : B) (c0 : C)
    (h0 : px a0 b0 c0) (hs : SubS st (lk (sx a0 b0 c0))) (hl : OSub (lx a0 b0 c0) L)
    (round : ∀ a b d, px a b d → AWp P N c (thenA (fun st' L' => ∃ a' b' c', px a' b' c' ∧ m a' b' c' < m a b d ∧ SubS st' (lk (sx a' b' c')) ∧ OSub (lx a' b' c') L') Q) (lk (sx a b d)) (lx a b d)) : AWp P N (.loop c) Q st L :=
  a_loop2 (A := A) (B := B × C) (fun a x => sx a x.1 x.2) (fun a x => lx a x.1 x.2) (fun a x => px a x.1 x.2) (fun a x => m a x.1 x.2) a0 (b0, c0) h0 hs hl fun a x hx =>
    (round a x.1 x.2 hx).mono fun e st' L' h => by
      cases e with
      | normal => obtain ⟨a', b', c', h⟩ := h; exact ⟨a', (b', c'), h⟩
      | _ => exact h
end Go.Sj
namespace Go.Sj
abbrev AI (n : Int) : AV := .lit (.int .i64 n)
abbrev AB (b : Bool) : AV := .lit (.bool b)
def cI (n : Int) : List AV := [AI n]
abbrev rowI (xs : List Int) : List (List AV) := xs.map cI
abbrev ints (xs : List Int) : AV := .im 1 (rowI xs)
theorem zmp {α : Type} {f : α → List AV} {xs : List α} {i : Nat} {x : α} (h : xs[i]? = some x) : (xs.map f)[i]? = some (f x) := by simp [h]
theorem rowI_cell (xs : List Int) : (rowI xs).all (fun e => e.all AV.cell) = true := by simp [cI, AV.cell, Value.oneCell']
section
variable {P : Program} {N : Nat} {ops : List Oper} {Q : St → Own → Prop} {L : Own} {rest : List (Oper × Kd)} {l : List (Nat × AV)} {k : Kd} {q : Nat}
theorem obSet_rowI {E j : Nat} {xs : List Int} {a : Int} (hj : j < xs.length) : obSet (.row E 1 (rowI xs)) j 0 [AI a] = .row E 1 (rowI (xs.set j a)) := by
  simp only [obSet, rowI, List.map_set]
  rw [show (xs.map cI).getD j [] = cI xs[j] from by simp [List.getD_eq_getElem?_getD, hj]]
  rfl
theorem s_storeI {tt : List (TypeId × TD)} (ok : TOK P tt) (i : Nat) {o : Oper} {T : TypeId} {x y : Operand} {d : TD} {v : Value} {E j : Nat} {xs : List Int} {a : Int}
    (ho : o.op = .store T x y) (hdst : o.dst = none) (hg : guardA ops o (lk l) = some true) (hT : lkT tt T = some d) (hd1 : d.size = 1) (hx : ev (lk l) x = .pt v 1 j 0) (hy : ev (lk l) y = AI a) (hL : L[i]? = some (v, .row E 1 (rowI xs))) (hj : j < xs.length)
    (n : AL P N ops Q rest (lk l) (L.set i (v, .row E 1 (rowI (xs.set j a))))) : AL P N ops Q ((o, .eff) :: rest) (lk l) L := by
  have hget : (rowI xs)[j]? = some (cI xs[j]) := zmp (List.getElem?_eq_getElem hj)
  refine s_store ok i ho hdst hg hT hx hy rfl (by rw [hd1]; rfl) (by omega) hL rfl (cells := cI xs[j]) (by simp only [obAt, hget]; rfl) (by simp [cI, AV.cells]) ?_
  rw [show AV.cells (AI a) = [AI a] from rfl, obSet_rowI hj]
  exact n
end
structure PK (P : Program) (tt : List (TypeId × TD)) : Prop where
  ok : TOK P tt
  mx : P.follows .mixedOrders = true
end Go.Sj
end
