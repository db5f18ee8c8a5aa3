/-
  Part J: calls in the forms that walks use.
  No condition; nothing here names a program.
-/
import Derived.Test.YtebmopjobmjhmaaSjI
namespace Go.Sj
set_option linter.unusedVariables false

section
variable {P : Program} {N : Nat} {ops : List Oper} {Q : St → Own → Prop} {L : Own} {rest : List (Oper × Kd)} {l : List (Nat × AV)} {q : Nat}

/-- A call that only looks and gives a tree. -/
theorem s_callP {o : Oper} {x : Operand} {args : List Operand} {tys : Array TypeId} {f : FuncId} {first caps as : List AV} {y : AV} (ho : o.op = .call ⟨.value x, args.toArray, tys⟩) (hdst : o.dst = some q) (hd : Nat.blt q N = true) (hg : guardA ops o (lk l) = some true)
    (hx : ev (lk l) x = .fn (.func f) first caps) (hc : Pure P f as y) (has : SubL (first ++ args.map (ev (lk l)) ++ caps) as) (n : AL P N ops Q rest (lk ((q, y) :: l)) L) : AL P N ops Q ((o, .eff) :: rest) (lk l) L :=
  s_call (Lc := []) (Lr := L) ho hdst hd hg hx hc has (List.Perm.refl _) (fun z M ⟨h1, h2⟩ => by subst h1; subst h2; exact n)

/-- A call that gives a row of its own. -/
theorem s_callG {o : Oper} {x : Operand} {args : List Operand} {tys : Array TypeId} {f : FuncId} {first caps as : List AV} {E sz : Nat} {es : List (List AV)} (ho : o.op = .call ⟨.value x, args.toArray, tys⟩) (hdst : o.dst = some q) (hd : Nat.blt q N = true) (hg : guardA ops o (lk l) = some true)
    (hx : ev (lk l) x = .fn (.func f) first caps) (hc : Gives P f as E sz es) (has : SubL (first ++ args.map (ev (lk l)) ++ caps) as) (n : ∀ v, AL P N ops Q rest (lk ((q, .lit v) :: l)) ((v, .row E sz es) :: L)) : AL P N ops Q ((o, .eff) :: rest) (lk l) L :=
  s_call (Lc := []) (Lr := L) ho hdst hd hg hx hc has (List.Perm.refl _) (fun z M ⟨v, h1, h2⟩ => by subst h1; subst h2; exact n v)

/-- A call that is handed what is owned at place i. -/
theorem s_callO (i : Nat) {o : Oper} {x : Operand} {args : List Operand} {tys : Array TypeId} {f : FuncId} {first caps as : List AV} {p : Value × OB} {R : AV → Own → Prop} (ho : o.op = .call ⟨.value x, args.toArray, tys⟩) (hdst : o.dst = some q) (hd : Nat.blt q N = true) (hg : guardA ops o (lk l) = some true)
    (hx : ev (lk l) x = .fn (.func f) first caps) (hL : L[i]? = some p) (hc : ACalls P f as [p] R) (has : SubL (first ++ args.map (ev (lk l)) ++ caps) as) (n : ∀ y M, R y M → AL P N ops Q rest (lk ((q, y) :: l)) (M ++ L.eraseIdx i)) : AL P N ops Q ((o, .eff) :: rest) (lk l) L :=
  s_call (Lc := [p]) (Lr := L.eraseIdx i) ho hdst hd hg hx hc has (own_perm hL).symm n
/-- A literal of one element. -/
theorem s_build1 {tt : List (TypeId × TD)} (ok : TOK P tt) {o : Oper} {T : TypeId} {y : Operand} {E s1 b1 : Nat} {z1 : List Value} {kd : TK} {b : Nat} {z : List Value} {u : Value} (ho : o.op = .buildSlice T 1 #[(0, y)]) (hdst : o.dst = some q) (hd : Nat.blt q N = true) (hg : guardA ops o (lk l) = some true)
    (hT : lkT tt T = some ⟨.slice E, s1, b1, z1⟩) (hE : lkT tt E = some ⟨kd, 1, b, z⟩) (hy : ev (lk l) y = .lit u) (hu : u.oneCell' = true)
    (nx : ∀ v, AL P N ops Q rest (lk ((q, .lit v) :: l)) ((v, .row E 1 [[.lit u]]) :: L)) : AL P N ops Q ((o, .eff) :: rest) (lk l) L :=
  s_build ok (parts := [(0, y)]) ho hdst hd hg hT hE (es := [[.lit u]]) (by simp [bsEs, hy, AV.cells, AV.whole, AV.cell, hu]) rfl (by simp) (by omega) nx
theorem s_build1M {tt : List (TypeId × TD)} (ok : TOK P tt) {o : Oper} {T : TypeId} {y : Operand} {E s1 b1 : Nat} {z1 : List Value} {kd : TK} {b : Nat} {z : List Value} {sz : Nat} {es : List (List AV)} (ho : o.op = .buildSlice T 1 #[(0, y)]) (hdst : o.dst = some q) (hd : Nat.blt q N = true) (hg : guardA ops o (lk l) = some true)
    (hT : lkT tt T = some ⟨.slice E, s1, b1, z1⟩) (hE : lkT tt E = some ⟨kd, 1, b, z⟩) (hy : ev (lk l) y = .im sz es)
    (nx : ∀ v, AL P N ops Q rest (lk ((q, .lit v) :: l)) ((v, .row E 1 [[.im sz es]]) :: L)) : AL P N ops Q ((o, .eff) :: rest) (lk l) L :=
  s_build ok (parts := [(0, y)]) ho hdst hd hg hT hE (es := [[.im sz es]]) (by simp [bsEs, hy, AV.cells, AV.whole, AV.cell]) rfl (by simp) (by omega) nx
theorem s_build1A {tt : List (TypeId × TD)} (ok : TOK P tt) {o : Oper} {T : TypeId} {y : Operand} {E s1 b1 : Nat} {z1 : List Value} {kd : TK} {n b : Nat} {z : List Value} {c : List AV} (ho : o.op = .buildSlice T 1 #[(0, y)]) (hdst : o.dst = some q) (hd : Nat.blt q N = true) (hg : guardA ops o (lk l) = some true)
    (hT : lkT tt T = some ⟨.slice E, s1, b1, z1⟩) (hE : lkT tt E = some ⟨kd, n, b, z⟩) (hy : ev (lk l) y = .agg c) (hc : c.length = n) (hn : n ≤ 65536)
    (nx : ∀ v, AL P N ops Q rest (lk ((q, .lit v) :: l)) ((v, .row E n [c]) :: L)) : AL P N ops Q ((o, .eff) :: rest) (lk l) L :=
  s_build ok (parts := [(0, y)]) ho hdst hd hg hT hE (es := [c]) (by simp [bsEs, hy, AV.cells, AV.whole, hc]) rfl (by simp; omega) (by omega) nx

/-- Append of one element that was just laid. -/
theorem s_append1 {tt : List (TypeId × TD)} (ok : TOK P tt) (i : Nat) {o : Oper} {T : TypeId} {x y : Operand} {E s1 b1 : Nat} {z1 : List Value} {kd : TK} {sz b : Nat} {z : List Value} {v u : Value} {es : List (List AV)} {c : List AV} (ho : o.op = .call ⟨.builtin .append, #[x, y], #[T, T]⟩) (hdst : o.dst = some q) (hd : Nat.blt q N = true) (hg : guardA ops o (lk l) = some true)
    (hT : lkT tt T = some ⟨.slice E, s1, b1, z1⟩) (hE : lkT tt E = some ⟨kd, sz, b, z⟩) (hpos : 0 < sz) (hx : ev (lk l) x = .lit v) (hL : L[i]? = some (v, .row E sz es)) (hy : ev (lk l) y = .lit u)
    (hcell : c.all AV.cell = true) (hlen : es.length < 140737488355328) (hby : (es.length + 1) * b ≤ 140737488355328)
    (nx : ∀ v', AL P N ops Q rest (lk ((q, .lit v') :: l)) (L.set i (v', .row E sz (es ++ [c])))) : AL P N ops Q ((o, .eff) :: rest) (lk l) ((u, .row E sz [c]) :: L) := by
  obtain ⟨dst, op', ty, pos, after, g⟩ := o
  simp only at ho
  subst ho
  refine s_eff (fun x M => ∃ v', x = .lit v' ∧ M = L.set i (v', .row E sz (es ++ [c]))) hdst hd hg ⟨fun σ F w ρ hR hρ => ?_⟩ (fun x M ⟨p, e1, e2⟩ => by rw [e1, e2]; exact nx p)
  have e1 := hρ x (by simp [Op.operands, Call.operands])
  have e2 := hρ y (by simp [Op.operands, Call.operands])
  rw [hx] at e1
  rw [hy] at e2
  have hu := (ok _ _ hT).slice rfl
  have hL' : ((u, OB.row E sz [c]) :: L)[i + 1]? = some (v, .row E sz es) := by simpa using hL
  have hsrc : SrcA σ w (ρ y) sz [c] := by rw [e2.lit_inv]; exact SrcA.own (hR.own1 (i := 0) rfl)
  obtain ⟨v', w', hr, hown, h1, h2, h3, h4, h5⟩ := own_append (P := P) (ty := ty) (hR.own1 hL') hsrc hu (ok _ _ hE) rfl hpos (by simpa using hcell) (by simp only [maxLen, List.length_cons, List.length_nil]; omega) (by simpa using hby)
  have hrun : (execOp ρ ⟨dst, .call ⟨.builtin .append, #[x, y], #[T, T]⟩, ty, pos, after, g⟩).run P w = .ok (.value v') w' := by
    simp [execOp, resolve, invoke, builtin, e1.lit_inv, hr]
  rw [hrun]
  refine ⟨σ, _, _, σ.le_refl, (hR.writeAt hL' h1 h2 h3 h4 h5 hown).sub ?_, .lit _, _, rfl, rfl⟩
  simp

end


/-- Loops whose state is a function of two, three or four data. -/
theorem a_loop2 {P : Program} {N : Nat} {c : Code} {Q : Exit → St → Own → Prop} {st : St} {L : Own} {A B : Type} (sx : A → B → List (Nat × AV)) (lx : A → B → Own) (px : A → B → Prop) (m : A → B → Nat) (a0 : A) (b0 : B)
    (h0 : px a0 b0) (hs : SubS st (lk (sx a0 b0))) (hl : OSub (lx a0 b0) L)
    (round : ∀ a b, px a b → AWp P N c (thenA (fun st' L' => ∃ a' b', px a' b' ∧ m a' b' < m a b ∧ SubS st' (lk (sx a' b')) ∧ OSub (lx a' b') L') Q) (lk (sx a b)) (lx a b)) : AWp P N (.loop c) Q st L :=
  a_loopX (X := A × B) (fun x => sx x.1 x.2) (fun x => lx x.1 x.2) (fun x => px x.1 x.2) (fun x => m x.1 x.2) (a0, b0) h0 hs hl fun x hx =>
    (round x.1 x.2 hx).mono fun e st' L' h => by
      cases e with
      | normal => obtain ⟨a', b', h⟩ := h; exact ⟨(a', b'), h⟩
      | _ => exact h
theorem a_loop3 {P : Program} {N : Nat} {c : Code} {Q : Exit → St → Own → Prop} {st : St} {L : Own} {A B C : Type} (sx : A → B → C → List (Nat × AV)) (lx : A → B → C → Own) (px : A → B → C → Prop) (m : A → B → C → Nat) (a0 : A) (b0 : B) (c0 : C)
    (h0 : px a0 b0 c0) (hs : SubS st (lk (sx a0 b0 c0))) (hl : OSub (lx a0 b0 c0) L)
    (round : ∀ a b d, px a b d → AWp P N c (thenA (fun st' L' => ∃ a' b' c', px a' b' c' ∧ m a' b' c' < m a b d ∧ SubS st' (lk (sx a' b' c')) ∧ OSub (lx a' b' c') L') Q) (lk (sx a b d)) (lx a b d)) : AWp P N (.loop c) Q st L :=
  a_loop2 (A := A) (B := B × C) (fun a x => sx a x.1 x.2) (fun a x => lx a x.1 x.2) (fun a x => px a x.1 x.2) (fun a x => m a x.1 x.2) a0 (b0, c0) h0 hs hl fun a x hx =>
    (round a x.1 x.2 hx).mono fun e st' L' h => by
      cases e with
      | normal => obtain ⟨a', b', c', h⟩ := h; exact ⟨a', (b', c'), h⟩
      | _ => exact h
theorem a_loop4 {P : Program} {N : Nat} {c : Code} {Q : Exit → St → Own → Prop} {st : St} {L : Own} {A B C D : Type} (sx : A → B → C → D → List (Nat × AV)) (lx : A → B → C → D → Own) (px : A → B → C → D → Prop) (m : A → B → C → D → Nat) (a0 : A) (b0 : B) (c0 : C) (d0 : D)
    (h0 : px a0 b0 c0 d0) (hs : SubS st (lk (sx a0 b0 c0 d0))) (hl : OSub (lx a0 b0 c0 d0) L)
    (round : ∀ a b d e, px a b d e → AWp P N c (thenA (fun st' L' => ∃ a' b' c' d', px a' b' c' d' ∧ m a' b' c' d' < m a b d e ∧ SubS st' (lk (sx a' b' c' d')) ∧ OSub (lx a' b' c' d') L') Q) (lk (sx a b d e)) (lx a b d e)) : AWp P N (.loop c) Q st L :=
  a_loop3 (A := A) (B := B) (C := C × D) (fun a b x => sx a b x.1 x.2) (fun a b x => lx a b x.1 x.2) (fun a b x => px a b x.1 x.2) (fun a b x => m a b x.1 x.2) a0 b0 (c0, d0) h0 hs hl fun a b x hx =>
    (round a b x.1 x.2 hx).mono fun e st' L' h => by
      cases e with
      | normal => obtain ⟨a', b', c', d', h⟩ := h; exact ⟨a', b', (c', d'), h⟩
      | _ => exact h

end Go.Sj
