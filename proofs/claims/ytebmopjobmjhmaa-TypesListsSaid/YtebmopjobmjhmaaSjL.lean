/-
  Appends whose result is known to be a slice: it may be a part of another row.
-/
import Derived.Test.YtebmopjobmjhmaaSjK
namespace Go.Sj
set_option linter.unusedVariables false
section
variable {P : Program} {N : Nat} {ops : List Oper} {Q : St → Own → Prop} {L : Own} {rest : List (Oper × Kd)} {l : List (Nat × AV)} {k : Kd} {q : Nat}

theorem own_row_cell {σ : Hp} {w : World} {v : Value} {E sz : Nat} {es : List (List AV)} (h : Own1 σ w (v, .row E sz es)) : v.oneCell' = true := by
  obtain ⟨a, cap, hv, _⟩ := own_row_val h
  rw [hv]; rfl

/-- Append of one element that was just laid; the new value is one cell. -/
theorem s_append1K {tt : List (TypeId × TD)} (ok : TOK P tt) (i : Nat) {o : Oper} {T : TypeId} {x y : Operand} {E s1 b1 : Nat} {z1 : List Value} {kd : TK} {sz b : Nat} {z : List Value} {v u : Value} {es : List (List AV)} {c : List AV} (ho : o.op = .call ⟨.builtin .append, #[x, y], #[T, T]⟩) (hdst : o.dst = some q) (hd : Nat.blt q N = true) (hg : guardA ops o (lk l) = some true)
    (hT : lkT tt T = some ⟨.slice E, s1, b1, z1⟩) (hE : lkT tt E = some ⟨kd, sz, b, z⟩) (hpos : 0 < sz) (hx : ev (lk l) x = .lit v) (hL : L[i]? = some (v, .row E sz es)) (hy : ev (lk l) y = .lit u)
    (hcell : c.all AV.cell = true) (hlen : es.length < 140737488355328) (hby : (es.length + 1) * b ≤ 140737488355328)
    (nx : ∀ v', v'.oneCell' = true → AL P N ops Q rest (lk ((q, .lit v') :: l)) (L.set i (v', .row E sz (es ++ [c])))) : AL P N ops Q ((o, .eff) :: rest) (lk l) ((u, .row E sz [c]) :: L) := by
  obtain ⟨dst, op', ty, pos, after, g⟩ := o
  simp only at ho
  subst ho
  refine s_eff (fun x M => ∃ v', x = .lit v' ∧ v'.oneCell' = true ∧ M = L.set i (v', .row E sz (es ++ [c]))) hdst hd hg ⟨fun σ F w ρ hR hρ => ?_⟩ (fun x M ⟨p, e1, e3, e2⟩ => by rw [e1, e2]; exact nx p e3)
  have e1 := hρ x (by simp [Op.operands, Call.operands])
  have e2 := hρ y (by simp [Op.operands, Call.operands])
  rw [hx] at e1
  rw [hy] at e2
  have hu := (ok _ _ hT).slice rfl
  have hL' : ((u, OB.row E sz [c]) :: L)[i + 1]? = some (v, .row E sz es) := by simpa using hL
  have hsrc : SrcA σ w (ρ y) sz [c] := by rw [e2.lit_inv]; exact SrcA.own (hR.own1 (i := 0) rfl)
  obtain ⟨v', w', hr, hown, h1, h2, h3, h4, h5⟩ := own_append (P := P) (ty := ty) (hR.own1 hL') hsrc hu (ok _ _ hE) rfl hpos (by simpa using hcell) (by simp only [maxLen, List.length_cons, List.length_nil]; omega) (by simpa using hby)
  have hrun : (execOp ρ ⟨dst, .call ⟨.builtin .append, #[x, y], #[T, T]⟩, ty, pos, after, g⟩).run P w = .ok (.value v') w' := by
    simp [execOp, resolve, invoke, builtin, e1.lit_inv, hr]
  rw [hrun]
  refine ⟨σ, _, _, σ.le_refl, (hR.writeAt hL' h1 h2 h3 h4 h5 hown).sub ?_, .lit _, _, rfl, own_row_cell hown, rfl⟩
  simp

theorem TI.boolD {t : TypeId} {d : TD} (h : TI P t d) (hk : d.kind = .bool) : P.underlying t = some .bool := by
  obtain ⟨x, hx, hk'⟩ := h.desc
  rw [hk] at hk'
  cases x <;> simp [kindOf] at hk'
  rw [hx]

/-- Two truth values. -/
theorem s_boolEq {tt : List (TypeId × TD)} (ok : TOK P tt) {o : Oper} {T T' : TypeId} {x y : Operand} {a b : Bool} {s1 b1 : Nat} {z1 : List Value} (ho : o.op = .binOp .eql T x y T') (hdst : o.dst = some q) (hd : Nat.blt q N = true) (hg : guardA ops o (lk l) = some true)
    (hT : lkT tt T = some ⟨.bool, s1, b1, z1⟩) (hx : ev (lk l) x = .lit (.bool a)) (hy : ev (lk l) y = .lit (.bool b))
    (n : AL P N ops Q rest (lk ((q, .lit (.bool (a == b))) :: l)) L) : AL P N ops Q ((o, k) :: rest) (lk l) L := by
  obtain ⟨dst, op', ty, pos, after, g⟩ := o
  simp only at ho
  subst ho
  refine s_pure hdst hd hg ⟨fun σ F w ρ hR hρ => ⟨.bool (a == b), ?_, .lit _⟩⟩ n
  have h1 := hρ x (by simp [Op.operands])
  have h2 := hρ y (by simp [Op.operands])
  rw [hx] at h1
  rw [hy] at h2
  have hu := TI.boolD (ok _ _ hT) rfl
  simp [execOp, h1.lit_inv, h2.lit_inv, eqGuard, binOp, run_equal_bool _ _ _ _ hu]
theorem s_boolNe {tt : List (TypeId × TD)} (ok : TOK P tt) {o : Oper} {T T' : TypeId} {x y : Operand} {a b : Bool} {s1 b1 : Nat} {z1 : List Value} (ho : o.op = .binOp .neq T x y T') (hdst : o.dst = some q) (hd : Nat.blt q N = true) (hg : guardA ops o (lk l) = some true)
    (hT : lkT tt T = some ⟨.bool, s1, b1, z1⟩) (hx : ev (lk l) x = .lit (.bool a)) (hy : ev (lk l) y = .lit (.bool b))
    (n : AL P N ops Q rest (lk ((q, .lit (.bool (!(a == b)))) :: l)) L) : AL P N ops Q ((o, k) :: rest) (lk l) L := by
  obtain ⟨dst, op', ty, pos, after, g⟩ := o
  simp only at ho
  subst ho
  refine s_pure hdst hd hg ⟨fun σ F w ρ hR hρ => ⟨.bool (!(a == b)), ?_, .lit _⟩⟩ n
  have h1 := hρ x (by simp [Op.operands])
  have h2 := hρ y (by simp [Op.operands])
  rw [hx] at h1
  rw [hy] at h2
  have hu := TI.boolD (ok _ _ hT) rfl
  simp [execOp, h1.lit_inv, h2.lit_inv, eqGuard, binOp, run_equal_bool _ _ _ _ hu]
end

/-- A callee that reads a row which never changes may be given an owned one. -/
theorem ACalls.give {P : Program} {f : FuncId} {args args' : List AV} {L M : Own} {v : Value} {E sz : Nat} {es : List (List AV)} {R : AV → Own → Prop} (h : ACalls P f args M R) (hM : FZO v sz es L M) (hz : FZL v sz es args' args) :
    ACalls P f args' ((v, .row E sz es) :: L) R :=
  ⟨h.ok, fun σ F w vs hr hvs => by
    obtain ⟨h1, h2⟩ := hr.freeze hM
    exact (h.out _ F w vs h1 (hz.vrs h2 (hvs.mono (frz_le σ w v)))).mono fun e w' ⟨u, he, τ, x, M', k1, k2, k3, k4⟩ => ⟨u, he, τ, x, M', Hp.le_trans (frz_le σ w v) k1, k2, k3, k4⟩⟩
theorem Pure.give {P : Program} {f : FuncId} {args args' : List AV} {v : Value} {E sz : Nat} {es : List (List AV)} {y : AV} (h : Pure P f args y) (hz : FZL v sz es args' args) :
    ACalls P f args' [(v, .row E sz es)] fun x L => x = y ∧ L = [] := ACalls.give h trivial hz
end Go.Sj
