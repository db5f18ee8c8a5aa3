/-
  An append whose result is known to be one cell. No condition; nothing here names a program.
-/
import Derived.Test.YtoaenbfidlgjhaaSjL29
namespace Go.Sj
set_option linter.unusedVariables false
section
variable {P : Program} {N : Nat} {ops : List Oper} {Q : St → Own → Prop} {L : Own} {rest : List (Oper × Kd)} {l : List (Nat × AV)} {k : Kd} {q : Nat}
theorem s_appendImK {tt : List (TypeId × TD)} (ok : TOK P tt) (i : Nat) {o : Oper} {T : TypeId} {x y : Operand} {E s1 b1 : Nat} {z1 : List Value} {d : TD} {sz : Nat} {v : Value} {es es2 : List (List AV)} (ho : o.op = .call ⟨.builtin .append, #[x, y], #[T, T]⟩) (hdst : o.dst = some q) (hd : Nat.blt q N = true) (hg : guardA ops o (lk l) = some true)
    (hT : lkT tt T = some ⟨.slice E, s1, b1, z1⟩) (hE : lkT tt E = some d) (hpos : 0 < d.size) (hx : ev (lk l) x = .lit v) (hL : L[i]? = some (v, .row E sz es)) (hs : sz = d.size) (hy : ev (lk l) y = .im sz es2)
    (hcell : es2.all (fun e => e.all AV.cell) = true) (hlen : es.length + es2.length ≤ 140737488355328) (hby : (es.length + es2.length) * d.bytes ≤ 140737488355328)
    (nx : ∀ v', v'.oneCell' = true → AL P N ops Q rest (lk ((q, .lit v') :: l)) (L.set i (v', .row E sz (es ++ es2)))) : AL P N ops Q ((o, .eff) :: rest) (lk l) L := by
  obtain ⟨dst, op', ty, pos, after, g⟩ := o
  simp only at ho
  subst ho
  refine s_eff (fun x M => ∃ v', x = .lit v' ∧ v'.oneCell' = true ∧ M = L.set i (v', .row E sz (es ++ es2))) hdst hd hg ⟨fun σ F w ρ hR hρ => ?_⟩ (fun x M ⟨p, e1, e3, e2⟩ => by rw [e1, e2]; exact nx p e3)
  have e1 := hρ x (by simp [Op.operands, Call.operands])
  have e2 := hρ y (by simp [Op.operands, Call.operands])
  rw [hx] at e1
  rw [hy] at e2
  have hu := (ok _ _ hT).slice rfl
  obtain ⟨v', w', hr, hown, h1, h2, h3, h4, h5⟩ := own_append (P := P) (ty := ty) (hR.own1 hL) (SrcA.im hR.agree e2) hu (ok _ _ hE) hs hpos hcell (by simp only [maxLen]; omega) hby
  have hrun : (execOp ρ ⟨dst, .call ⟨.builtin .append, #[x, y], #[T, T]⟩, ty, pos, after, g⟩).run P w = .ok (.value v') w' := by
    simp [execOp, resolve, invoke, builtin, e1.lit_inv, hr]
  rw [hrun]
  exact ⟨σ, _, _, σ.le_refl, hR.writeAt hL h1 h2 h3 h4 h5 hown, .lit _, _, rfl, own_row_cell hown, rfl⟩
theorem s_appendImQ {tt : List (TypeId × TD)} (ok : TOK P tt) (i : Nat) {o : Oper} {T : TypeId} {x y : Operand} {E s1 b1 : Nat} {z1 : List Value} {d : TD} {sz : Nat} {v : Value} {es es2 : List (List AV)} (ho : o.op = .call ⟨.builtin .append, #[x, y], #[T, T]⟩) (hdst : o.dst = some q) (hd : Nat.blt q N = true) (hg : guardA ops o (lk l) = some true)
    (hT : lkT tt T = some ⟨.slice E, s1, b1, z1⟩) (hE : lkT tt E = some d) (hpos : 0 < d.size) (hx : ev (lk l) x = .lit v) (hL : L[i]? = some (v, .row E sz es)) (hs : sz = d.size) (hy : ev (lk l) y = .im sz es2)
    (hcell : es2.all (fun e => e.all AV.cell) = true) (hlen : es.length + es2.length ≤ 140737488355328) (hby : (es.length + es2.length) * d.bytes ≤ 140737488355328)
    (nx : ∀ a m j, AL P N ops Q rest (lk ((q, .lit (.slice a m j)) :: l)) (L.set i (.slice a m j, .row E sz (es ++ es2)))) : AL P N ops Q ((o, .eff) :: rest) (lk l) L := by
  obtain ⟨dst, op', ty, pos, after, g⟩ := o
  simp only at ho
  subst ho
  refine s_eff (fun x M => ∃ a m j, x = .lit (.slice a m j) ∧ M = L.set i (.slice a m j, .row E sz (es ++ es2))) hdst hd hg ⟨fun σ F w ρ hR hρ => ?_⟩ (fun x M ⟨a, m, j, e1, e2⟩ => by rw [e1, e2]; exact nx a m j)
  have e1 := hρ x (by simp [Op.operands, Call.operands])
  have e2 := hρ y (by simp [Op.operands, Call.operands])
  rw [hx] at e1
  rw [hy] at e2
  have hu := (ok _ _ hT).slice rfl
  obtain ⟨v', w', hr, hown, h1, h2, h3, h4, h5⟩ := own_append (P := P) (ty := ty) (hR.own1 hL) (SrcA.im hR.agree e2) hu (ok _ _ hE) hs hpos hcell (by simp only [maxLen]; omega) hby
  have hrun : (execOp ρ ⟨dst, .call ⟨.builtin .append, #[x, y], #[T, T]⟩, ty, pos, after, g⟩).run P w = .ok (.value v') w' := by
    simp [execOp, resolve, invoke, builtin, e1.lit_inv, hr]
  rw [hrun]
  obtain ⟨a, cap, hv, _⟩ := own_row_val hown
  subst hv
  exact ⟨σ, _, _, σ.le_refl, hR.writeAt hL h1 h2 h3 h4 h5 hown, .lit _, _, _, _, rfl, rfl⟩
end
end Go.Sj
