/-
  New rows said in our own words; what is owned, in another order.
-/
import Derived.Test.YtoaenbfidlgjhaaSjQ8
namespace Go.Sj
set_option linter.unusedVariables false
section
variable {P : Program} {N : Nat} {ops : List Oper} {Q : St → Own → Prop} {L : Own} {rest : List (Oper × Kd)} {l : List (Nat × AV)} {q : Nat}
/-- 'make([]E, n, c)', its elements said in our own words. -/
theorem s_makeQ {tt : List (TypeId × TD)} (ok : TOK P tt) {o : Oper} {T : TypeId} {x y : Operand} {E s1 b1 : Nat} {z1 : List Value} {d : TD} {k1 k2 : IntKind} {n c : Int} {es : List (List AV)}
    (ho : o.op = .makeSlice T x y) (hdst : o.dst = some q) (hd : Nat.blt q N = true) (hg : guardA ops o (lk l) = some true) (hT : lkT tt T = some ⟨.slice E, s1, b1, z1⟩) (hE : lkT tt E = some d)
    (hx : ev (lk l) x = .lit (.int k1 n)) (hy : ev (lk l) y = .lit (.int k2 c)) (hr : List.replicate n.toNat (d.zero.map .lit) = es) (h0 : 0 ≤ n) (hnc : n ≤ c) (hb : (d.bytes : Int) * c ≤ 140737488355328) (h63 : c ≤ 140737488355328)
    (nx : ∀ a m j, AL P N ops Q rest (lk ((q, .lit (.slice a m j)) :: l)) ((.slice a m j, .row E d.size es) :: L)) : AL P N ops Q ((o, .eff) :: rest) (lk l) L := by
  subst hr
  obtain ⟨dst, op', ty, pos, after, g⟩ := o
  simp only at ho
  subst ho
  refine s_eff (fun x M => ∃ a m j, x = .lit (.slice a m j) ∧ M = (.slice a m j, .row E d.size (List.replicate n.toNat (d.zero.map .lit))) :: L) hdst hd hg ⟨fun σ F w ρ hR hρ => ?_⟩ (fun x M ⟨a, m, j, e1, e2⟩ => by rw [e1, e2]; exact nx a m j)
  have e1 := hρ x (by simp [Op.operands])
  have e2 := hρ y (by simp [Op.operands])
  rw [hx] at e1
  rw [hy] at e2
  obtain ⟨i, z, hi, his, hib, hz, hzz⟩ := (ok _ _ hE).get
  have hu := (ok _ _ hT).slice rfl
  have hr := run_make (P := P) w T E i z hu hi hz k1 k2 n c h0 hnc (by rw [hib]; omega) (by omega)
  have hrun : (execOp ρ ⟨dst, .makeSlice T x y, ty, pos, after, g⟩).run P w = .ok (.value (.slice (some ⟨w.heap.size, 0, none⟩) n.toNat c.toNat)) (w.alloc (.cells (madeCells z.cells (c.toNat * i.size)) E)) := by
    simp only [execOp, e1.lit_inv, e2.lit_inv, Sem.run_bind, hr, Result.andThen_ok, Sem.run_pure]
  rw [hrun, his]
  have hown := own_new (σ := σ) (w := w) (E := E) (sz := d.size) (n := n.toNat) (c := c.toNat) (cur := madeCells z.cells (c.toNat * d.size)) (es := List.replicate n.toNat (d.zero.map .lit)) (by simp) (by omega) (by simp only [maxLen]; omega) (size_madeCells _ _)
    (fun e he => by rw [(List.mem_replicate.1 he).2]; simpa using (ok _ _ hE).zlen) (made_rep hzz (ok _ _ hE).zlen (by omega))
  exact ⟨σ, _, _, σ.le_refl, hR.newRow hown, .lit _, _, _, _, rfl, rfl⟩
end
theorem perm3 {A : Type} (a b c : A) : List.Perm [a, b, c] [b, a, c] ∧ List.Perm [a, b, c] [a, c, b] ∧ List.Perm [a, b, c] [c, b, a] ∧ List.Perm [a, b, c] [b, c, a] ∧ List.Perm [a, b, c] [c, a, b] ∧ List.Perm [a, b, c] [a, b, c] := by
  refine ⟨.swap _ _ _, .cons _ (.swap _ _ _), ?_, ?_, ?_, .refl _⟩
  · exact (List.Perm.cons _ (.swap _ _ _)).trans ((List.Perm.swap _ _ _).trans (.cons _ (.swap _ _ _)))
  · exact (List.Perm.swap _ _ _).trans (.cons _ (.swap _ _ _))
  · exact (List.Perm.cons _ (.swap _ _ _)).trans (.swap _ _ _)
end Go.Sj
