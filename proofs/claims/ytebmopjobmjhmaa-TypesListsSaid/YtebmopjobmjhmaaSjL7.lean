/-
  Places in arrays.
-/
import Derived.Test.YtebmopjobmjhmaaSjL6
namespace Go.Sj
set_option linter.unusedVariables false
set_option linter.unusedSimpArgs false
section
variable {P : Program} {N : Nat} {ops : List Oper} {Q : St → Own → Prop} {L : Own} {rest : List (Oper × Kd)} {l : List (Nat × AV)} {k : Kd} {q : Nat}

/-- The place of an element of an array that lies in what is owned. -/
theorem s_arrPt {tt : List (TypeId × TD)} (ok : TOK P tt) {o : Oper} {T : TypeId} {x y : Operand} {E m s1 b1 : Nat} {z1 : List Value} {d : TD} {v : Value} {sz j off : Nat} {kk : IntKind} {i : Int} (ho : o.op = .indexAddr T x y) (hdst : o.dst = some q) (hd : Nat.blt q N = true) (hg : guardA ops o (lk l) = some true)
    (hT : lkT tt T = some ⟨.array m E, s1, b1, z1⟩) (hE : lkT tt E = some d) (hx : ev (lk l) x = .pt v sz j off) (hy : ev (lk l) y = .lit (.int kk i)) (h0 : 0 ≤ i) (h1 : i < m)
    (n : AL P N ops Q rest (lk ((q, .pt v sz j (off + i.toNat * d.size)) :: l)) L) : AL P N ops Q ((o, k) :: rest) (lk l) L := by
  obtain ⟨dst, op', ty, pos, after, g⟩ := o
  simp only at ho
  subst ho
  refine s_pure hdst hd hg ⟨fun σ F w ρ hR hρ => ?_⟩ n
  have e1 := hρ x (by simp [Op.operands])
  have e2 := hρ y (by simp [Op.operands])
  rw [hx] at e1
  rw [hy] at e2
  have hu := (ok _ _ hT).array rfl
  have hs := (ok _ _ hE).sizeOf_run
  generalize hv : ρ x = u at e1
  cases e1 with
  | pt _ _ _ _ b hb =>
    refine ⟨.pointer (some ⟨b, j * sz + (off + i.toNat * d.size), none⟩), ?_, .pt v sz j _ b hb⟩
    have hadd : (⟨b, j * sz + off, none⟩ : Addr).add (i.toNat * d.size) = ⟨b, j * sz + (off + i.toNat * d.size), none⟩ := by
      unfold Addr.add; split <;> simp_all [Nat.add_assoc]
    simp [execOp, hv, e2.lit_inv, Instr.indexAt, Instr.sureAddr, asIntOf, run_underlying hu, h0, h1, hs, hadd]
/-- The same where it does not change. -/
theorem s_arrIp {tt : List (TypeId × TD)} (ok : TOK P tt) {o : Oper} {T : TypeId} {x y : Operand} {E m s1 b1 : Nat} {z1 : List Value} {d : TD} {cells : List AV} {kk : IntKind} {i : Int} (ho : o.op = .indexAddr T x y) (hdst : o.dst = some q) (hd : Nat.blt q N = true) (hg : guardA ops o (lk l) = some true)
    (hT : lkT tt T = some ⟨.array m E, s1, b1, z1⟩) (hE : lkT tt E = some d) (hx : ev (lk l) x = .ip cells) (hy : ev (lk l) y = .lit (.int kk i)) (h0 : 0 ≤ i) (h1 : i < m)
    (n : AL P N ops Q rest (lk ((q, .ip (cells.drop (i.toNat * d.size))) :: l)) L) : AL P N ops Q ((o, k) :: rest) (lk l) L := by
  obtain ⟨dst, op', ty, pos, after, g⟩ := o
  simp only at ho
  subst ho
  refine s_pure hdst hd hg ⟨fun σ F w ρ hR hρ => ?_⟩ n
  have e1 := hρ x (by simp [Op.operands])
  have e2 := hρ y (by simp [Op.operands])
  rw [hx] at e1
  rw [hy] at e2
  have hu := (ok _ _ hT).array rfl
  have hs := (ok _ _ hE).sizeOf_run
  generalize hv : ρ x = u at e1
  cases e1 with
  | ip _ b off c E' fr f a1 a2 a3 =>
    refine ⟨.pointer (some ⟨b, off + i.toNat * d.size, none⟩), ?_, .ip _ b (off + i.toNat * d.size) c E' fr (fun j => f (i.toNat * d.size + j)) a1 (fun j y hy => ?_) (fun j y hy => ?_)⟩
    · have hadd : (⟨b, off, none⟩ : Addr).add (i.toNat * d.size) = ⟨b, off + i.toNat * d.size, none⟩ := by
        unfold Addr.add; split <;> simp_all
      simp [execOp, hv, e2.lit_inv, Instr.indexAt, Instr.sureAddr, asIntOf, run_underlying hu, h0, h1, hs, hadd]
    · rw [List.getElem?_drop] at hy
      rw [Nat.add_assoc]
      exact a2 _ y hy
    · rw [List.getElem?_drop] at hy
      exact a3 _ y hy
end
end Go.Sj
