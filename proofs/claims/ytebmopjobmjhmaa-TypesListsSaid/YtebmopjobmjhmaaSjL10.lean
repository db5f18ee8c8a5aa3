/-
  Remainders of numbers of either sign.
-/
import Derived.Test.YtebmopjobmjhmaaSjL9
namespace Go.Sj
set_option linter.unusedVariables false
set_option linter.unusedSimpArgs false
section
variable {P : Program} {N : Nat} {ops : List Oper} {Q : St → Own → Prop} {L : Own} {rest : List (Oper × Kd)} {l : List (Nat × AV)} {k : Kd} {q : Nat}

theorem s_remT {o : Oper} {T T' : TypeId} {x y : Operand} {kk : IntKind} {a b : Int} (ho : o.op = .binOp .rem T x y T') (hdst : o.dst = some q) (hd : Nat.blt q N = true) (hg : guardA ops o (lk l) = some true)
    (hx : ev (lk l) x = .lit (.int kk a)) (hy : ev (lk l) y = .lit (.int kk b)) (hb : 0 < b)
    (n : AL P N ops Q rest (lk ((q, .lit (.int kk (Int.tmod a b))) :: l)) L) : AL P N ops Q ((o, k) :: rest) (lk l) L := by
  obtain ⟨dst, op', ty, pos, after, g⟩ := o
  simp only at ho
  subst ho
  refine s_pure hdst hd hg ⟨fun σ F w ρ hR hρ => ⟨.int kk (Int.tmod a b), ?_, .lit _⟩⟩ n
  have h1 := hρ x (by simp [Op.operands])
  have h2 := hρ y (by simp [Op.operands])
  rw [hx] at h1
  rw [hy] at h2
  have hb0 : b ≠ 0 := by omega
  simp [execOp, h1.lit_inv, h2.lit_inv, eqGuard, binOp, Op.intDiv, hb0]
end
theorem tmod_rng {a b : Int} (hb : 0 < b) : -b < Int.tmod a b ∧ Int.tmod a b < b := ⟨by
  have := Int.lt_tmod_of_pos a hb
  omega, Int.tmod_lt_of_pos a hb⟩
theorem tmod_mod {a b : Int} : (Int.tmod a b + b) % b = a % b := by
  rw [Int.add_emod_right, Int.tmod_def, Int.sub_mul_emod_self_left]
end Go.Sj
