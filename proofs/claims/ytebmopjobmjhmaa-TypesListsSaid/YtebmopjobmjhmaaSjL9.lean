/-
  A call of a function that the model stands in for: math/bits.Add64.
-/
import Derived.Test.YtebmopjobmjhmaaSjL8
import Derived.Laws.Externs
namespace Go.Sj
set_option linter.unusedVariables false
set_option linter.unusedSimpArgs false
section
variable {P : Program} {N : Nat} {ops : List Oper} {Q : St → Own → Prop} {L : Own} {rest : List (Oper × Kd)} {l : List (Nat × AV)} {k : Kd} {q : Nat}

theorem s_add64 {o : Oper} {x a b c : Operand} {tys : Array TypeId} {f : FuncId} {fn : Func} {A B C : Int} (ho : o.op = .call ⟨.value x, #[a, b, c], tys⟩) (hdst : o.dst = some q) (hd : Nat.blt q N = true) (hg : guardA ops o (lk l) = some true)
    (hx : ev (lk l) x = .fn (.func f) [] []) (hf : P.funcs[f]? = some fn) (hn : (fn.name == "runtime.NumGoroutine") = false) (hb : fn.body.isNone = true) (hnx : Extern.findNext fn = none) (he : Extern.find fn = some add64Entry)
    (ha : ev (lk l) a = .lit (.int .u64 A)) (hbb : ev (lk l) b = .lit (.int .u64 B)) (hc : ev (lk l) c = .lit (.int .u64 C)) (hA : 0 ≤ A) (hB : 0 ≤ B) (hC : 0 ≤ C ∧ C ≤ 1)
    (n : AL P N ops Q rest (lk ((q, .tup [.lit (.int .u64 ((A + B + C) % 18446744073709551616)), .lit (.int .u64 ((A + B + C) / 18446744073709551616))]) :: l)) L) : AL P N ops Q ((o, k) :: rest) (lk l) L := by
  obtain ⟨dst, op', ty, pos, after, g⟩ := o
  simp only at ho
  subst ho
  refine s_pure hdst hd hg ⟨fun σ F w ρ hR hρ => ⟨.tuple #[.int .u64 ((A + B + C) % 18446744073709551616), .int .u64 ((A + B + C) / 18446744073709551616)], ?_, ?_⟩⟩ n
  · have h0 := hρ x (by simp [Op.operands, Call.operands])
    have h1 := hρ a (by simp [Op.operands, Call.operands])
    have h2 := hρ b (by simp [Op.operands, Call.operands])
    have h3 := hρ c (by simp [Op.operands, Call.operands])
    rw [hx] at h0
    rw [ha] at h1
    rw [hbb] at h2
    rw [hc] at h3
    obtain ⟨vs, us, hv, hvs, hus⟩ := h0.fn_inv
    obtain rfl : vs = [] := List.length_eq_zero_iff.1 hvs.1
    obtain rfl : us = [] := List.length_eq_zero_iff.1 hus.1
    simp only [execOp, resolve, hv, Deferred.ofValue, Sem.run_bind, Sem.run_pure, Result.andThen_ok, invoke, List.map_toArray, List.map_cons, List.map_nil, h1.lit_inv, h2.lit_inv, h3.lit_inv]
    have e : #[] ++ #[Value.int .u64 A, .int .u64 B, .int .u64 C] ++ #[] = #[Value.int .u64 A, .int .u64 B, .int .u64 C] := rfl
    simp only [Array.empty_append, Array.append_empty, run_callFunc_extern hf hn hb hnx he, run_add64 A B C hA hB hC.1 hC.2, Result.andThen_ok]
  · exact .tup _ _ (fun j => if j = 0 then .int .u64 ((A + B + C) % 18446744073709551616) else .int .u64 ((A + B + C) / 18446744073709551616)) rfl (fun j y hy => by
      match j, hy with
      | 0, hy => rfl
      | 1, hy => rfl) (fun j y hy => by
      match j, hy with
      | 0, hy => cases hy; exact .lit _
      | 1, hy => cases hy; exact .lit _)
/-- A number, turned into one without a sign. -/
theorem s_convU {tt : List (TypeId × TD)} (ok : TOK P tt) {o : Oper} {S D : TypeId} {x : Operand} {a : Int} {s1 b1 s2 b2 : Nat} {z1 z2 : List Value} (ho : o.op = .convert S D x) (hdst : o.dst = some q) (hd : Nat.blt q N = true) (hg : guardA ops o (lk l) = some true)
    (hS : lkT tt S = some ⟨.int .i64, s1, b1, z1⟩) (hD : lkT tt D = some ⟨.int .u64, s2, b2, z2⟩) (hx : ev (lk l) x = .lit (.int .i64 a))
    (n : AL P N ops Q rest (lk ((q, .lit (.int .u64 (a % 18446744073709551616))) :: l)) L) : AL P N ops Q ((o, k) :: rest) (lk l) L := by
  obtain ⟨dst, op', ty, pos, after, g⟩ := o
  simp only at ho
  subst ho
  refine s_pure hdst hd hg ⟨fun σ F w ρ hR hρ => ⟨.int .u64 (a % 18446744073709551616), ?_, .lit _⟩⟩ n
  have h1 := hρ x (by simp [Op.operands])
  rw [hx] at h1
  have e1 := (ok _ _ hS).int rfl
  have e2 := (ok _ _ hD).int rfl
  have hw : IntKind.u64.wrap a = a % 18446744073709551616 := rfl
  simp [execOp, h1.lit_inv, convert, run_underlying e1, run_underlying e2, Conv.intToInt, hw]
/-- The sign of a number, by a shift. -/
theorem s_shr63 {o : Oper} {T T' : TypeId} {x y : Operand} {k2 : IntKind} {a : Int} (ho : o.op = .binOp .shr T x y T') (hdst : o.dst = some q) (hd : Nat.blt q N = true) (hg : guardA ops o (lk l) = some true)
    (hx : ev (lk l) x = .lit (.int .i64 a)) (hy : ev (lk l) y = .lit (.int k2 63))
    (n : AL P N ops Q rest (lk ((q, .lit (.int .i64 (a / 9223372036854775808))) :: l)) L) : AL P N ops Q ((o, k) :: rest) (lk l) L := by
  obtain ⟨dst, op', ty, pos, after, g⟩ := o
  simp only at ho
  subst ho
  refine s_pure hdst hd hg ⟨fun σ F w ρ hR hρ => ⟨.int .i64 (a / 9223372036854775808), ?_, .lit _⟩⟩ n
  have h1 := hρ x (by simp [Op.operands])
  have h2 := hρ y (by simp [Op.operands])
  rw [hx] at h1
  rw [hy] at h2
  have hb : a.fdiv (2 ^ (min 63 IntKind.i64.bits)) = a / 9223372036854775808 := by
    show a.fdiv (2 ^ 63) = _
    rw [Int.fdiv_eq_ediv_of_nonneg _ (by decide)]
    rfl
  simp [execOp, h1.lit_inv, h2.lit_inv, eqGuard, binOp, Op.shift, hb]
end
end Go.Sj
