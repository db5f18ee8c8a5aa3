/-
  Trees of numbers, and how their parts are met.
-/
import Derived.Test.YtebmopjobmjhmaaSjJ
namespace Go.Sj
set_option linter.unusedVariables false

abbrev AI (n : Int) : AV := .lit (.int .i64 n)
abbrev AB (b : Bool) : AV := .lit (.bool b)
abbrev Ierr (n : Int) : AV := .lit (.int .i64 n)
def cI (n : Int) : List AV := [AI n]
abbrev rowI (xs : List Int) : List (List AV) := xs.map cI
abbrev ints (xs : List Int) : AV := .im 1 (rowI xs)

theorem map_get {α : Type} {f : α → List AV} {xs : List α} {i : Nat} {x : α} (h : xs[i]? = some x) : (xs.map f)[i]? = some (f x) := by simp [h]
theorem rowI_cell (xs : List Int) : (rowI xs).all (fun e => e.all AV.cell) = true := by simp [cI, AV.cell, Value.oneCell']

section
variable {P : Program} {N : Nat} {ops : List Oper} {Q : St → Own → Prop} {L : Own} {rest : List (Oper × Kd)} {l : List (Nat × AV)} {k : Kd} {q : Nat}

/-- A number read out of an owned row of numbers. -/
theorem s_loadI {tt : List (TypeId × TD)} (ok : TOK P tt) (i : Nat) {o : Oper} {T : TypeId} {x : Operand} {d : TD} {v : Value} {E j : Nat} {xs : List Int} {a : Int}
    (ho : o.op = .load T x) (hdst : o.dst = some q) (hd : Nat.blt q N = true) (hg : guardA ops o (lk l) = some true) (hk : k ≠ .pure) (hT : lkT tt T = some d) (ha : d.isAgg = false) (hx : ev (lk l) x = .pt v 1 j 0) (hL : L[i]? = some (v, .row E 1 (rowI xs))) (hj : xs[j]? = some a)
    (n : AL P N ops Q rest (lk ((q, AI a) :: l)) L) : AL P N ops Q ((o, k) :: rest) (lk l) L :=
  s_ownLoad ok i ho hdst hd hg hk hT hx hL rfl (cells := [AI a]) (by simp only [obAt, map_get hj]; rfl) (by simp [partA, ha]) (by simp) n

theorem obSet_rowI {E j : Nat} {xs : List Int} {a : Int} (hj : j < xs.length) : obSet (.row E 1 (rowI xs)) j 0 [AI a] = .row E 1 (rowI (xs.set j a)) := by
  simp only [obSet, rowI, List.map_set]
  rw [show (xs.map cI).getD j [] = cI xs[j] from by simp [List.getD_eq_getElem?_getD, hj]]
  rfl

/-- A number stored into an owned row of numbers. -/
theorem s_storeI {tt : List (TypeId × TD)} (ok : TOK P tt) (i : Nat) {o : Oper} {T : TypeId} {x y : Operand} {d : TD} {v : Value} {E j : Nat} {xs : List Int} {a : Int}
    (ho : o.op = .store T x y) (hdst : o.dst = none) (hg : guardA ops o (lk l) = some true) (hT : lkT tt T = some d) (hd1 : d.size = 1) (hx : ev (lk l) x = .pt v 1 j 0) (hy : ev (lk l) y = AI a) (hL : L[i]? = some (v, .row E 1 (rowI xs))) (hj : j < xs.length)
    (n : AL P N ops Q rest (lk l) (L.set i (v, .row E 1 (rowI (xs.set j a))))) : AL P N ops Q ((o, .eff) :: rest) (lk l) L := by
  have hget : (rowI xs)[j]? = some (cI xs[j]) := map_get (List.getElem?_eq_getElem hj)
  refine s_store ok i ho hdst hg hT hx hy rfl (by rw [hd1]; rfl) (by omega) hL rfl (cells := cI xs[j]) (by simp only [obAt, hget]; rfl) (by simp [cI, AV.cells]) ?_
  rw [show AV.cells (AI a) = [AI a] from rfl, obSet_rowI hj]
  exact n
end

end Go.Sj
