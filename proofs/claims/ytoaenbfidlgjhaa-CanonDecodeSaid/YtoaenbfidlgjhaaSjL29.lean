/-
  Values stored into owned boxes. No condition; nothing here names a program.
-/
import Derived.Test.YtoaenbfidlgjhaaSjQD
namespace Go.Sj
set_option linter.unusedVariables false
section
variable {P : Program} {N : Nat} {ops : List Oper} {Q : St → Own → Prop} {L : Own} {rest : List (Oper × Kd)} {l : List (Nat × AV)} {k : Kd} {q : Nat}
theorem s_storeB {tt : List (TypeId × TD)} (ok : TOK P tt) (i : Nat) {o : Oper} {T : TypeId} {x y : Operand} {d : TD} {v u : Value} {off : Nat} {cells cs : List AV}
    (ho : o.op = .store T x y) (hdst : o.dst = none) (hg : guardA ops o (lk l) = some true) (hT : lkT tt T = some d) (hd1 : d.size = 1) (hx : ev (lk l) x = .pt v 0 0 off) (hy : ev (lk l) y = .lit u) (hu : u.oneCell' = true) (hL : L[i]? = some (v, .box cells)) (hoff : off < cells.length) (hcs : cells.set off (.lit u) = cs)
    (n : AL P N ops Q rest (lk l) (L.set i (v, .box cs))) : AL P N ops Q ((o, .eff) :: rest) (lk l) L := by
  subst hcs
  refine s_store ok i ho hdst hg hT hx hy (by simpa [AV.storable, AV.cell] using hu) (by rw [hd1]; rfl) (by omega) hL rfl (cells := cells.drop off) rfl (by simp [AV.cells]; omega) ?_
  exact n
end
end Go.Sj
