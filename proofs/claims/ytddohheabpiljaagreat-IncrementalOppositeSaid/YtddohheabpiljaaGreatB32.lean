/-
  Parts of the proof of the law IncrementalOpposite (texts M36, Z17, L29): steps, plain mathematics, contracts of functions. Each theorem states its own conditions.
-/
import Derived.Test.YtddohheabpiljaaGreatB08
import Derived.Test.YtddohheabpiljaaGreatB09
import Derived.Test.YtddohheabpiljaaGreatB12
import Derived.Test.YtddohheabpiljaaGreatB15
import Derived.Test.YtddohheabpiljaaGreatB26
import Derived.Test.YtddohheabpiljaaGreatB27
section
/-
  Searches for matches: what the reference's search asks; partial matches that give nothing. Plain mathematics.
-/
namespace Go.Sj.Inc
open Go.Sj Go.Sj.Sta Go.Sj.Typ
set_option maxRecDepth 8000
set_option linter.unusedVariables false
set_option linter.unusedSimpArgs false

def noneL (n : Nat) : List Int := List.replicate n (-1)
end Go.Sj.Inc

end
section
/-
  One more node, one more edge: the walks of what succeeds. Conditions: graphs whose lists fit into memory.
-/
namespace Go.Proofs.YtddohheabpiljaaGreat
open Go.Sj Go.Sj.Typ Go.Sj.Sta
set_option maxRecDepth 8000
set_option linter.unusedVariables false
set_option linter.unusedSimpArgs false
set_option maxHeartbeats 8000000

theorem cI_cell (l : List Int) : (rowI l).all (fun e => e.all AV.cell) = true := List.all_eq_true.2 fun x hx => by
  obtain ⟨a, _, rfl⟩ := List.mem_map.1 hx; rfl
theorem cEd_cell (l : List Ed) : (l.map cEd).all (fun e => e.all AV.cell) = true := List.all_eq_true.2 fun x hx => by
  obtain ⟨a, _, rfl⟩ := List.mem_map.1 hx; rfl
theorem CloneN_spec (l : List Int) (hs : l.length ≤ 1099511627776) : Gives Tryz.prog 59 [ints l] 3 1 (rowI l) := by
  have ll : (rowI l).length = l.length := by simp
  refine a_enter Tryz.func59 (by kernel_rfl) rfl Tryz.ntmps59 rfl (by simp) ?_
  repeat (first | refine gA pk ?_)
  refine s_eqNil tok rfl rfl rfl rfl rfl rfl (fun h => ?_) ?_
  · repeat (first | refine gA pk ?_)
    refine fin (x := .lit _) (.inr rfl) rfl (Sub.refl _) ⟨_, rfl, rfl⟩ ?_
    rw [h]
    exact .free .nil
  · repeat (first | refine gA pk ?_ | (show AL _ _ _ _ _ _ _; first | refine s_build tok (parts := []) rfl rfl rfl rfl rfl rfl rfl rfl (by decide) (by decide) (fun v => ?_)))
    refine s_appendIm tok 0 rfl rfl rfl rfl rfl rfl (by decide) rfl rfl rfl rfl (cI_cell l) (by simp only [ll, List.length_nil]; omega) (by simp only [ll, List.length_nil]; omega) (fun v' => ?_)
    repeat (first | refine gA pk ?_)
    refine finR ?_
    exact ⟨_, rfl, rfl⟩
theorem CloneG_spec (l : List Ed) (hs : l.length ≤ 1099511627776) : Gives Tryz.prog 60 [edsA l] 85 3 (l.map cEd) := by
  have ll : (l.map cEd).length = l.length := by simp
  refine a_enter Tryz.func60 (by kernel_rfl) rfl Tryz.ntmps60 rfl (by simp) ?_
  repeat (first | refine gA pk ?_)
  refine s_eqNil tok rfl rfl rfl rfl rfl rfl (fun h => ?_) ?_
  · repeat (first | refine gA pk ?_)
    refine fin (x := .lit _) (.inr rfl) rfl (Sub.refl _) ⟨_, rfl, rfl⟩ ?_
    rw [h]
    exact .free .nil
  · repeat (first | refine gA pk ?_ | (show AL _ _ _ _ _ _ _; first | refine s_build tok (parts := []) rfl rfl rfl rfl rfl rfl rfl rfl (by decide) (by decide) (fun v => ?_)))
    refine s_appendIm tok 0 rfl rfl rfl rfl rfl rfl (by decide) rfl rfl rfl rfl (cEd_cell l) (by simp only [ll, List.length_nil]; omega) (by simp only [ll, List.length_nil]; omega) (fun v' => ?_)
    repeat (first | refine gA pk ?_)
    refine finR ?_
    exact ⟨_, rfl, rfl⟩
end Go.Proofs.YtddohheabpiljaaGreat

end
section
/-
  Values stored into owned boxes. No condition; nothing here names a program.
-/
namespace Go.Sj
set_option maxRecDepth 8000
set_option linter.unusedVariables false
section
variable {P : Program} {N : Nat} {ops : List Oper} {Q : St → Own → Prop} {L : Own} {rest : List (Oper × Kd)} {l : List (Nat × AV)} {k : Kd} {q : Nat}
theorem s_storeB {tt : List (TypeId × TD)} (ok : TOK P tt) (i : Nat) {o : Oper} {T : TypeId} {x y : Operand} {d : TD} {v u : Value} {off : Nat} {cells cs : List AV}
    (ho : o.op = .store T x y) (hdst : o.dst = none) (hg : guardA ops o (lk l) = some true) (hT : lkT tt T = some d) (hd1 : d.size = 1) (hx : ev (lk l) x = .pt v 0 0 off) (hy : ev (lk l) y = .lit u) (hu : u.oneCell' = true) (hL : L[i]? = some (v, .box cells)) (hoff : off < cells.length) (hcs : cells.set off (.lit u) = cs)
    (n : AL P N ops Q rest (lk l) (L.set i (v, .box cs))) : AL P N ops Q ((o, .eff) :: rest) (lk l) L := by
  subst hcs
  refine s_store ok i ho hdst hg hT hx hy (by simpa [AV.storable, AV.cell] using hu) (by rw [hd1]; rfl) (by omega) hL rfl (cells := cells.drop off) rfl (by simp [AV.cells]; omega) ?_
  exact n
end
end Go.Sj

end
