/-
  Orders that numbers describe; graphs that are laid in another order. No condition.
-/
import Derived.Test.YtcacbdohlfljfaaGreatSjQN
import Derived.Test.YtcacbdohlfljfaaGreatSjL25
namespace Go.Sj.Sta
open Go.Sj Go.Sj.Typ
set_option linter.unusedVariables false

def swpI (l : List Int) (i k : Nat) : List Int := (l.set i (l.getD k 0)).set k (l.getD i 0)
theorem swpI_perm {l : List Int} {i k : Nat} (hi : i < l.length) (hk : k < l.length) : (swpI l i k).Perm l := by
  unfold swpI
  refine swap_perm ?_ ?_
  · rw [List.getElem?_eq_getElem hi, List.getD_eq_getElem?_getD, List.getElem?_eq_getElem hi]; rfl
  · rw [List.getElem?_eq_getElem hk, List.getD_eq_getElem?_getD, List.getElem?_eq_getElem hk]; rfl
/-- The other place of a step. -/
def shfP (n : Nat) (cs : List Int) (i : Nat) : Nat := i + (cs.getD i 0 % ((n : Int) - i)).toNat
theorem shfP_lt {n : Nat} {cs : List Int} {i : Nat} (h : i < n) : shfP n cs i < n := by
  unfold shfP
  have h1 := Int.emod_nonneg (cs.getD i 0) (b := (n : Int) - i) (by omega)
  have h2 := Int.emod_lt_of_pos (cs.getD i 0) (b := (n : Int) - i) (by omega)
  omega
def shfK (n : Nat) (cs : List Int) : Nat → List Int
  | 0 => rngI n
  | i + 1 => swpI (shfK n cs i) i (shfP n cs i)
theorem shfK_prm (n : Nat) (cs : List Int) : ∀ i, i ≤ n → Prm (shfK n cs i) n
  | 0, _ => ⟨.refl _⟩
  | i + 1, h => by
    have ih := shfK_prm n cs i (by omega)
    have hl := ih.len
    exact ⟨(swpI_perm (by omega) (by have := shfP_lt (cs := cs) (show i < n by omega); omega)).trans ih.perm⟩
/-- The order that numbers describe. -/
def shf (n : Nat) (cs : List Int) : List Int := shfK n cs (min n cs.length)
theorem shf_prm (n : Nat) (cs : List Int) : Prm (shf n cs) n := shfK_prm n cs _ (Nat.min_le_left _ _)
theorem rngI_len (n : Nat) : (rngI n).length = n := by simp
theorem rngI_succ (n : Nat) : rngI (n + 1) = rngI n ++ [(n : Int)] := by simp [rngI, List.range_succ]
theorem rngF_succ (a : Int) (n : Nat) : ((List.range (n + 1)).map fun (i : Nat) => a + (i : Int)) = ((List.range n).map fun (i : Nat) => a + (i : Int)) ++ [a + n] := by simp [List.range_succ]
theorem rngF_zero (n : Nat) : ((List.range n).map fun (i : Nat) => (0 : Int) + (i : Int)) = rngI n := by simp
theorem zN_row (n : Nat) : List.replicate n [AI 0] = rowI (zN n) := by simp [zN, cI]
theorem zE_row (n : Nat) : List.replicate n [AI 0, AI 0, AI 0] = (zE n).map cEd := by simp [zE, cEd]
theorem zN_len (n : Nat) : (zN n).length = n := by simp [zN]
theorem zE_len (n : Nat) : (zE n).length = n := by simp [zE]
theorem obSet_ed {E j : Nat} {l : List Ed} {e : Ed} (hj : j < l.length) : obSet (.row E 3 (l.map cEd)) j 0 (cEd e) = .row E 3 ((l.set j e).map cEd) := by
  have h1 : (l.map cEd).getD j [] = cEd l[j] := by
    rw [List.getD_eq_getElem?_getD, List.getElem?_map, List.getElem?_eq_getElem hj]; rfl
  simp only [obSet, h1]
  rw [List.map_set]
  rfl
section
variable {P : Program} {N : Nat} {ops : List Oper} {Q : St → Own → Prop} {L : Own} {rest : List (Oper × Kd)} {l : List (Nat × AV)}
/-- An edge stored into an owned row of edges. -/
theorem s_storeEd {tt : List (TypeId × TD)} (ok : TOK P tt) (i : Nat) {o : Oper} {T : TypeId} {x y : Operand} {d : TD} {v : Value} {E j : Nat} {es : List Ed} {a b c : Int}
    (ho : o.op = .store T x y) (hdst : o.dst = none) (hg : guardA ops o (lk l) = some true) (hT : lkT tt T = some d) (hd3 : d.size = 3) (hx : ev (lk l) x = .pt v 3 j 0) (hy : ev (lk l) y = .agg [AI a, AI b, AI c]) (hL : L[i]? = some (v, .row E 3 (es.map cEd))) (hj : j < es.length)
    (n : AL P N ops Q rest (lk l) (L.set i (v, .row E 3 ((es.set j ⟨a, b, c⟩).map cEd)))) : AL P N ops Q ((o, .eff) :: rest) (lk l) L := by
  have hget : (es.map cEd)[j]? = some (cEd es[j]) := map_get (List.getElem?_eq_getElem hj)
  refine s_store ok i ho hdst hg hT hx hy rfl (by rw [hd3]; rfl) (by omega) hL rfl (cells := cEd es[j]) (by simp only [obAt, hget]; rfl) (by simp [cEd, AV.cells]) ?_
  rw [show AV.cells (.agg [AI a, AI b, AI c]) = cEd ⟨a, b, c⟩ from rfl, obSet_ed hj]
  exact n
end
end Go.Sj.Sta
