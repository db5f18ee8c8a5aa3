/-
  Parts of the proof of the law IncrementalNew (texts M28, M29, M31, W1, M38, M39): steps, plain mathematics, contracts of functions. Each theorem states its own conditions.
-/
import Derived.Test.YtddohheabpiljaaGreatA09
import Derived.Test.YtddohheabpiljaaGreatA12
import Derived.Test.YtddohheabpiljaaGreatA15
import Derived.Test.YtddohheabpiljaaGreatA25
import Derived.Test.YtddohheabpiljaaGreatA26
import Derived.Test.YtddohheabpiljaaGreatA32
import Derived.Test.YtddohheabpiljaaGreatA36
import Derived.Test.YtddohheabpiljaaGreatA41
section
/-
  Edges between two nodes, by type; codes of graphs: plain mathematics.
-/
namespace Go.Sj.Can
open Go.Sj Go.Sj.Sta
set_option maxRecDepth 8000
set_option linter.unusedVariables false
set_option linter.unusedSimpArgs false

/-! Insertion. -/
section
variable (t : Int → Int)
def posF (l : List Int) (x : Int) : Nat → Nat
  | 0 => 0
  | j + 1 => if t x < t (l.getD j 0) then posF l x j else j + 1
def insT (l : List Int) (x : Int) : List Int := l.take (posF t l x l.length) ++ x :: l.drop (posF t l x l.length)
def sortT (l : List Int) : List Int := l.foldl (insT t) []
variable {t}
abbrev Srt (t : Int → Int) (l : List Int) : Prop := l.Pairwise fun a b => t a ≤ t b
end

/-! Edges from one node to another one. -/
def tyI (g : Gr) (i : Int) : Int := (g.edges[i.toNat]?.map (·.ty)).getD 0
def isE (a b : Int) (e : Ed) : Bool := decide (e.fr = a) && decide (e.to = b)
def isB (g : Gr) (a b : Int) (i : Nat) : Bool := match g.edges[i]? with
  | some e => isE a b e
  | none => false
def rawK (g : Gr) (a b : Int) (k : Nat) : List Int := ((List.range k).filter (isB g a b)).map fun (i : Nat) => (i : Int)
def bt (g : Gr) (a b : Int) : List Int := sortT (tyI g) (rawK g a b g.edges.length)
def tl (g : Gr) (a b : Int) : List Int := (bt g a b).map (tyI g)
def tT (g : Gr) (a b : Int) : List Int := ((tl g a b).length : Int) :: tl g a b
def nodesOf (g : Gr) (a b : Int) : List Int := (g.edges.filter (isE a b)).map (·.ty)
def nN (g : Gr) (v : Int) : Int := nodeAt g v
end Go.Sj.Can

end
section
/-
  The canonical graph of an order: plain mathematics.
-/
namespace Go.Sj.Can
open Go.Sj Go.Sj.Sta
set_option maxRecDepth 8000
set_option linter.unusedVariables false
set_option linter.unusedSimpArgs false
set_option linter.unusedSectionVars false

/-! Where the members of a list lie. -/
def msF (n : Nat) (l : List Int) : Nat → List Int
  | 0 => List.replicate n 0
  | k + 1 => (msF n l k).set (l.getD k 0).toNat k
def ms (n : Nat) (l : List Int) : List Int := msF n l l.length
section
variable {g : Gr} (hg : GV g) {o : List Int} (ho : Cpl g.nodes.length o)
include hg ho
end
end Go.Sj.Can

end
section
/-
  Codes that are read: plain mathematics.
-/
namespace Go.Sj.Can
open Go.Sj Go.Sj.Sta
set_option maxRecDepth 8000
set_option linter.unusedVariables false
set_option linter.unusedSimpArgs false

def rdN (most : Int) : List Int → Option (Int × List Int)
  | [] => none
  | x :: r => if 0 ≤ x ∧ x ≤ most then some (x, r) else none
def rdT : Nat → Int → List Int → Option (List Int × List Int)
  | 0, _, l => some ([], l)
  | n + 1, last, l => match rdN 99 l with
    | none => none
    | some (x, r) => if x < last then none else match rdT n x r with
      | none => none
      | some (ts, r') => some (x :: ts, r')
def rdE (room : Int) (l : List Int) : Option (List Int × List Int) := match rdN room l with
  | none => none
  | some (n, r) => rdT n.toNat 0 r
abbrev Rd := Option (List Int × Gr)
def runE (s : Rd) (a b : Nat) : Rd := match s with
  | none => none
  | some (l, g) => match rdE (80 - (g.edges.length : Int)) l with
    | none => none
    | some (ts, r) => some (r, ⟨g.nodes, g.edges ++ ts.map fun t => ⟨t, a, b⟩⟩)
def runN (s : Rd) : Rd := match s with
  | none => none
  | some (l, g) => match rdN 99 l with
    | none => none
    | some (x, r) => some (r, ⟨g.nodes ++ [x], g.edges⟩)
def runS (s : Rd) (k : Nat) : Nat → Rd
  | 0 => s
  | j + 1 => runE (runE (runS s k j) j k) k j
def runP (s : Rd) : Nat → Rd
  | 0 => s
  | k + 1 => runE (runS (runN (runP s k)) k k) k k
/-! What was read. -/
abbrev It := Nat ⊕ (Nat × Nat)
def itC (g : Gr) : It → List Int
  | .inl k => [nN g k]
  | .inr (a, b) => tT g a b
structure RI (c : List Int) (n0 : Int) (its : List It) (l : List Int) (g : Gr) : Prop where
  code : c = n0 :: (its.flatMap (itC g) ++ l)
  nodes : ∀ x ∈ g.nodes, 0 ≤ x ∧ x ≤ 99
  types : ∀ e ∈ g.edges, 0 ≤ e.ty ∧ e.ty ≤ 99
  ends : ∀ e ∈ g.edges, ∃ a b : Nat, e.fr = a ∧ e.to = b ∧ .inr (a, b) ∈ its
  srt : ∀ a b : Int, (nodesOf g a b).Pairwise (· ≤ ·)
  cap : g.edges.length ≤ 80
  nds : ∀ k, .inl k ∈ its → k < g.nodes.length
theorem RI.zero (n0 : Int) (l : List Int) : RI (n0 :: l) n0 [] l ⟨[], []⟩ := ⟨rfl, by simp, by simp, by simp, fun a b => by simp [nodesOf], by simp, by simp⟩
end Go.Sj.Can

end
section
/-
  Lists of numbers: equality, comparison: the walks. Conditions: shorter than 2^40.
-/
namespace Go.Proofs.YtddohheabpiljaaGreat
open Go.Sj Go.Sj.Typ Go.Sj.Sta Go.Sj.Can
set_option maxRecDepth 8000
set_option linter.unusedVariables false
set_option linter.unusedSimpArgs false
set_option maxHeartbeats 8000000

theorem isNaN_spec (x : Int) : Pure Tryz.prog 129 [AI x] (AB false) := by
  refine a_enter Tryz.func129 (by kernel_rfl) rfl Tryz.ntmps129 rfl (by simp) ?_
  repeat (first | refine gA pk ?_)
  refine finR ?_
  exact ⟨rfl, rfl⟩

theorem cmpCompare_spec (x y : Int) : Pure Tryz.prog 109 [AI x, AI y] (AI (cmpI x y)) := by
  refine a_enter Tryz.func109 (by kernel_rfl) rfl Tryz.ntmps109 rfl (by simp) ?_
  repeat (first | refine gA pk ?_)
  refine s_call rfl rfl rfl rfl rfl (isNaN_spec x) (SubL.of_eq rfl) (Lr := []) (List.Perm.refl _) ?_
  rintro _ _ ⟨rfl, rfl⟩
  repeat (first | refine gA pk ?_)
  refine s_call rfl rfl rfl rfl rfl (isNaN_spec y) (SubL.of_eq rfl) (Lr := []) (List.Perm.refl _) ?_
  rintro _ _ ⟨rfl, rfl⟩
  repeat (first | refine gA pk ?_)
  refine s_cmp rfl rfl rfl rfl rfl rfl rfl (fun h => ?_) (fun h => ?_) <;> simp only [cmpP] at h
  · repeat (first | refine gA pk ?_)
    refine finR ?_
    exact ⟨by simp [cmpI, h], rfl⟩
  · repeat (first | refine gA pk ?_)
    refine s_cmp rfl rfl rfl rfl rfl rfl rfl (fun h => ?_) (fun h => ?_) <;> simp only [cmpP] at h
    · rename_i h1
      repeat (first | refine gA pk ?_)
      refine finR ?_
      exact ⟨by simp [cmpI, h1, h], rfl⟩
    · rename_i h1
      repeat (first | refine gA pk ?_)
      refine finR ?_
      exact ⟨by simp [cmpI, h1, h], rfl⟩

theorem cmpL_drop {xs ys : List Int} {k : Nat} (hx : k < xs.length) (hy : k < ys.length) : cmpL (xs.drop k) (ys.drop k) = if cmpI xs[k] ys[k] ≠ 0 then cmpI xs[k] ys[k] else cmpL (xs.drop (k + 1)) (ys.drop (k + 1)) := by
  rw [List.drop_eq_getElem_cons hx, List.drop_eq_getElem_cons hy]; rfl

theorem Compare_spec (xs ys : List Int) (hx : xs.length ≤ 1099511627776) (hy : ys.length ≤ 1099511627776) : Pure Tryz.prog 90 [ints xs, ints ys] (AI (cmpL xs ys)) := by
  have lx : (rowI xs).length = xs.length := by simp
  have ly : (rowI ys).length = ys.length := by simp
  refine a_enter Tryz.func90 (by kernel_rfl) rfl Tryz.ntmps90 rfl (by simp) ?_
  repeat (first | refine gA pk ?_)
  refine a_loopX (fun k : Nat => [(0, ints xs), (1, ints ys), (9, ints xs), (10, AI xs.length), (11, AI k)]) (fun _ => []) (fun k => k ≤ xs.length ∧ k ≤ ys.length ∧ cmpL xs ys = cmpL (xs.drop k) (ys.drop k)) (fun k => xs.length - k) 0 ⟨Nat.zero_le _, Nat.zero_le _, rfl⟩ ?_ (OSub.refl _) ?_
  · rw [lx]
    exact subQ
  · rintro k ⟨hk, hk2, hc⟩
    repeat (first | refine gA pk ?_)
    refine s_cmp rfl rfl rfl rfl rfl rfl rfl (fun h => ?_) (fun h => ?_) <;> simp only [cmpP] at h
    · have hk' : k < xs.length := by omega
      have hxk : (rowI xs)[(k : Int).toNat]? = some (cI xs[k]) := map_get (List.getElem?_eq_getElem hk')
      repeat (first | refine gA pk ?_ | (show AL _ _ _ _ _ _ _; first | refine jX tok hxk ?_))
      refine s_cmp rfl rfl rfl rfl rfl rfl rfl (fun h1 => ?_) (fun h1 => ?_) <;> simp only [cmpP] at h1
      · repeat (first | refine gA pk ?_)
        refine finR ?_
        refine ⟨?_, rfl⟩
        rw [hc, List.drop_eq_getElem_cons hk', show ys.drop k = [] from List.drop_of_length_le (by omega)]
        rfl
      · have hky : k < ys.length := by omega
        have hyk : (rowI ys)[(k : Int).toNat]? = some (cI ys[k]) := map_get (List.getElem?_eq_getElem hky)
        rw [cmpL_drop hk' hky] at hc
        generalize xs[k] = x at *
        generalize ys[k] = y at *
        repeat (first | refine gA pk ?_ | (show AL _ _ _ _ _ _ _; first | refine jX tok hyk ?_))
        refine jP (cmpCompare_spec x y) ?_
        repeat (first | refine gA pk ?_)
        refine s_cmp rfl rfl rfl rfl rfl rfl rfl (fun h2 => ?_) (fun h2 => ?_) <;> simp only [cmpP] at h2
        · repeat (first | refine gA pk ?_)
          refine finR ?_
          refine ⟨?_, rfl⟩
          rw [hc, if_pos h2]
        · rw [if_neg h2] at hc
          repeat (first | refine gA pk ?_)
          refine ⟨k + 1, ⟨by omega, by omega, hc⟩, by omega, ?_, OSub.refl _⟩
          exact subQ
    · obtain rfl : k = xs.length := by omega
      rw [List.drop_length] at hc
      repeat (first | refine gA pk ?_)
      refine s_cmp rfl rfl rfl rfl rfl rfl rfl (fun h1 => ?_) (fun h1 => ?_) <;> simp only [cmpP] at h1
      · repeat (first | refine gA pk ?_)
        refine finR ?_
        refine ⟨?_, rfl⟩
        rw [hc, List.drop_eq_getElem_cons (show xs.length < ys.length by omega)]
        rfl
      · repeat (first | refine gA pk ?_)
        refine finR ?_
        refine ⟨?_, rfl⟩
        rw [hc, List.drop_of_length_le (by omega)]
        rfl

end Go.Proofs.YtddohheabpiljaaGreat

end
section
/-
  Edits: plain mathematics.
-/
namespace Go.Sj.Inc
open Go.Sj Go.Sj.Sta Go.Sj.Typ
set_option maxRecDepth 8000
set_option linter.unusedVariables false
set_option linter.unusedSimpArgs false

structure Edt where
  kind : Int
  idx : Int
  ty : Int
  fr : Int
  to : Int
def touB (i : Int) (x : Ed) : Bool := decide (x.fr = i) || decide (x.to = i)
def editE (g : Gr) (e : Edt) (nt et : Int) : Int :=
  if e.kind = 1 then (if 0 ≤ e.ty ∧ e.ty < nt then (if (g.nodes.length : Int) = 40 then 3 else 0) else 13)
  else if e.kind = 2 then (if 0 ≤ e.ty ∧ e.ty < et then (if (0 ≤ e.fr ∧ e.fr < g.nodes.length) ∧ (0 ≤ e.to ∧ e.to < g.nodes.length) then (if (g.edges.length : Int) = 80 then 3 else 0) else 6) else 13)
  else if e.kind = 3 then (if 0 ≤ e.idx ∧ e.idx < g.nodes.length then (if g.edges.any (touB e.idx) = true then 14 else 0) else 6)
  else if e.kind = 4 then (if 0 ≤ e.idx ∧ e.idx < g.edges.length then 0 else 6)
  else 1
end Go.Sj.Inc

end
section
/-
  Searches for matches: what is found, and in which order. Plain mathematics.
-/
namespace Go.Sj.Inc
open Go.Sj Go.Sj.Sta Go.Sj.Typ
set_option maxRecDepth 8000
set_option linter.unusedVariables false
set_option linter.unusedSimpArgs false

/-! Matches, compared. -/
def cmpM (a b : Mo) : Int := if Can.cmpL a.1 b.1 ≠ 0 then Can.cmpL a.1 b.1 else Can.cmpL a.2 b.2
theorem cmpM_self (a : Mo) : cmpM a a = 0 := by unfold cmpM; rw [Can.cmpL_self, Can.cmpL_self]; rfl
theorem cmpM_eq {a b : Mo} (h : cmpM a b = 0) : a = b := by
  unfold cmpM at h
  split at h
  · rename_i h1; exact absurd h h1
  · rename_i h1
    exact Prod.ext (Can.cmpL_eq (Decidable.not_not.1 h1)) (Can.cmpL_eq h)
end Go.Sj.Inc

end
