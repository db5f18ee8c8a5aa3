/-
  Parts of the proof of the law IncrementalOpposite (texts M28, M29, M31): steps, plain mathematics, contracts of functions. Each theorem states its own conditions.
-/
import Derived.Test.YtddohheabpiljaaGreatB38
section
/-
  Edges between two nodes, by type; codes of graphs: plain mathematics.
-/
namespace Go.Sj.Can
open Go.Sj Go.Sj.Sta
set_option maxRecDepth 8000
set_option linter.unusedVariables false
set_option linter.unusedSimpArgs false

/-! Insertion. -/
section
variable (t : Int → Int)
def posF (l : List Int) (x : Int) : Nat → Nat
  | 0 => 0
  | j + 1 => if t x < t (l.getD j 0) then posF l x j else j + 1
def insT (l : List Int) (x : Int) : List Int := l.take (posF t l x l.length) ++ x :: l.drop (posF t l x l.length)
def sortT (l : List Int) : List Int := l.foldl (insT t) []
variable {t}
abbrev Srt (t : Int → Int) (l : List Int) : Prop := l.Pairwise fun a b => t a ≤ t b
end

/-! Edges from one node to another one. -/
def tyI (g : Gr) (i : Int) : Int := (g.edges[i.toNat]?.map (·.ty)).getD 0
def isE (a b : Int) (e : Ed) : Bool := decide (e.fr = a) && decide (e.to = b)
def isB (g : Gr) (a b : Int) (i : Nat) : Bool := match g.edges[i]? with
  | some e => isE a b e
  | none => false
def rawK (g : Gr) (a b : Int) (k : Nat) : List Int := ((List.range k).filter (isB g a b)).map fun (i : Nat) => (i : Int)
def bt (g : Gr) (a b : Int) : List Int := sortT (tyI g) (rawK g a b g.edges.length)
def tl (g : Gr) (a b : Int) : List Int := (bt g a b).map (tyI g)
def tT (g : Gr) (a b : Int) : List Int := ((tl g a b).length : Int) :: tl g a b
def nodesOf (g : Gr) (a b : Int) : List Int := (g.edges.filter (isE a b)).map (·.ty)
def nN (g : Gr) (v : Int) : Int := nodeAt g v
end Go.Sj.Can

end
section
/-
  The canonical graph of an order: plain mathematics.
-/
namespace Go.Sj.Can
open Go.Sj Go.Sj.Sta
set_option maxRecDepth 8000
set_option linter.unusedVariables false
set_option linter.unusedSimpArgs false
set_option linter.unusedSectionVars false

/-! Where the members of a list lie. -/
def msF (n : Nat) (l : List Int) : Nat → List Int
  | 0 => List.replicate n 0
  | k + 1 => (msF n l k).set (l.getD k 0).toNat k
def ms (n : Nat) (l : List Int) : List Int := msF n l l.length
section
variable {g : Gr} (hg : GV g) {o : List Int} (ho : Cpl g.nodes.length o)
include hg ho
end
end Go.Sj.Can

end
section
/-
  Codes that are read: plain mathematics.
-/
namespace Go.Sj.Can
open Go.Sj Go.Sj.Sta
set_option maxRecDepth 8000
set_option linter.unusedVariables false
set_option linter.unusedSimpArgs false

def rdN (most : Int) : List Int → Option (Int × List Int)
  | [] => none
  | x :: r => if 0 ≤ x ∧ x ≤ most then some (x, r) else none
def rdT : Nat → Int → List Int → Option (List Int × List Int)
  | 0, _, l => some ([], l)
  | n + 1, last, l => match rdN 99 l with
    | none => none
    | some (x, r) => if x < last then none else match rdT n x r with
      | none => none
      | some (ts, r') => some (x :: ts, r')
def rdE (room : Int) (l : List Int) : Option (List Int × List Int) := match rdN room l with
  | none => none
  | some (n, r) => rdT n.toNat 0 r
abbrev Rd := Option (List Int × Gr)
def runE (s : Rd) (a b : Nat) : Rd := match s with
  | none => none
  | some (l, g) => match rdE (80 - (g.edges.length : Int)) l with
    | none => none
    | some (ts, r) => some (r, ⟨g.nodes, g.edges ++ ts.map fun t => ⟨t, a, b⟩⟩)
def runS (s : Rd) (k : Nat) : Nat → Rd
  | 0 => s
  | j + 1 => runE (runE (runS s k j) j k) k j
/-! What was read. -/
abbrev It := Nat ⊕ (Nat × Nat)
def itC (g : Gr) : It → List Int
  | .inl k => [nN g k]
  | .inr (a, b) => tT g a b
structure RI (c : List Int) (n0 : Int) (its : List It) (l : List Int) (g : Gr) : Prop where
  code : c = n0 :: (its.flatMap (itC g) ++ l)
  nodes : ∀ x ∈ g.nodes, 0 ≤ x ∧ x ≤ 99
  types : ∀ e ∈ g.edges, 0 ≤ e.ty ∧ e.ty ≤ 99
  ends : ∀ e ∈ g.edges, ∃ a b : Nat, e.fr = a ∧ e.to = b ∧ .inr (a, b) ∈ its
  srt : ∀ a b : Int, (nodesOf g a b).Pairwise (· ≤ ·)
  cap : g.edges.length ≤ 80
  nds : ∀ k, .inl k ∈ its → k < g.nodes.length
theorem RI.zero (n0 : Int) (l : List Int) : RI (n0 :: l) n0 [] l ⟨[], []⟩ := ⟨rfl, by simp, by simp, by simp, fun a b => by simp [nodesOf], by simp, by simp⟩
end Go.Sj.Can

end
