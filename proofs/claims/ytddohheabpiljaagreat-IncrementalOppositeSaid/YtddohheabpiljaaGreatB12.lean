/-
  Parts of the proof of the law IncrementalOpposite (texts QN): steps, plain mathematics, contracts of functions. Each theorem states its own conditions.
-/
import Derived.Test.YtddohheabpiljaaGreatB11
section
/-
  General parts: M19, M20, M21, M22, M23, M24, M25. No condition; nothing here names a program.
-/
set_option linter.unusedVariables false
set_option linter.unusedSimpArgs false
set_option linter.unusedSectionVars false
/-
  Graphs and counts of their elements: plain mathematics.
-/
namespace Go.Sj.Sta
open Go.Sj Go.Sj.Typ
set_option linter.unusedVariables false

structure Ed where
  ty : Int
  fr : Int
  to : Int
deriving DecidableEq
structure Gr where
  nodes : List Int
  edges : List Ed
def cEd (e : Ed) : List AV := [AI e.ty, AI e.fr, AI e.to]
abbrev edsA (l : List Ed) : AV := .im 3 (l.map cEd)
abbrev grA (g : Gr) : AV := .agg [ints g.nodes, edsA g.edges]
abbrev grP (g : Gr) : AV := .ip [ints g.nodes, edsA g.edges]

structure Cnt where
  ty : Int
  fr : Int
  to : Int
  nu : Int
deriving DecidableEq
structure Sta where
  nodes : List Cnt
  edges : List Cnt
/-! Keys. -/
def klt (a b : Cnt) : Prop := a.ty < b.ty ∨ a.ty = b.ty ∧ (a.fr < b.fr ∨ a.fr = b.fr ∧ a.to < b.to)
def keq (a b : Cnt) : Prop := a.ty = b.ty ∧ a.fr = b.fr ∧ a.to = b.to
instance (a b : Cnt) : Decidable (klt a b) := inferInstanceAs (Decidable (_ ∨ _))
instance (a b : Cnt) : Decidable (keq a b) := inferInstanceAs (Decidable (_ ∧ _))
abbrev Srt (l : List Cnt) : Prop := l.Pairwise klt

def kq (k : Cnt) (c : Cnt) : Bool := decide (keq c k)
end Go.Sj.Sta

/-
  Statistics: what the functions return, as plain mathematics.
-/
namespace Go.Sj.Sta
open Go.Sj Go.Sj.Typ
set_option linter.unusedVariables false

/-! Graphs. -/
def typB (x : Int) : Bool := decide (0 ≤ x ∧ x ≤ 99)
def edB (n : Nat) (e : Ed) : Bool := decide ((0 ≤ e.ty ∧ e.ty ≤ 99) ∧ (0 ≤ e.fr ∧ e.fr < n) ∧ (0 ≤ e.to ∧ e.to < n))
def gvalid (g : Gr) : Int := if 40 < g.nodes.length ∨ 80 < g.edges.length then 3 else if (g.nodes.any fun x => !typB x) = true then 6 else if (g.edges.any fun e => !edB g.nodes.length e) = true then 6 else 0
structure GV (g : Gr) : Prop where
  nl : g.nodes.length ≤ 40
  el : g.edges.length ≤ 80
  nodes : ∀ x ∈ g.nodes, 0 ≤ x ∧ x ≤ 99
  edges : ∀ e ∈ g.edges, (0 ≤ e.ty ∧ e.ty ≤ 99) ∧ (0 ≤ e.fr ∧ e.fr < g.nodes.length) ∧ (0 ≤ e.to ∧ e.to < g.nodes.length)
theorem gvalid_zero {g : Gr} : gvalid g = 0 ↔ GV g := by
  unfold gvalid
  constructor
  · intro h
    split at h
    · cases h
    · rename_i h1
      split at h
      · cases h
      · rename_i h2
        split at h
        · cases h
        · rename_i h3
          simp only [List.any_eq_true, not_exists, not_and, Bool.not_eq_true', Bool.not_eq_false, typB, edB, decide_eq_true_eq] at h2 h3
          exact ⟨by omega, by omega, h2, h3⟩
  · intro h
    rw [if_neg (by have := h.nl; have := h.el; omega), if_neg, if_neg]
    · simp only [List.any_eq_true, not_exists, not_and, Bool.not_eq_true', Bool.not_eq_false, edB, decide_eq_true_eq]
      exact h.edges
    · simp only [List.any_eq_true, not_exists, not_and, Bool.not_eq_true', Bool.not_eq_false, typB, decide_eq_true_eq]
      exact h.nodes
def nodeAt (g : Gr) (i : Int) : Int := g.nodes.getD i.toNat 0
structure TV (t : Tys) (g : Gr) : Prop where
  types : (validR t).2 = 0
  graph : GV g
  nodes : ∀ x ∈ g.nodes, 0 ≤ x ∧ x < t.nodes.length
  edges : ∀ e ∈ g.edges, (0 ≤ e.ty ∧ e.ty < t.edges.length) ∧ fitsR t e.ty (nodeAt g e.fr) (nodeAt g e.to) = true
def nodeOk (n : Nat) (c : Cnt) : Prop := (0 ≤ c.ty ∧ c.ty < n) ∧ c.fr = 0 ∧ c.to = 0 ∧ 1 ≤ c.nu ∧ c.nu ≤ 40
instance (n : Nat) (c : Cnt) : Decidable (nodeOk n c) := inferInstanceAs (Decidable (_ ∧ _))
def edgeOk (n m : Nat) (c : Cnt) : Prop := (0 ≤ c.ty ∧ c.ty < m) ∧ (0 ≤ c.fr ∧ c.fr < n) ∧ (0 ≤ c.to ∧ c.to < n) ∧ 1 ≤ c.nu ∧ c.nu ≤ 80
instance (n m : Nat) (c : Cnt) : Decidable (edgeOk n m c) := inferInstanceAs (Decidable (_ ∧ _))
def hasB (l : List Cnt) (k : Int) : Bool := l.any fun c => decide (c.ty = k)
structure SN (n : Nat) (l : List Cnt) : Prop where
  ok : ∀ c ∈ l, nodeOk n c
  srt : Srt l
structure SE' (t : Tys) (s : Sta) : Prop where
  ok : ∀ c ∈ s.edges, edgeOk t.nodes.length t.edges.length c
  fits : ∀ c ∈ s.edges, fitsR t c.ty c.fr c.to = true
  has : ∀ c ∈ s.edges, hasB s.nodes c.fr = true ∧ hasB s.nodes c.to = true
  srt : Srt s.edges
end Go.Sj.Sta

/-
  Statistics: what is valid, and ways back: plain mathematics.
-/
namespace Go.Sj.Sta
open Go.Sj Go.Sj.Typ
set_option linter.unusedVariables false

theorem SN.pos {n : Nat} {l : List Cnt} (h : SN n l) : ∀ c ∈ l, 1 ≤ c.nu := fun c hc => (h.ok c hc).2.2.2.1
theorem SE'.pos {t : Tys} {s : Sta} (h : SE' t s) : ∀ c ∈ s.edges, 1 ≤ c.nu := fun c hc => (h.ok c hc).2.2.2.1
end Go.Sj.Sta

/-
  Statistics of the graphs that numbers describe: sums over the types.
-/
namespace Go.Sj.Sta
open Go.Sj Go.Sj.Typ
set_option linter.unusedVariables false

section
variable {ns : List Nod} (hp : PR ns ns.length)
end
end Go.Sj.Sta

/-
  Statistics: other orders of a graph, further elements: plain mathematics.
-/
namespace Go.Sj.Sta
open Go.Sj Go.Sj.Typ
set_option linter.unusedVariables false

/-! Orders. -/
abbrev rngI (n : Nat) : List Int := (List.range n).map fun (i : Nat) => (i : Int)
structure Prm (p : List Int) (n : Nat) : Prop where
  perm : p.Perm (rngI n)
theorem Prm.len {p : List Int} {n : Nat} (h : Prm p n) : p.length = n := by rw [h.perm.length_eq]; simp
theorem Prm.rng {p : List Int} {n : Nat} (h : Prm p n) : ∀ x ∈ p, 0 ≤ x ∧ x < n := fun x hx => by
  obtain ⟨i, hi, rfl⟩ := List.mem_map.1 (h.perm.mem_iff.1 hx)
  have := List.mem_range.1 hi
  omega
theorem rngI_nodup (n : Nat) : (rngI n).Nodup := by
  rw [List.nodup_iff_pairwise_ne, List.pairwise_map]
  exact (List.nodup_iff_pairwise_ne.1 List.nodup_range).imp fun h x => h (by omega)
theorem Prm.nodup {p : List Int} {n : Nat} (h : Prm p n) : p.Nodup := h.perm.nodup_iff.2 (rngI_nodup n)
theorem Prm.get {p : List Int} {n i : Nat} (h : Prm p n) (hi : i < n) : ∃ x : Nat, p[i]? = some (x : Int) ∧ x < n := by
  have hl := h.len
  have hx := List.getElem?_eq_getElem (l := p) (i := i) (by omega)
  have := h.rng _ (List.getElem_mem (l := p) (n := i) (by omega))
  exact ⟨p[i].toNat, by rw [hx]; congr 1; omega, by omega⟩
theorem Prm.inj {p : List Int} {n i j : Nat} (h : Prm p n) {x : Int} (hi : p[i]? = some x) (hj : p[j]? = some x) : i = j := by
  obtain ⟨h1, e1⟩ := List.getElem?_eq_some_iff.1 hi
  obtain ⟨h2, e2⟩ := List.getElem?_eq_some_iff.1 hj
  have hn := List.pairwise_iff_getElem.1 (List.nodup_iff_pairwise_ne.1 h.nodup)
  rcases Nat.lt_trichotomy i j with hij | hij | hij
  · exact absurd (e1.trans e2.symm) (hn i j h1 h2 hij)
  · exact hij
  · exact absurd (e2.trans e1.symm) (hn j i h2 h1 hij)
instance : Inhabited Ed := ⟨⟨0, 0, 0⟩⟩
section
variable {t : Tys} {g : Gr} {p q : List Int} (h : TV t g) (hp : Prm p g.nodes.length) (hq : Prm q g.edges.length)
include h hp hq
end

section
variable {t : Tys} {g : Gr} (h : TV t g)
include h
end
end Go.Sj.Sta

/-
  Graphs, statistics and what describes them, among the arguments of a call.
-/
namespace Go.Sj.Sta
open Go.Sj Go.Sj.Typ
set_option linter.unusedVariables false

abbrev REd := Int × Int × Int × Unit
abbrev RGr := List Int × List REd × Unit
def toEd (x : REd) : Ed := ⟨x.1, x.2.1, x.2.2.1⟩
def toGr (x : RGr) : Gr := ⟨x.1, x.2.1.map toEd⟩
def gREd (x : REd) : List AV := [.lit (.int .i64 x.1)] ++ ([.lit (.int .i64 x.2.1)] ++ ([.lit (.int .i64 x.2.2.1)] ++ []))
def gGr (x : RGr) : List AV := [.im 1 (x.1.map fun n => [.lit (.int .i64 n)])] ++ ([.im 3 (x.2.1.map gREd)] ++ [])
theorem gREd_eq : gREd = fun x => cEd (toEd x) := rfl
theorem gGr_eq (x : RGr) : gGr x = [ints (toGr x).nodes, edsA (toGr x).edges] := by
  show [AV.im 1 (x.1.map fun n => [.lit (.int .i64 n)]), AV.im 3 (x.2.1.map gREd)] = [AV.im 1 (x.1.map cI), AV.im 3 ((x.2.1.map toEd).map cEd)]
  rw [gREd_eq, List.map_map]; rfl
theorem gr_vr {σ : Hp} {v : Value} {x : RGr} (h : VR σ (.agg (gGr x)) v) : VR σ (grA (toGr x)) v := by rw [gGr_eq] at h; exact h
/-- No list of a graph is longer than memory. -/
def OkG (g : Gr) : Prop := g.nodes.length ≤ 140737488355328 ∧ g.edges.length ≤ 140737488355328
theorem gr_ok {x : RGr} {a b : Prop} {q : Prop} (h : (a ∧ x.1.length ≤ reachBytes) ∧ (b ∧ x.2.1.length ≤ reachBytes) ∧ q) : OkG (toGr x) := by
  have h1 := h.1.2
  have h2 := h.2.1.2
  unfold reachBytes at h1 h2
  refine ⟨by show x.1.length ≤ _; omega, ?_⟩
  show (x.2.1.map toEd).length ≤ _
  rw [List.length_map]; omega

end Go.Sj.Sta

/-
  The counts of a graph are few and small: plain mathematics.
-/
namespace Go.Sj.Sta
open Go.Sj Go.Sj.Typ
set_option linter.unusedVariables false
end Go.Sj.Sta

end
