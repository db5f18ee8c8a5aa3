/- Parts of a proof. -/
import Derived.Test.YtimfponihbfimaaGreatP07
set_option linter.unusedVariables false
set_option linter.unusedSimpArgs false
section
namespace Go.Sj.Typ
open Go.Sj
abbrev AS (s : ByteArray) : AV := .lit (.string s)
abbrev A8 (x : Int) : AV := .lit (.int .u8 x)
def letP (c : Int) : Prop := 97 ≤ c ∧ c ≤ 122 ∨ 65 ≤ c ∧ c ≤ 90
def digP (c : Int) : Prop := 48 ≤ c ∧ c ≤ 57
def parP (c : Int) : Prop := letP c ∨ digP c ∨ c = 95
instance (c : Int) : Decidable (letP c) := inferInstanceAs (Decidable (_ ∨ _))
instance (c : Int) : Decidable (digP c) := inferInstanceAs (Decidable (_ ∧ _))
instance (c : Int) : Decidable (parP c) := inferInstanceAs (Decidable (_ ∨ _))
def nameB (s : ByteArray) : Bool := decide (s.size ≠ 0 ∧ s.size ≤ 20 ∧ letP (byt s 0)) && s.data.toList.all (fun b => decide (parP b.toNat))
structure Att where
  name : ByteArray
  lo : Int
  hi : Int
  names : List ByteArray
structure Nod where
  name : ByteArray
  par : Int
  abs : Bool
  attrs : List Att
structure Edg where
  name : ByteArray
  fr : Int
  to : Int
  ol : Int
  oh : Int
  il : Int
  ih : Int
structure Tys where
  nodes : List Nod
  edges : List Edg
def cS (s : ByteArray) : List AV := [AS s]
abbrev strsA (l : List ByteArray) : AV := .im 1 (l.map cS)
def cAtt (a : Att) : List AV := [AS a.name, AI a.lo, AI a.hi, strsA a.names]
abbrev attrsA (l : List Att) : AV := .im 4 (l.map cAtt)
def cNod (n : Nod) : List AV := [AS n.name, AI n.par, AB n.abs, attrsA n.attrs]
def cEdg (e : Edg) : List AV := [AS e.name, AI e.fr, AI e.to, AI e.ol, AI e.oh, AI e.il, AI e.ih]
abbrev nodsA (l : List Nod) : AV := .im 4 (l.map cNod)
abbrev edgsA (l : List Edg) : AV := .im 7 (l.map cEdg)
abbrev tysA (t : Tys) : AV := .agg [nodsA t.nodes, edgsA t.edges]
abbrev tysP (t : Tys) : AV := .ip [nodsA t.nodes, edgsA t.edges]
def firstN (f : Nat → Int) (n : Nat) : Int := match (List.range n).find? (fun i => decide (f i ≠ 0)) with | some i => f i | none => 0
theorem find_range {p : Nat → Bool} {n i : Nat} (h : ∀ j, j < i → p j = false) (hi : i < n) (hp : p i = true) : (List.range n).find? p = some i := by
  rw [List.find?_eq_some_iff_getElem]
  refine ⟨hp, i, by simpa using hi, by simp, fun j hj => ?_⟩
  simp [h j hj]
theorem find_range_none {p : Nat → Bool} {n : Nat} (h : ∀ j, j < n → p j = false) : (List.range n).find? p = none := by
  rw [List.find?_eq_none]
  intro x hx
  simp [h x (by simpa using hx)]
theorem firstN_at {f : Nat → Int} {n i : Nat} (h : ∀ j, j < i → f j = 0) (hi : i < n) (hp : f i ≠ 0) : firstN f n = f i := by
  unfold firstN
  rw [find_range (i := i) (fun j hj => by simp [h j hj]) hi (by simpa using hp)]
theorem firstN_none {f : Nat → Int} {n : Nat} (h : ∀ j, j < n → f j = 0) : firstN f n = 0 := by
  unfold firstN
  rw [find_range_none (fun j hj => by simp [h j hj])]
theorem firstN_zero {f : Nat → Int} {n : Nat} : firstN f n = 0 ↔ ∀ j, j < n → f j = 0 := by
  refine ⟨fun h j hj => ?_, firstN_none⟩
  unfold firstN at h
  split at h
  · rename_i i hi
    have := List.find?_some hi
    simp [h] at this
  · rename_i hn
    rw [List.find?_eq_none] at hn
    simpa using hn j (by simpa using hj)
def nameAt (l : List ByteArray) (i : Nat) : Int := match l[i]? with
  | some s => if nameB s = true then (if s ∈ l.take i then 5 else 0) else 2
  | none => 0
def namesE (l : List ByteArray) : Int := if 20 < l.length then 3 else firstN (nameAt l) l.length
def rangeE (a : Att) : Int :=
  if a.names = [] then (if -1000000 ≤ a.lo ∧ a.lo ≤ a.hi ∧ a.hi ≤ 1000000 then 0 else 6)
  else (if a.lo = 0 ∧ a.hi = a.names.length - 1 then 0 else 6)
def bodyE (a : Att) : Int := if namesE a.names ≠ 0 then namesE a.names else rangeE a
def attrE (a : Att) (before : List Att) : Int := if nameB a.name = false then 2 else if (before.any fun b => decide (b.name = a.name)) = true then 5 else bodyE a
def upF : Nat → List Nod → Int → List Int
  | 0, _, _ => []
  | f + 1, ns, a => if a < 0 then [] else match ns[a.toNat]? with
    | none => []
    | some n => a :: upF f ns n.par
def up (ns : List Nod) (a : Int) : List Int := upF (a + 1).toNat ns a
def PR (ns : List Nod) (k : Nat) : Prop := ∀ (i : Nat) (n : Nod), i < k → ns[i]? = some n → -1 ≤ n.par ∧ n.par < i
theorem PR.mono {ns : List Nod} {k j : Nat} (h : PR ns k) (hj : j ≤ k) : PR ns j := fun i n hi => h i n (by omega)
theorem upF_eq {ns : List Nod} {k : Nat} (h : PR ns k) : ∀ (f g : Nat) (a : Int), a < k → a + 1 ≤ f → a + 1 ≤ g → upF f ns a = upF g ns a
  | 0, 0, a, _, _, _ => rfl
  | 0, g + 1, a, _, hf, _ => by simp only [upF]; rw [if_pos (by omega)]
  | f + 1, 0, a, _, _, hg => by simp only [upF]; rw [if_pos (by omega)]
  | f + 1, g + 1, a, ha, hf, hg => by
    simp only [upF]
    split
    · rfl
    · rename_i hn
      cases hx : ns[a.toNat]? with
      | none => rfl
      | some n =>
        have := h a.toNat n (by omega) hx
        simp only
        rw [upF_eq h f g n.par (by omega) (by omega) (by omega)]
theorem up_neg {ns : List Nod} {a : Int} (h : a < 0) : up ns a = [] := by
  unfold up
  rw [show (a + 1).toNat = 0 by omega]; rfl
theorem up_step {ns : List Nod} {k : Nat} (h : PR ns k) {a : Int} {n : Nod} (h0 : 0 ≤ a) (ha : a < k) (hn : ns[a.toNat]? = some n) : up ns a = a :: up ns n.par := by
  have hp := h a.toNat n (by omega) hn
  unfold up
  rw [show (a + 1).toNat = a.toNat + 1 by omega]
  simp only [upF]
  rw [if_neg (by omega), hn]
  simp only
  rw [upF_eq h a.toNat (n.par + 1).toNat n.par (by omega) (by omega) (by omega)]
theorem up_len {ns : List Nod} {k : Nat} (h : PR ns k) (hk : k ≤ ns.length) : ∀ (m : Nat) (a : Int), a + 1 ≤ m → a < k → (up ns a).length ≤ m
  | 0, a, hm, ha => by rw [up_neg (by omega)]; simp
  | m + 1, a, hm, ha => by
    by_cases h0 : a < 0
    · rw [up_neg h0]; simp
    · have hx := List.getElem?_eq_getElem (l := ns) (i := a.toNat) (by omega)
      rw [up_step h (by omega) ha hx]
      have hp := h a.toNat _ (by omega) hx
      have := up_len h hk m _ (by omega : (ns[a.toNat]).par + 1 ≤ m) (by omega)
      simp only [List.length_cons]
      omega
def ownA (ns : List Nod) (a : Int) : List Att := match ns[a.toNat]? with | some n => n.attrs | none => []
def attrsOf (ns : List Nod) (a : Int) : List Att := ((up ns a).reverse.map (ownA ns)).flatten
theorem attrsOf_neg {ns : List Nod} {a : Int} (h : a < 0) : attrsOf ns a = [] := by simp [attrsOf, up_neg h]
theorem attrsOf_step {ns : List Nod} {k : Nat} (h : PR ns k) {a : Int} {n : Nod} (h0 : 0 ≤ a) (ha : a < k) (hn : ns[a.toNat]? = some n) : attrsOf ns a = attrsOf ns n.par ++ n.attrs := by
  unfold attrsOf
  rw [up_step h h0 ha hn]
  simp [ownA, hn]
def attAt (all : List Att) (k : Nat) : Int := match all[k]? with | some a => attrE a (all.take k) | none => 0
def nodeE (ns : List Nod) (i : Nat) : Int := match ns[i]? with
  | some n =>
    if nameB n.name = false then 2 else if ((ns.take i).any fun m => decide (m.name = n.name)) = true then 5 else if n.par < -1 ∨ (i : Int) ≤ n.par then 6 else if 4 < n.attrs.length then 3
    else if 8 < (attrsOf ns i).length then 3
    else firstN (fun j => attAt (attrsOf ns i) ((attrsOf ns i).length - n.attrs.length + j)) n.attrs.length
  | none => 0
def boundP (lo hi : Int) : Prop := 0 ≤ lo ∧ lo ≤ 40 ∧ (hi = -1 ∨ lo ≤ hi ∧ hi ≤ 40)
instance (lo hi : Int) : Decidable (boundP lo hi) := inferInstanceAs (Decidable (_ ∧ _))
def edgeE (t : Tys) (i : Nat) : Int := match t.edges[i]? with
  | some e =>
    if nameB e.name = false then 2 else if ((t.edges.take i).any fun m => decide (m.name = e.name)) = true then 5
    else if (0 ≤ e.fr ∧ e.fr < t.nodes.length) ∧ (0 ≤ e.to ∧ e.to < t.nodes.length) ∧ boundP e.ol e.oh ∧ boundP e.il e.ih then 0 else 6
  | none => 0
def firstI (f : Nat → Int) (n : Nat) : Option Nat := (List.range n).find? (fun i => decide (f i ≠ 0))
def validR (t : Tys) : ByteArray × Int :=
  if t.nodes.length = 0 then (⟨#[]⟩, 7) else if 12 < t.nodes.length ∨ 20 < t.edges.length then (⟨#[]⟩, 3)
  else match firstI (nodeE t.nodes) t.nodes.length with
    | some i => ((t.nodes[i]?.map (·.name)).getD ⟨#[]⟩, nodeE t.nodes i)
    | none => match firstI (edgeE t) t.edges.length with
      | some i => ((t.edges[i]?.map (·.name)).getD ⟨#[]⟩, edgeE t i)
      | none => (⟨#[]⟩, 0)
theorem validR_node {t : Tys} {i : Nat} {n : Nod} (h0 : t.nodes.length ≠ 0) (h1 : ¬ (12 < t.nodes.length ∨ 20 < t.edges.length)) (h : ∀ j, j < i → nodeE t.nodes j = 0) (hi : t.nodes[i]? = some n) (hp : nodeE t.nodes i ≠ 0) : validR t = (n.name, nodeE t.nodes i) := by
  unfold validR
  rw [if_neg h0, if_neg h1]
  rw [show firstI (nodeE t.nodes) t.nodes.length = some i from find_range (fun j hj => by simp [h j hj]) (List.getElem?_eq_some_iff.1 hi).1 (by simpa using hp)]
  simp [hi]
theorem validR_edge {t : Tys} {i : Nat} {e : Edg} (h0 : t.nodes.length ≠ 0) (h1 : ¬ (12 < t.nodes.length ∨ 20 < t.edges.length)) (hn : ∀ j, j < t.nodes.length → nodeE t.nodes j = 0) (h : ∀ j, j < i → edgeE t j = 0) (hi : t.edges[i]? = some e) (hp : edgeE t i ≠ 0) : validR t = (e.name, edgeE t i) := by
  unfold validR
  rw [if_neg h0, if_neg h1]
  rw [show firstI (nodeE t.nodes) t.nodes.length = none from find_range_none (fun j hj => by simp [hn j hj])]
  rw [show firstI (edgeE t) t.edges.length = some i from find_range (fun j hj => by simp [h j hj]) (List.getElem?_eq_some_iff.1 hi).1 (by simpa using hp)]
  simp [hi]
theorem validR_ok {t : Tys} (h0 : t.nodes.length ≠ 0) (h1 : ¬ (12 < t.nodes.length ∨ 20 < t.edges.length)) (hn : ∀ j, j < t.nodes.length → nodeE t.nodes j = 0) (h : ∀ j, j < t.edges.length → edgeE t j = 0) : validR t = (⟨#[]⟩, 0) := by
  unfold validR
  rw [if_neg h0, if_neg h1]
  rw [show firstI (nodeE t.nodes) t.nodes.length = none from find_range_none (fun j hj => by simp [hn j hj])]
  rw [show firstI (edgeE t) t.edges.length = none from find_range_none (fun j hj => by simp [h j hj])]
theorem validR_zero {t : Tys} : (validR t).2 = 0 ↔ t.nodes.length ≠ 0 ∧ t.nodes.length ≤ 12 ∧ t.edges.length ≤ 20 ∧ (∀ j, j < t.nodes.length → nodeE t.nodes j = 0) ∧ ∀ j, j < t.edges.length → edgeE t j = 0 := by
  constructor
  · intro h
    unfold validR at h
    split at h
    · cases h
    · split at h
      · cases h
      · rename_i h0 h1
        split at h
        · rename_i i hi
          have := List.find?_some hi
          simp at this
          exact absurd h this
        · rename_i hn
          split at h
          · rename_i i hi
            have := List.find?_some hi
            simp at this
            exact absurd h this
          · rename_i he
            simp only [firstI, List.find?_eq_none] at hn he
            exact ⟨h0, by omega, by omega, fun j hj => by simpa using hn j (by simpa using hj), fun j hj => by simpa using he j (by simpa using hj)⟩
  · rintro ⟨h0, h1, h2, h3, h4⟩
    rw [validR_ok h0 (by omega) h3 h4]
theorem nodeE_zero {ns : List Nod} {i : Nat} {n : Nod} (hn : ns[i]? = some n) (h : nodeE ns i = 0) : nameB n.name = true ∧ (-1 ≤ n.par ∧ n.par < i) ∧ n.attrs.length ≤ 4 ∧ (attrsOf ns i).length ≤ 8 := by
  unfold nodeE at h
  rw [hn] at h
  simp only at h
  split at h
  · cases h
  · rename_i h1
    split at h
    · cases h
    · split at h
      · cases h
      · rename_i h3
        split at h
        · cases h
        · rename_i h4
          split at h
          · cases h
          · rename_i h5
            exact ⟨by simpa using h1, by omega, by omega, by omega⟩
theorem pr_of {ns : List Nod} {k : Nat} (h : ∀ j, j < k → nodeE ns j = 0) : PR ns k := fun i n hi hn => (nodeE_zero hn (h i hi)).2.1
structure Small (t : Tys) : Prop where
  nodes : t.nodes.length ≤ 20
  edges : t.edges.length ≤ 30
  node : ∀ n ∈ t.nodes, n.name.size ≤ 40 ∧ n.attrs.length ≤ 30 ∧ ∀ a ∈ n.attrs, a.name.size ≤ 40 ∧ a.names.length ≤ 25 ∧ ∀ s ∈ a.names, s.size ≤ 40
  edge : ∀ e ∈ t.edges, e.name.size ≤ 40
end Go.Sj.Typ
namespace Go.Sj.Typ
open Go.Sj
def revTo {α : Type} (n : Nat) (f : Nat → α) (i k : Nat) : α := if k < i ∨ n < k + i + 1 then f (n - 1 - k) else f k
def mkL {α : Type} (n : Nat) (f : Nat → α) : List α := (List.range n).map f
theorem mkL_length {α : Type} (n : Nat) (f : Nat → α) : (mkL n f).length = n := by simp [mkL]
theorem mkL_get {α : Type} {n i : Nat} (h : i < n) (f : Nat → α) : (mkL n f)[i]? = some (f i) := by simp [mkL, h]
theorem rev_step {α : Type} {n i : Nat} (f : Nat → α) (h : i + i + 1 < n) : ((mkL n (revTo n f i)).set i (f (n - 1 - i))).set (n - 1 - i) (f i) = mkL n (revTo n f (i + 1)) := by
  apply List.ext_getElem?
  intro k
  rw [List.getElem?_set, List.getElem?_set]
  simp only [List.length_set, mkL_length]
  by_cases hk : k < n
  · rw [mkL_get hk, mkL_get hk]
    simp only [revTo]
    by_cases e1 : n - 1 - i = k
    · subst e1
      rw [if_pos rfl, if_pos hk, if_pos (by omega), show n - 1 - (n - 1 - i) = i by omega]
    · rw [if_neg e1]
      by_cases e2 : i = k
      · subst e2
        rw [if_pos rfl, if_pos hk, if_pos (by omega)]
      · rw [if_neg e2]
        by_cases e3 : k < i ∨ n < k + i + 1
        · rw [if_pos e3, if_pos (by omega)]
        · rw [if_neg e3, if_neg (by omega)]
  · rw [List.getElem?_eq_none (by rw [mkL_length]; omega), List.getElem?_eq_none (by rw [mkL_length]; omega)]
    split
    · rw [if_neg (by omega)]
    · split
      · rw [if_neg (by omega)]
      · rfl
theorem rev_zero {α : Type} [Inhabited α] (l : List α) : mkL l.length (revTo l.length (fun k => l.getD k default) 0) = l := by
  apply List.ext_getElem?
  intro k
  by_cases hk : k < l.length
  · rw [mkL_get hk, revTo, if_neg (by omega)]
    simp [List.getD_eq_getElem?_getD, hk]
  · rw [List.getElem?_eq_none (by rw [mkL_length]; omega), List.getElem?_eq_none (by omega)]
theorem rev_all {α : Type} [Inhabited α] (l : List α) {i : Nat} (h : l.length ≤ i + i + 1) : mkL l.length (revTo l.length (fun k => l.getD k default) i) = l.reverse := by
  apply List.ext_getElem?
  intro k
  by_cases hk : k < l.length
  · rw [mkL_get hk, List.getElem?_reverse hk]
    simp only [revTo]
    have g : ∀ j, j < l.length → some (l.getD j default) = l[j]? := fun j hj => by simp [List.getD_eq_getElem?_getD, hj]
    split
    · exact g _ (by omega)
    · rw [g k hk]
      congr 1
      omega
  · rw [List.getElem?_eq_none (by rw [mkL_length]; omega), List.getElem?_eq_none (by simp; omega)]
def outB (t : Tys) (a : Int) : Bool := decide (a < 0 ∨ (t.nodes.length : Int) ≤ a)
def givenR (t : Tys) (l : List Int) : Int := if (validR t).2 ≠ 0 then (validR t).2 else if l.any (outB t) = true then 6 else 0
theorem given_ok {t : Tys} {l : List Int} (h : givenR t l = 0) : (validR t).2 = 0 ∧ ∀ a ∈ l, 0 ≤ a ∧ a < t.nodes.length := by
  unfold givenR at h
  split at h
  · rename_i h1; exact absurd h h1
  · rename_i h1
    split at h
    · cases h
    · rename_i h2
      refine ⟨by omega, fun a ha => ?_⟩
      have h3 : outB t a = false := by
        cases hb : outB t a with
        | false => rfl
        | true => exact absurd (List.any_eq_true.2 ⟨a, ha, hb⟩) h2
      simp only [outB, decide_eq_false_iff_not] at h3
      omega
theorem given_pr {t : Tys} {l : List Int} (h : givenR t l = 0) : PR t.nodes t.nodes.length := pr_of (validR_zero.1 (given_ok h).1).2.2.2.1
def isR (t : Tys) (a b : Int) : Bool := decide (givenR t [a, b] = 0) && decide (b ∈ up t.nodes a)
def fitsR (t : Tys) (e a b : Int) : Bool := if givenR t [a, b] ≠ 0 ∨ e < 0 ∨ (t.edges.length : Int) ≤ e then false else match t.edges[e.toNat]? with
  | some x => decide (x.fr ∈ up t.nodes a) && decide (x.to ∈ up t.nodes b)
  | none => false
def belR (t : Tys) (a : Int) : List Int × Int := if givenR t [a] ≠ 0 then ([], givenR t [a]) else (((List.range t.nodes.length).map fun (i : Nat) => (i : Int)).filter (fun b => decide (a ∈ up t.nodes b)), 0)
end Go.Sj.Typ
namespace Go.Sj.Typ
open Go.Sj
section
variable {ns : List Nod} (h : PR ns ns.length)
include h
end
end Go.Sj.Typ
namespace Go.Sj.Typ
open Go.Sj
section
variable {nodes edges : List (Int × Int)}
end
end Go.Sj.Typ
end
