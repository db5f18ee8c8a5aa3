/- Parts of a proof. -/
import Derived.Test.YtddohheabpiljaaGreatU07
set_option linter.unusedVariables false
set_option linter.unusedSimpArgs false
section
namespace Go.Sj.Typ
open Go.Sj
abbrev AS (s : ByteArray) : AV := .lit (.string s)
abbrev A8 (x : Int) : AV := .lit (.int .u8 x)
def letP (c : Int) : Prop := 97 ≤ c ∧ c ≤ 122 ∨ 65 ≤ c ∧ c ≤ 90
def digP (c : Int) : Prop := 48 ≤ c ∧ c ≤ 57
def parP (c : Int) : Prop := letP c ∨ digP c ∨ c = 95
instance (c : Int) : Decidable (letP c) := inferInstanceAs (Decidable (_ ∨ _))
instance (c : Int) : Decidable (digP c) := inferInstanceAs (Decidable (_ ∧ _))
instance (c : Int) : Decidable (parP c) := inferInstanceAs (Decidable (_ ∨ _))
def nameB (s : ByteArray) : Bool := decide (s.size ≠ 0 ∧ s.size ≤ 20 ∧ letP (byt s 0)) && s.data.toList.all (fun b => decide (parP b.toNat))
structure Att where
  name : ByteArray
  lo : Int
  hi : Int
  names : List ByteArray
structure Nod where
  name : ByteArray
  par : Int
  abs : Bool
  attrs : List Att
structure Edg where
  name : ByteArray
  fr : Int
  to : Int
  ol : Int
  oh : Int
  il : Int
  ih : Int
structure Tys where
  nodes : List Nod
  edges : List Edg
def cS (s : ByteArray) : List AV := [AS s]
abbrev strsA (l : List ByteArray) : AV := .im 1 (l.map cS)
def cAtt (a : Att) : List AV := [AS a.name, AI a.lo, AI a.hi, strsA a.names]
abbrev attrsA (l : List Att) : AV := .im 4 (l.map cAtt)
def cNod (n : Nod) : List AV := [AS n.name, AI n.par, AB n.abs, attrsA n.attrs]
def cEdg (e : Edg) : List AV := [AS e.name, AI e.fr, AI e.to, AI e.ol, AI e.oh, AI e.il, AI e.ih]
abbrev nodsA (l : List Nod) : AV := .im 4 (l.map cNod)
abbrev edgsA (l : List Edg) : AV := .im 7 (l.map cEdg)
abbrev tysA (t : Tys) : AV := .agg [nodsA t.nodes, edgsA t.edges]
abbrev tysP (t : Tys) : AV := .ip [nodsA t.nodes, edgsA t.edges]
def firstN (f : Nat → Int) (n : Nat) : Int := match (List.range n).find? (fun i => decide (f i ≠ 0)) with | some i => f i | none => 0
theorem find_range {p : Nat → Bool} {n i : Nat} (h : ∀ j, j < i → p j = false) (hi : i < n) (hp : p i = true) : (List.range n).find? p = some i := by
  rw [List.find?_eq_some_iff_getElem]
  refine ⟨hp, i, by simpa using hi, by simp, fun j hj => ?_⟩
  simp [h j hj]
theorem find_range_none {p : Nat → Bool} {n : Nat} (h : ∀ j, j < n → p j = false) : (List.range n).find? p = none := by
  rw [List.find?_eq_none]
  intro x hx
  simp [h x (by simpa using hx)]
theorem firstN_at {f : Nat → Int} {n i : Nat} (h : ∀ j, j < i → f j = 0) (hi : i < n) (hp : f i ≠ 0) : firstN f n = f i := by
  unfold firstN
  rw [find_range (i := i) (fun j hj => by simp [h j hj]) hi (by simpa using hp)]
theorem firstN_none {f : Nat → Int} {n : Nat} (h : ∀ j, j < n → f j = 0) : firstN f n = 0 := by
  unfold firstN
  rw [find_range_none (fun j hj => by simp [h j hj])]
def nameAt (l : List ByteArray) (i : Nat) : Int := match l[i]? with
  | some s => if nameB s = true then (if s ∈ l.take i then 5 else 0) else 2
  | none => 0
def namesE (l : List ByteArray) : Int := if 20 < l.length then 3 else firstN (nameAt l) l.length
def rangeE (a : Att) : Int :=
  if a.names = [] then (if -1000000 ≤ a.lo ∧ a.lo ≤ a.hi ∧ a.hi ≤ 1000000 then 0 else 6)
  else (if a.lo = 0 ∧ a.hi = a.names.length - 1 then 0 else 6)
def bodyE (a : Att) : Int := if namesE a.names ≠ 0 then namesE a.names else rangeE a
def attrE (a : Att) (before : List Att) : Int := if nameB a.name = false then 2 else if (before.any fun b => decide (b.name = a.name)) = true then 5 else bodyE a
def upF : Nat → List Nod → Int → List Int
  | 0, _, _ => []
  | f + 1, ns, a => if a < 0 then [] else match ns[a.toNat]? with
    | none => []
    | some n => a :: upF f ns n.par
def up (ns : List Nod) (a : Int) : List Int := upF (a + 1).toNat ns a
def PR (ns : List Nod) (k : Nat) : Prop := ∀ (i : Nat) (n : Nod), i < k → ns[i]? = some n → -1 ≤ n.par ∧ n.par < i
theorem PR.mono {ns : List Nod} {k j : Nat} (h : PR ns k) (hj : j ≤ k) : PR ns j := fun i n hi => h i n (by omega)
theorem upF_eq {ns : List Nod} {k : Nat} (h : PR ns k) : ∀ (f g : Nat) (a : Int), a < k → a + 1 ≤ f → a + 1 ≤ g → upF f ns a = upF g ns a
  | 0, 0, a, _, _, _ => rfl
  | 0, g + 1, a, _, hf, _ => by simp only [upF]; rw [if_pos (by omega)]
  | f + 1, 0, a, _, _, hg => by simp only [upF]; rw [if_pos (by omega)]
  | f + 1, g + 1, a, ha, hf, hg => by
    simp only [upF]
    split
    · rfl
    · rename_i hn
      cases hx : ns[a.toNat]? with
      | none => rfl
      | some n =>
        have := h a.toNat n (by omega) hx
        simp only
        rw [upF_eq h f g n.par (by omega) (by omega) (by omega)]
theorem up_neg {ns : List Nod} {a : Int} (h : a < 0) : up ns a = [] := by
  unfold up
  rw [show (a + 1).toNat = 0 by omega]; rfl
theorem up_step {ns : List Nod} {k : Nat} (h : PR ns k) {a : Int} {n : Nod} (h0 : 0 ≤ a) (ha : a < k) (hn : ns[a.toNat]? = some n) : up ns a = a :: up ns n.par := by
  have hp := h a.toNat n (by omega) hn
  unfold up
  rw [show (a + 1).toNat = a.toNat + 1 by omega]
  simp only [upF]
  rw [if_neg (by omega), hn]
  simp only
  rw [upF_eq h a.toNat (n.par + 1).toNat n.par (by omega) (by omega) (by omega)]
theorem up_len {ns : List Nod} {k : Nat} (h : PR ns k) (hk : k ≤ ns.length) : ∀ (m : Nat) (a : Int), a + 1 ≤ m → a < k → (up ns a).length ≤ m
  | 0, a, hm, ha => by rw [up_neg (by omega)]; simp
  | m + 1, a, hm, ha => by
    by_cases h0 : a < 0
    · rw [up_neg h0]; simp
    · have hx := List.getElem?_eq_getElem (l := ns) (i := a.toNat) (by omega)
      rw [up_step h (by omega) ha hx]
      have hp := h a.toNat _ (by omega) hx
      have := up_len h hk m _ (by omega : (ns[a.toNat]).par + 1 ≤ m) (by omega)
      simp only [List.length_cons]
      omega
def ownA (ns : List Nod) (a : Int) : List Att := match ns[a.toNat]? with | some n => n.attrs | none => []
def attrsOf (ns : List Nod) (a : Int) : List Att := ((up ns a).reverse.map (ownA ns)).flatten
theorem attrsOf_neg {ns : List Nod} {a : Int} (h : a < 0) : attrsOf ns a = [] := by simp [attrsOf, up_neg h]
theorem attrsOf_step {ns : List Nod} {k : Nat} (h : PR ns k) {a : Int} {n : Nod} (h0 : 0 ≤ a) (ha : a < k) (hn : ns[a.toNat]? = some n) : attrsOf ns a = attrsOf ns n.par ++ n.attrs := by
  unfold attrsOf
  rw [up_step h h0 ha hn]
  simp [ownA, hn]
def attAt (all : List Att) (k : Nat) : Int := match all[k]? with | some a => attrE a (all.take k) | none => 0
def nodeE (ns : List Nod) (i : Nat) : Int := match ns[i]? with
  | some n =>
    if nameB n.name = false then 2 else if ((ns.take i).any fun m => decide (m.name = n.name)) = true then 5 else if n.par < -1 ∨ (i : Int) ≤ n.par then 6 else if 4 < n.attrs.length then 3
    else if 8 < (attrsOf ns i).length then 3
    else firstN (fun j => attAt (attrsOf ns i) ((attrsOf ns i).length - n.attrs.length + j)) n.attrs.length
  | none => 0
def boundP (lo hi : Int) : Prop := 0 ≤ lo ∧ lo ≤ 40 ∧ (hi = -1 ∨ lo ≤ hi ∧ hi ≤ 40)
instance (lo hi : Int) : Decidable (boundP lo hi) := inferInstanceAs (Decidable (_ ∧ _))
def edgeE (t : Tys) (i : Nat) : Int := match t.edges[i]? with
  | some e =>
    if nameB e.name = false then 2 else if ((t.edges.take i).any fun m => decide (m.name = e.name)) = true then 5
    else if (0 ≤ e.fr ∧ e.fr < t.nodes.length) ∧ (0 ≤ e.to ∧ e.to < t.nodes.length) ∧ boundP e.ol e.oh ∧ boundP e.il e.ih then 0 else 6
  | none => 0
def firstI (f : Nat → Int) (n : Nat) : Option Nat := (List.range n).find? (fun i => decide (f i ≠ 0))
def validR (t : Tys) : ByteArray × Int :=
  if t.nodes.length = 0 then (⟨#[]⟩, 7) else if 12 < t.nodes.length ∨ 20 < t.edges.length then (⟨#[]⟩, 3)
  else match firstI (nodeE t.nodes) t.nodes.length with
    | some i => ((t.nodes[i]?.map (·.name)).getD ⟨#[]⟩, nodeE t.nodes i)
    | none => match firstI (edgeE t) t.edges.length with
      | some i => ((t.edges[i]?.map (·.name)).getD ⟨#[]⟩, edgeE t i)
      | none => (⟨#[]⟩, 0)
theorem validR_node {t : Tys} {i : Nat} {n : Nod} (h0 : t.nodes.length ≠ 0) (h1 : ¬ (12 < t.nodes.length ∨ 20 < t.edges.length)) (h : ∀ j, j < i → nodeE t.nodes j = 0) (hi : t.nodes[i]? = some n) (hp : nodeE t.nodes i ≠ 0) : validR t = (n.name, nodeE t.nodes i) := by
  unfold validR
  rw [if_neg h0, if_neg h1]
  rw [show firstI (nodeE t.nodes) t.nodes.length = some i from find_range (fun j hj => by simp [h j hj]) (List.getElem?_eq_some_iff.1 hi).1 (by simpa using hp)]
  simp [hi]
theorem validR_edge {t : Tys} {i : Nat} {e : Edg} (h0 : t.nodes.length ≠ 0) (h1 : ¬ (12 < t.nodes.length ∨ 20 < t.edges.length)) (hn : ∀ j, j < t.nodes.length → nodeE t.nodes j = 0) (h : ∀ j, j < i → edgeE t j = 0) (hi : t.edges[i]? = some e) (hp : edgeE t i ≠ 0) : validR t = (e.name, edgeE t i) := by
  unfold validR
  rw [if_neg h0, if_neg h1]
  rw [show firstI (nodeE t.nodes) t.nodes.length = none from find_range_none (fun j hj => by simp [hn j hj])]
  rw [show firstI (edgeE t) t.edges.length = some i from find_range (fun j hj => by simp [h j hj]) (List.getElem?_eq_some_iff.1 hi).1 (by simpa using hp)]
  simp [hi]
theorem validR_ok {t : Tys} (h0 : t.nodes.length ≠ 0) (h1 : ¬ (12 < t.nodes.length ∨ 20 < t.edges.length)) (hn : ∀ j, j < t.nodes.length → nodeE t.nodes j = 0) (h : ∀ j, j < t.edges.length → edgeE t j = 0) : validR t = (⟨#[]⟩, 0) := by
  unfold validR
  rw [if_neg h0, if_neg h1]
  rw [show firstI (nodeE t.nodes) t.nodes.length = none from find_range_none (fun j hj => by simp [hn j hj])]
  rw [show firstI (edgeE t) t.edges.length = none from find_range_none (fun j hj => by simp [h j hj])]
theorem validR_zero {t : Tys} : (validR t).2 = 0 ↔ t.nodes.length ≠ 0 ∧ t.nodes.length ≤ 12 ∧ t.edges.length ≤ 20 ∧ (∀ j, j < t.nodes.length → nodeE t.nodes j = 0) ∧ ∀ j, j < t.edges.length → edgeE t j = 0 := by
  constructor
  · intro h
    unfold validR at h
    split at h
    · cases h
    · split at h
      · cases h
      · rename_i h0 h1
        split at h
        · rename_i i hi
          have := List.find?_some hi
          simp at this
          exact absurd h this
        · rename_i hn
          split at h
          · rename_i i hi
            have := List.find?_some hi
            simp at this
            exact absurd h this
          · rename_i he
            simp only [firstI, List.find?_eq_none] at hn he
            exact ⟨h0, by omega, by omega, fun j hj => by simpa using hn j (by simpa using hj), fun j hj => by simpa using he j (by simpa using hj)⟩
  · rintro ⟨h0, h1, h2, h3, h4⟩
    rw [validR_ok h0 (by omega) h3 h4]
theorem nodeE_zero {ns : List Nod} {i : Nat} {n : Nod} (hn : ns[i]? = some n) (h : nodeE ns i = 0) : nameB n.name = true ∧ (-1 ≤ n.par ∧ n.par < i) ∧ n.attrs.length ≤ 4 ∧ (attrsOf ns i).length ≤ 8 := by
  unfold nodeE at h
  rw [hn] at h
  simp only at h
  split at h
  · cases h
  · rename_i h1
    split at h
    · cases h
    · split at h
      · cases h
      · rename_i h3
        split at h
        · cases h
        · rename_i h4
          split at h
          · cases h
          · rename_i h5
            exact ⟨by simpa using h1, by omega, by omega, by omega⟩
theorem pr_of {ns : List Nod} {k : Nat} (h : ∀ j, j < k → nodeE ns j = 0) : PR ns k := fun i n hi hn => (nodeE_zero hn (h i hi)).2.1
structure Small (t : Tys) : Prop where
  nodes : t.nodes.length ≤ 20
  edges : t.edges.length ≤ 30
  node : ∀ n ∈ t.nodes, n.name.size ≤ 40 ∧ n.attrs.length ≤ 30 ∧ ∀ a ∈ n.attrs, a.name.size ≤ 40 ∧ a.names.length ≤ 25 ∧ ∀ s ∈ a.names, s.size ≤ 40
  edge : ∀ e ∈ t.edges, e.name.size ≤ 40
end Go.Sj.Typ
namespace Go.Sj.Typ
open Go.Sj
def revTo {α : Type} (n : Nat) (f : Nat → α) (i k : Nat) : α := if k < i ∨ n < k + i + 1 then f (n - 1 - k) else f k
def mkL {α : Type} (n : Nat) (f : Nat → α) : List α := (List.range n).map f
theorem mkL_length {α : Type} (n : Nat) (f : Nat → α) : (mkL n f).length = n := by simp [mkL]
theorem mkL_get {α : Type} {n i : Nat} (h : i < n) (f : Nat → α) : (mkL n f)[i]? = some (f i) := by simp [mkL, h]
theorem rev_step {α : Type} {n i : Nat} (f : Nat → α) (h : i + i + 1 < n) : ((mkL n (revTo n f i)).set i (f (n - 1 - i))).set (n - 1 - i) (f i) = mkL n (revTo n f (i + 1)) := by
  apply List.ext_getElem?
  intro k
  rw [List.getElem?_set, List.getElem?_set]
  simp only [List.length_set, mkL_length]
  by_cases hk : k < n
  · rw [mkL_get hk, mkL_get hk]
    simp only [revTo]
    by_cases e1 : n - 1 - i = k
    · subst e1
      rw [if_pos rfl, if_pos hk, if_pos (by omega), show n - 1 - (n - 1 - i) = i by omega]
    · rw [if_neg e1]
      by_cases e2 : i = k
      · subst e2
        rw [if_pos rfl, if_pos hk, if_pos (by omega)]
      · rw [if_neg e2]
        by_cases e3 : k < i ∨ n < k + i + 1
        · rw [if_pos e3, if_pos (by omega)]
        · rw [if_neg e3, if_neg (by omega)]
  · rw [List.getElem?_eq_none (by rw [mkL_length]; omega), List.getElem?_eq_none (by rw [mkL_length]; omega)]
    split
    · rw [if_neg (by omega)]
    · split
      · rw [if_neg (by omega)]
      · rfl
theorem rev_zero {α : Type} [Inhabited α] (l : List α) : mkL l.length (revTo l.length (fun k => l.getD k default) 0) = l := by
  apply List.ext_getElem?
  intro k
  by_cases hk : k < l.length
  · rw [mkL_get hk, revTo, if_neg (by omega)]
    simp [List.getD_eq_getElem?_getD, hk]
  · rw [List.getElem?_eq_none (by rw [mkL_length]; omega), List.getElem?_eq_none (by omega)]
theorem rev_all {α : Type} [Inhabited α] (l : List α) {i : Nat} (h : l.length ≤ i + i + 1) : mkL l.length (revTo l.length (fun k => l.getD k default) i) = l.reverse := by
  apply List.ext_getElem?
  intro k
  by_cases hk : k < l.length
  · rw [mkL_get hk, List.getElem?_reverse hk]
    simp only [revTo]
    have g : ∀ j, j < l.length → some (l.getD j default) = l[j]? := fun j hj => by simp [List.getD_eq_getElem?_getD, hj]
    split
    · exact g _ (by omega)
    · rw [g k hk]
      congr 1
      omega
  · rw [List.getElem?_eq_none (by rw [mkL_length]; omega), List.getElem?_eq_none (by simp; omega)]
def outB (t : Tys) (a : Int) : Bool := decide (a < 0 ∨ (t.nodes.length : Int) ≤ a)
def givenR (t : Tys) (l : List Int) : Int := if (validR t).2 ≠ 0 then (validR t).2 else if l.any (outB t) = true then 6 else 0
theorem given_ok {t : Tys} {l : List Int} (h : givenR t l = 0) : (validR t).2 = 0 ∧ ∀ a ∈ l, 0 ≤ a ∧ a < t.nodes.length := by
  unfold givenR at h
  split at h
  · rename_i h1; exact absurd h h1
  · rename_i h1
    split at h
    · cases h
    · rename_i h2
      refine ⟨by omega, fun a ha => ?_⟩
      have h3 : outB t a = false := by
        cases hb : outB t a with
        | false => rfl
        | true => exact absurd (List.any_eq_true.2 ⟨a, ha, hb⟩) h2
      simp only [outB, decide_eq_false_iff_not] at h3
      omega
theorem given_pr {t : Tys} {l : List Int} (h : givenR t l = 0) : PR t.nodes t.nodes.length := pr_of (validR_zero.1 (given_ok h).1).2.2.2.1
def fitsR (t : Tys) (e a b : Int) : Bool := if givenR t [a, b] ≠ 0 ∨ e < 0 ∨ (t.edges.length : Int) ≤ e then false else match t.edges[e.toNat]? with
  | some x => decide (x.fr ∈ up t.nodes a) && decide (x.to ∈ up t.nodes b)
  | none => false
def belR (t : Tys) (a : Int) : List Int × Int := if givenR t [a] ≠ 0 then ([], givenR t [a]) else (((List.range t.nodes.length).map fun (i : Nat) => (i : Int)).filter (fun b => decide (a ∈ up t.nodes b)), 0)
end Go.Sj.Typ
namespace Go.Sj.Typ
open Go.Sj
section
variable {ns : List Nod} (h : PR ns ns.length)
include h
end
def nmS (l : List UInt8) (i : Nat) : ByteArray := (ByteArray.mk l.toArray).extract i (i + 1)
def upper : List UInt8 := [65, 66, 67, 68, 69, 70]
def lower : List UInt8 := [117, 118, 119, 120, 121, 122]
def edgeL : List UInt8 := [101, 102, 103, 104, 105]
def offS : ByteArray := ⟨#[111, 102, 102]⟩
def onS : ByteArray := ⟨#[111, 110]⟩
def madeA (i : Nat) (y : Int) : List Att := if y % 4 = 1 then [⟨nmS lower i, -3, 3 + y / 4 % 9, []⟩] else if y % 4 = 2 then [⟨nmS lower i, 0, 1, [offS, onS]⟩] else []
def madeN (i : Nat) (x y : Int) : Nod := ⟨nmS upper i, x % (i + 1) - 1, decide (x / 16 % 4 = 3), madeA i y⟩
def codeAt (l : List (Int × Int)) (i : Nat) : Int × Int := l.getD i (0, 0)
def madeNs (l : List (Int × Int)) (n : Nat) : List Nod := (List.range n).map fun i => madeN i (codeAt l i).1 (codeAt l i).2
def zmu (l : List (Int × Int)) : Nat := if l.length = 0 then 1 else min 6 l.length
def madeE (n : Nat) (i : Nat) (c : Int × Int) : Edg := ⟨nmS edgeL i, c.1 % n, c.2 % n, 0, -1, 0, -1⟩
def madeEs (n : Nat) (l : List (Int × Int)) (m : Nat) : List Edg := (List.range m).map fun i => madeE n i (codeAt l i)
def madeT (nodes edges : List (Int × Int)) : Tys := ⟨madeNs nodes (zmu nodes), madeEs (zmu nodes) edges (min 5 edges.length)⟩
def Cd (l : List (Int × Int)) : Prop := ∀ c ∈ l, (0 ≤ c.1 ∧ c.1 ≤ 255) ∧ (0 ≤ c.2 ∧ c.2 ≤ 255)
theorem codeAt_rng {l : List (Int × Int)} (h : Cd l) (i : Nat) : (0 ≤ (codeAt l i).1 ∧ (codeAt l i).1 ≤ 255) ∧ (0 ≤ (codeAt l i).2 ∧ (codeAt l i).2 ≤ 255) := by
  unfold codeAt
  rw [List.getD_eq_getElem?_getD]
  cases hx : l[i]? with
  | none => simp
  | some c => exact h c (List.mem_of_getElem? hx)
theorem madeNum_rng (l : List (Int × Int)) : 1 ≤ zmu l ∧ zmu l ≤ 6 := by
  unfold zmu
  split <;> omega
theorem nm_upper : ∀ i, i < 6 → nameB (nmS upper i) = true ∧ (nmS upper i).size = 1 := by decide +kernel
theorem nm_lower : ∀ i, i < 6 → nameB (nmS lower i) = true ∧ (nmS lower i).size = 1 := by decide +kernel
theorem nm_edge : ∀ i, i < 5 → nameB (nmS edgeL i) = true ∧ (nmS edgeL i).size = 1 := by decide +kernel
theorem nm_upper_ne : ∀ i, i < 6 → ∀ j, j < i → nmS upper j ≠ nmS upper i := by decide +kernel
theorem nm_lower_ne : ∀ i, i < 6 → ∀ j, j < i → nmS lower j ≠ nmS lower i := by decide +kernel
theorem nm_edge_ne : ∀ i, i < 5 → ∀ j, j < i → nmS edgeL j ≠ nmS edgeL i := by decide +kernel
theorem names_on : namesE [offS, onS] = 0 := by decide +kernel
theorem madeNs_get {l : List (Int × Int)} {n i : Nat} (h : i < n) : (madeNs l n)[i]? = some (madeN i (codeAt l i).1 (codeAt l i).2) := by simp [madeNs, h]
theorem madeNs_len (l : List (Int × Int)) (n : Nat) : (madeNs l n).length = n := by simp [madeNs]
theorem madePR (l : List (Int × Int)) (n : Nat) : PR (madeNs l n) n := fun i m hi hm => by
  rw [madeNs_get hi] at hm
  cases hm
  simp only [madeN]
  have h1 := Int.emod_nonneg (codeAt l i).1 (b := (i : Int) + 1) (by omega)
  have h2 := Int.emod_lt_of_pos (codeAt l i).1 (b := (i : Int) + 1) (by omega)
  omega
theorem madeA_len (i : Nat) (y : Int) : (madeA i y).length ≤ 1 := by
  unfold madeA
  split
  · simp
  · split <;> simp
theorem madeA_mem {i : Nat} {y : Int} {a : Att} (h : a ∈ madeA i y) : a.name = nmS lower i := by
  unfold madeA at h
  split at h
  · obtain rfl := List.mem_singleton.1 h; rfl
  · split at h
    · obtain rfl := List.mem_singleton.1 h; rfl
    · cases h
theorem madeA_body {i : Nat} {y : Int} {a : Att} (h : a ∈ madeA i y) : bodyE a = 0 := by
  unfold madeA at h
  split at h
  · obtain rfl := List.mem_singleton.1 h
    unfold bodyE rangeE
    rw [show namesE [] = 0 from rfl, if_neg (by decide), if_pos rfl, if_pos]
    simp only
    omega
  · split at h
    · obtain rfl := List.mem_singleton.1 h
      unfold bodyE rangeE
      rw [names_on, if_neg (by decide), if_neg (by simp), if_pos]
      simp
    · cases h
theorem made_attrs {l : List (Int × Int)} {n : Nat} : ∀ (m : Nat) (a : Int), a + 1 ≤ m → a < n → (attrsOf (madeNs l n) a).length ≤ m ∧ ∀ x ∈ attrsOf (madeNs l n) a, ∃ i : Nat, (i : Int) ≤ a ∧ x ∈ madeA i (codeAt l i).2
  | 0, a, hm, ha => by rw [attrsOf_neg (by omega)]; simp
  | m + 1, a, hm, ha => by
    by_cases h0 : a < 0
    · rw [attrsOf_neg h0]; simp
    · have hx := madeNs_get (l := l) (n := n) (i := a.toNat) (by omega)
      have hp := madePR l n a.toNat _ (by omega) hx
      rw [attrsOf_step (madePR l n) (by omega) ha hx]
      obtain ⟨i1, i2⟩ := made_attrs (l := l) (n := n) m _ (by omega : (madeN a.toNat (codeAt l a.toNat).1 (codeAt l a.toNat).2).par + 1 ≤ m) (by omega)
      have := madeA_len a.toNat (codeAt l a.toNat).2
      refine ⟨by rw [List.length_append]; simp only [madeN] at *; omega, fun x hx => ?_⟩
      rcases List.mem_append.1 hx with h1 | h1
      · obtain ⟨i, hi, hxi⟩ := i2 x h1
        exact ⟨i, by omega, hxi⟩
      · exact ⟨a.toNat, by omega, h1⟩
theorem made_node {l : List (Int × Int)} {n i : Nat} (hn : n ≤ 6) (hi : i < n) : nodeE (madeNs l n) i = 0 := by
  have hx := madeNs_get (l := l) hi
  have hp := madePR l n i _ hi hx
  have hst := attrsOf_step (madePR l n) (a := (i : Int)) (by omega) (by omega) hx
  obtain ⟨hl1, hm1⟩ := made_attrs (l := l) (n := n) 6 (i : Int) (by omega) (by omega)
  obtain ⟨_, hm2⟩ := made_attrs (l := l) (n := n) 6 (madeN i (codeAt l i).1 (codeAt l i).2).par (by omega) (by omega)
  unfold nodeE
  rw [hx]
  simp only
  have hany : ((madeNs l n).take i).any (fun m => decide (m.name = (madeN i (codeAt l i).1 (codeAt l i).2).name)) = false := by
    rw [List.any_eq_false]
    intro m hm
    rw [List.mem_take_iff_getElem] at hm
    obtain ⟨j, hj, rfl⟩ := hm
    have hjl : j < n := by rw [madeNs_len] at hj; omega
    have : (madeNs l n)[j]'(by rw [madeNs_len]; exact hjl) = madeN j (codeAt l j).1 (codeAt l j).2 := by
      have := madeNs_get (l := l) hjl
      rw [List.getElem?_eq_getElem (by rw [madeNs_len]; exact hjl)] at this
      exact Option.some.inj this
    rw [this]
    exact fun h => nm_upper_ne i (by omega) j (by omega) (of_decide_eq_true h)
  rw [if_neg (by simp only [madeN]; rw [(nm_upper i (by omega)).1]; decide), hany, if_neg (by decide), if_neg (by omega)]
  have hal := madeA_len i (codeAt l i).2
  rw [if_neg (by simp only [madeN]; omega), if_neg (by omega)]
  refine firstN_none fun j hj => ?_
  have hj0 : j = 0 := by simp only [madeN] at hj; omega
  subst hj0
  have hlen : (attrsOf (madeNs l n) i).length - (madeN i (codeAt l i).1 (codeAt l i).2).attrs.length + 0 = (attrsOf (madeNs l n) (madeN i (codeAt l i).1 (codeAt l i).2).par).length := by
    rw [hst, List.length_append]; omega
  rw [hlen]
  have hone : ∃ a, madeA i (codeAt l i).2 = [a] := by
    simp only [madeN] at hj
    match hma : madeA i (codeAt l i).2, hj, hal with
    | [a], _, _ => exact ⟨a, rfl⟩
    | [], hj, _ => simp at hj
    | _ :: _ :: _, _, hal => simp at hal
  obtain ⟨a, hone⟩ := hone
  have hat : (madeN i (codeAt l i).1 (codeAt l i).2).attrs = [a] := hone
  rw [hst, hat]
  unfold attAt
  rw [List.getElem?_append_right (Nat.le_refl _), Nat.sub_self]
  simp only [List.getElem?_cons_zero, List.take_left']
  have ham : a ∈ madeA i (codeAt l i).2 := by rw [hone]; exact List.mem_cons_self ..
  unfold attrE
  rw [madeA_mem ham, (nm_lower i (by omega)).1, if_neg (by decide)]
  rw [if_neg, madeA_body ham]
  rw [Bool.not_eq_true, List.any_eq_false]
  intro x hx'
  obtain ⟨j, hj, hxj⟩ := hm2 x hx'
  rw [madeA_mem hxj]
  exact fun h => nm_lower_ne i (by omega) j (by omega) (of_decide_eq_true h)
theorem madeEs_get {n : Nat} {l : List (Int × Int)} {m i : Nat} (h : i < m) : (madeEs n l m)[i]? = some (madeE n i (codeAt l i)) := by simp [madeEs, h]
theorem madeEs_len (n : Nat) (l : List (Int × Int)) (m : Nat) : (madeEs n l m).length = m := by simp [madeEs]
theorem made_edge {t : Tys} {n m i : Nat} {l : List (Int × Int)} (ht : t.edges = madeEs n l m) (hn : t.nodes.length = n) (h0 : 0 < n) (hm : m ≤ 5) (hi : i < m) : edgeE t i = 0 := by
  have hx := madeEs_get (n := n) (l := l) hi
  unfold edgeE
  rw [ht, hx]
  simp only
  have hany : ((madeEs n l m).take i).any (fun e => decide (e.name = (madeE n i (codeAt l i)).name)) = false := by
    rw [List.any_eq_false]
    intro e he
    rw [List.mem_take_iff_getElem] at he
    obtain ⟨j, hj, rfl⟩ := he
    have hjl : j < m := by rw [madeEs_len] at hj; omega
    have : (madeEs n l m)[j]'(by rw [madeEs_len]; exact hjl) = madeE n j (codeAt l j) := by
      have := madeEs_get (n := n) (l := l) hjl
      rw [List.getElem?_eq_getElem (by rw [madeEs_len]; exact hjl)] at this
      exact Option.some.inj this
    rw [this]
    exact fun h => nm_edge_ne i (by omega) j (by omega) (of_decide_eq_true h)
  have a1 := Int.emod_nonneg (codeAt l i).1 (b := (n : Int)) (by omega)
  have a2 := Int.emod_lt_of_pos (codeAt l i).1 (b := (n : Int)) (by omega)
  have b1 := Int.emod_nonneg (codeAt l i).2 (b := (n : Int)) (by omega)
  have b2 := Int.emod_lt_of_pos (codeAt l i).2 (b := (n : Int)) (by omega)
  rw [if_neg (by simp only [madeE]; rw [(nm_edge i (by omega)).1]; decide), hany, if_neg (by decide), if_pos]
  rw [hn]
  refine ⟨⟨a1, a2⟩, ⟨b1, b2⟩, ?_, ?_⟩ <;> (show boundP 0 (-1); unfold boundP; omega)
theorem made_valid (nodes edges : List (Int × Int)) : (validR (madeT nodes edges)).2 = 0 := by
  obtain ⟨h1, h2⟩ := madeNum_rng nodes
  refine validR_zero.2 ⟨?_, ?_, ?_, fun j hj => ?_, fun j hj => ?_⟩
  · simp only [madeT, madeNs_len]; omega
  · simp only [madeT, madeNs_len]; omega
  · simp only [madeT, madeEs_len]; omega
  · simp only [madeT, madeNs_len] at hj
    exact made_node h2 hj
  · simp only [madeT, madeEs_len] at hj
    exact made_edge (n := zmu nodes) (m := min 5 edges.length) (l := edges) rfl (by simp only [madeT, madeNs_len]) (by omega) (by omega) hj
theorem made_small (nodes edges : List (Int × Int)) : Small (madeT nodes edges) := by
  obtain ⟨h1, h2⟩ := madeNum_rng nodes
  refine ⟨by simp only [madeT, madeNs_len]; omega, by simp only [madeT, madeEs_len]; omega, fun n hn => ?_, fun e he => ?_⟩
  · simp only [madeT, madeNs, List.mem_map, List.mem_range] at hn
    obtain ⟨i, hi, rfl⟩ := hn
    refine ⟨by simp only [madeN]; rw [(nm_upper i (by omega)).2]; decide, by have := madeA_len i (codeAt nodes i).2; simp only [madeN]; omega, fun a ha => ?_⟩
    have ha' : a ∈ madeA i (codeAt nodes i).2 := ha
    refine ⟨by rw [madeA_mem ha', (nm_lower i (by omega)).2]; decide, ?_⟩
    unfold madeA at ha'
    split at ha'
    · obtain rfl := List.mem_singleton.1 ha'; simp
    · split at ha'
      · obtain rfl := List.mem_singleton.1 ha'
        refine ⟨by simp, ?_⟩
        simp only
        decide
      · cases ha'
  · simp only [madeT, madeEs, List.mem_map, List.mem_range] at he
    obtain ⟨i, hi, rfl⟩ := he
    simp only [madeE]
    rw [(nm_edge i (by omega)).2]; decide
theorem made_nodes (nodes edges : List (Int × Int)) : (madeT nodes edges).nodes.length = zmu nodes := by simp only [madeT, madeNs_len]
end Go.Sj.Typ
namespace Go.Sj.Typ
open Go.Sj
section
variable {nodes edges : List (Int × Int)}
end
theorem wf_n8 {a : Int} (h : (Lit.int .u8 a).wf = true) : 0 ≤ a ∧ a ≤ 255 := by
  simp only [Lit.wf, Bool.and_eq_true, decide_eq_true_eq] at h
  rw [show IntKind.u8.min = 0 by decide, show IntKind.u8.max = 255 by decide] at h
  exact h
def Okn (n : Nat) (l : List Int) : Prop := l.length = n ∧ ∀ m ∈ l, (Lit.int .u8 m).wf = true
def c82 (c : Int × Int) : List AV := [A8 c.1, A8 c.2]
def toC2 : List Int → Int × Int
  | [a, b] => (a, b)
  | _ => (0, 0)
theorem toC2_c {l : List Int} (h : l.length = 2) : (l.map fun m => AV.lit (.int .u8 m)) = c82 (toC2 l) := by
  match l, h with
  | [a, b], _ => rfl
theorem toC2_ok {l : List Int} (h : Okn 2 l) : (0 ≤ (toC2 l).1 ∧ (toC2 l).1 ≤ 255) ∧ (0 ≤ (toC2 l).2 ∧ (toC2 l).2 ≤ 255) := by
  obtain ⟨h1, h2⟩ := h
  match l, h1, h2 with
  | [a, b], _, h2 => exact ⟨wf_n8 (h2 a (by simp)), wf_n8 (h2 b (by simp))⟩
end Go.Sj.Typ
end
