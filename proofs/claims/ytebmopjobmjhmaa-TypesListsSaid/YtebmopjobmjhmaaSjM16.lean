/-
  Type graphs, part 2: rows turned around, chains of supertypes: plain mathematics.
-/
import Derived.Test.YtebmopjobmjhmaaSjM15
namespace Go.Sj.Typ
open Go.Sj
set_option linter.unusedVariables false

/-- A list turned around as far as i. -/
def revTo {α : Type} (n : Nat) (f : Nat → α) (i k : Nat) : α := if k < i ∨ n < k + i + 1 then f (n - 1 - k) else f k
def mkL {α : Type} (n : Nat) (f : Nat → α) : List α := (List.range n).map f
theorem mkL_length {α : Type} (n : Nat) (f : Nat → α) : (mkL n f).length = n := by simp [mkL]
theorem mkL_get {α : Type} {n i : Nat} (h : i < n) (f : Nat → α) : (mkL n f)[i]? = some (f i) := by simp [mkL, h]
theorem rev_step {α : Type} {n i : Nat} (f : Nat → α) (h : i + i + 1 < n) : ((mkL n (revTo n f i)).set i (f (n - 1 - i))).set (n - 1 - i) (f i) = mkL n (revTo n f (i + 1)) := by
  apply List.ext_getElem?
  intro k
  rw [List.getElem?_set, List.getElem?_set]
  simp only [List.length_set, mkL_length]
  by_cases hk : k < n
  · rw [mkL_get hk, mkL_get hk]
    simp only [revTo]
    by_cases e1 : n - 1 - i = k
    · subst e1
      rw [if_pos rfl, if_pos hk, if_pos (by omega), show n - 1 - (n - 1 - i) = i by omega]
    · rw [if_neg e1]
      by_cases e2 : i = k
      · subst e2
        rw [if_pos rfl, if_pos hk, if_pos (by omega)]
      · rw [if_neg e2]
        by_cases e3 : k < i ∨ n < k + i + 1
        · rw [if_pos e3, if_pos (by omega)]
        · rw [if_neg e3, if_neg (by omega)]
  · rw [List.getElem?_eq_none (by rw [mkL_length]; omega), List.getElem?_eq_none (by rw [mkL_length]; omega)]
    split
    · rw [if_neg (by omega)]
    · split
      · rw [if_neg (by omega)]
      · rfl
theorem rev_zero {α : Type} [Inhabited α] (l : List α) : mkL l.length (revTo l.length (fun k => l.getD k default) 0) = l := by
  apply List.ext_getElem?
  intro k
  by_cases hk : k < l.length
  · rw [mkL_get hk, revTo, if_neg (by omega)]
    simp [List.getD_eq_getElem?_getD, hk]
  · rw [List.getElem?_eq_none (by rw [mkL_length]; omega), List.getElem?_eq_none (by omega)]
theorem rev_all {α : Type} [Inhabited α] (l : List α) {i : Nat} (h : l.length ≤ i + i + 1) : mkL l.length (revTo l.length (fun k => l.getD k default) i) = l.reverse := by
  apply List.ext_getElem?
  intro k
  by_cases hk : k < l.length
  · rw [mkL_get hk, List.getElem?_reverse hk]
    simp only [revTo]
    have g : ∀ j, j < l.length → some (l.getD j default) = l[j]? := fun j hj => by simp [List.getD_eq_getElem?_getD, hj]
    split
    · exact g _ (by omega)
    · rw [g k hk]
      congr 1
      omega
  · rw [List.getElem?_eq_none (by rw [mkL_length]; omega), List.getElem?_eq_none (by simp; omega)]

/-! Chains. -/
theorem filter_mem {n : Nat} : ∀ (l : List Int), l.Pairwise (· < ·) → (∀ x ∈ l, 0 ≤ x ∧ x < n) → ((List.range n).map fun (i : Nat) => (i : Int)).filter (fun x => decide (x ∈ l)) = l := by
  induction n with
  | zero =>
    intro l _ hl
    match l, hl with
    | [], _ => rfl
    | x :: l, hl => have := hl x (by simp); omega
  | succ n ih =>
    intro l hs hl
    rw [List.range_succ, List.map_append, List.filter_append, List.map_cons, List.map_nil]
    by_cases hn : (n : Int) ∈ l
    · have hne : l ≠ [] := fun h => by rw [h] at hn; cases hn
      have hlast : l.getLast hne = n := by
        have h1 := hl _ (List.getLast_mem hne)
        rw [← List.dropLast_concat_getLast hne] at hn hs
        rcases List.mem_append.1 hn with h2 | h2
        · have := (List.pairwise_append.1 hs).2.2 _ h2 (l.getLast hne) (by simp)
          omega
        · exact (List.mem_singleton.1 h2).symm
      have hl2 : l = l.dropLast ++ [(n : Int)] := by rw [← hlast]; exact (List.dropLast_concat_getLast hne).symm
      generalize l.dropLast = m at hl2
      subst hl2
      have hs' := List.pairwise_append.1 hs
      have hm : ∀ x ∈ m, 0 ≤ x ∧ x < n := fun x hx => ⟨(hl x (by simp [hx])).1, hs'.2.2 x hx n (by simp)⟩
      have e := ih m hs'.1 hm
      have e2 : ((List.range n).map fun (i : Nat) => (i : Int)).filter (fun x => decide (x ∈ m ++ [(n : Int)])) = ((List.range n).map fun (i : Nat) => (i : Int)).filter (fun x => decide (x ∈ m)) := by
        refine List.filter_congr fun x hx => ?_
        obtain ⟨i, hi, rfl⟩ := List.mem_map.1 hx
        have := List.mem_range.1 hi
        have hne : (i : Int) ≠ n := by omega
        simp [hne]
      rw [e2, e]
      simp
    · have hm : ∀ x ∈ l, 0 ≤ x ∧ x < n := fun x hx => by
        have := hl x hx
        have : x ≠ n := fun h => hn (h ▸ hx)
        omega
      rw [ih l hs hm]
      simp [hn]
theorem up_sorted {ns : List Nod} {k : Nat} (h : PR ns k) (hk : k ≤ ns.length) : ∀ (m : Nat) (a : Int), a + 1 ≤ m → a < k → (up ns a).reverse.Pairwise (· < ·)
  | 0, a, hm, ha => by rw [up_neg (by omega)]; exact List.Pairwise.nil
  | m + 1, a, hm, ha => by
    by_cases h0 : a < 0
    · rw [up_neg h0]; exact List.Pairwise.nil
    · have hx := List.getElem?_eq_getElem (l := ns) (i := a.toNat) (by omega)
      have hp := h a.toNat _ (by omega) hx
      rw [up_step h (by omega) ha hx, List.reverse_cons, List.pairwise_append]
      refine ⟨up_sorted h hk m _ (by omega) (by omega), by simp, fun x hx y hy => ?_⟩
      obtain rfl := List.mem_singleton.1 hy
      have := up_mem h hk (m + 1) _ (by omega) (by omega) x (List.mem_reverse.1 hx)
      omega
/-- The chain of a type, from the root on. -/
theorem up_filter {ns : List Nod} {k : Nat} (h : PR ns k) (hk : k ≤ ns.length) {a : Int} (h0 : 0 ≤ a) (ha : a < k) : ((List.range (a.toNat + 1)).map fun (i : Nat) => (i : Int)).filter (fun x => decide (x ∈ up ns a)) = (up ns a).reverse := by
  have e := filter_mem (n := a.toNat + 1) (up ns a).reverse (up_sorted h hk (a.toNat + 1) a (by omega) ha) (fun x hx => by
    have := up_mem h hk (a.toNat + 1) a (by omega) ha x (List.mem_reverse.1 hx)
    omega)
  rw [← e]
  refine List.filter_congr fun x _ => ?_
  simp
def outB (t : Tys) (a : Int) : Bool := decide (a < 0 ∨ (t.nodes.length : Int) ≤ a)
def givenR (t : Tys) (l : List Int) : Int := if (validR t).2 ≠ 0 then (validR t).2 else if l.any (outB t) = true then 6 else 0
theorem given_ok {t : Tys} {l : List Int} (h : givenR t l = 0) : (validR t).2 = 0 ∧ ∀ a ∈ l, 0 ≤ a ∧ a < t.nodes.length := by
  unfold givenR at h
  split at h
  · rename_i h1; exact absurd h h1
  · rename_i h1
    split at h
    · cases h
    · rename_i h2
      refine ⟨by omega, fun a ha => ?_⟩
      have h3 : outB t a = false := by
        cases hb : outB t a with
        | false => rfl
        | true => exact absurd (List.any_eq_true.2 ⟨a, ha, hb⟩) h2
      simp only [outB, decide_eq_false_iff_not] at h3
      omega
theorem given_pr {t : Tys} {l : List Int} (h : givenR t l = 0) : PR t.nodes t.nodes.length := pr_of (validR_zero.1 (given_ok h).1).2.2.2.1
theorem given_two (t : Tys) (a : Int) : givenR t [a, a] = givenR t [a] := by simp [givenR]
def isR (t : Tys) (a b : Int) : Bool := decide (givenR t [a, b] = 0) && decide (b ∈ up t.nodes a)
def meetR (t : Tys) (a b : Int) : Int × Int := if givenR t [a, b] ≠ 0 then (0, givenR t [a, b]) else if b ∈ up t.nodes a then (a, 0) else if a ∈ up t.nodes b then (b, 0) else (0, 13)
def joinR (t : Tys) (a b : Int) : Int × Int := if givenR t [a, b] ≠ 0 then (0, givenR t [a, b]) else match (up t.nodes a).find? (fun c => decide (c ∈ up t.nodes b)) with
  | some c => (c, 0)
  | none => (0, 10)
def fitsR (t : Tys) (e a b : Int) : Bool := if givenR t [a, b] ≠ 0 ∨ e < 0 ∨ (t.edges.length : Int) ≤ e then false else match t.edges[e.toNat]? with
  | some x => decide (x.fr ∈ up t.nodes a) && decide (x.to ∈ up t.nodes b)
  | none => false
def ancR (t : Tys) (a : Int) : List Int × Int := if givenR t [a] ≠ 0 then ([], givenR t [a]) else ((up t.nodes a).reverse, 0)
def belR (t : Tys) (a : Int) : List Int × Int := if givenR t [a] ≠ 0 then ([], givenR t [a]) else (((List.range t.nodes.length).map fun (i : Nat) => (i : Int)).filter (fun b => decide (a ∈ up t.nodes b)), 0)
def attrsR (t : Tys) (a : Int) : List Att × Int := if givenR t [a] ≠ 0 then ([], givenR t [a]) else (attrsOf t.nodes a, 0)
end Go.Sj.Typ
