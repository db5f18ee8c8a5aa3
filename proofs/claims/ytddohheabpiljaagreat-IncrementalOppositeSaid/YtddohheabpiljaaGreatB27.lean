/-
  Parts of the proof of the law IncrementalOpposite (texts M35): steps, plain mathematics, contracts of functions. Each theorem states its own conditions.
-/
import Derived.Test.YtddohheabpiljaaGreatB12
section
/-
  Searches for matches: plain mathematics.
-/
namespace Go.Sj.Inc
open Go.Sj Go.Sj.Sta Go.Sj.Typ
set_option maxRecDepth 8000
set_option linter.unusedVariables false
set_option linter.unusedSimpArgs false

abbrev Mo := List Int × List Int
structure Sea where
  p : Gr
  g : Gr
  ok : Int → Int → Bool
  pn : Option (List Int)
  pe : Option (List Int)
  inj : Bool
def gvn (l : Option (List Int)) (i : Nat) : Int := match l with
  | none => -1
  | some l => l.getD i (-1)
def offN (l : Option (List Int)) (i k : Nat) : Bool := decide (0 ≤ gvn l i) && decide (gvn l i ≠ k)
def candN (S : Sea) (ns : List Int) (k : Nat) : Bool := !offN S.pn ns.length k && (S.ok (S.p.nodes.getD ns.length 0) (S.g.nodes.getD k 0) && !(S.inj && decide ((k : Int) ∈ ns)))
def eqE (S : Sea) (ns : List Int) (i k : Nat) : Bool := match S.p.edges[i]?, S.g.edges[k]? with
  | some x, some y => decide (y.ty = x.ty) && (decide (y.fr = ns.getD x.fr.toNat 0) && decide (y.to = ns.getD x.to.toNat 0))
  | _, _ => false
def fitB (S : Sea) (ns : List Int) (i k : Nat) : Bool := !offN S.pe i k && eqE S ns i k
def candE (S : Sea) (ns es : List Int) (k : Nat) : Bool := fitB S ns es.length k && !(S.inj && decide ((k : Int) ∈ es))
def findL (S : Sea) : Nat → List Int → List Int → List Mo
  | 0, ns, es => [(ns, es)]
  | m + 1, ns, es => if ns.length < S.p.nodes.length then (List.range S.g.nodes.length).flatMap fun k => if candN S ns k = true then findL S m (ns ++ [(k : Int)]) es else []
    else (List.range S.g.edges.length).flatMap fun k => if candE S ns es k = true then findL S m ns (es ++ [(k : Int)]) else []
def remS (S : Sea) (ns es : List Int) : Nat := (S.p.nodes.length - ns.length) + (S.p.edges.length - es.length)
theorem eqE_ext {S : Sea} {ns : List Int} {i k : Nat} {x : Ed} (z : Int) (hx : S.p.edges[i]? = some x) (h1 : x.fr.toNat < ns.length) (h2 : x.to.toNat < ns.length) : eqE S (ns ++ [z]) i k = eqE S ns i k := by
  unfold eqE
  rw [hx]
  cases S.g.edges[k]? with
  | none => rfl
  | some y =>
  simp only [List.getD_eq_getElem?_getD, List.getElem?_append_left h1, List.getElem?_append_left h2]
/-- An edge without image: nothing is found. -/
theorem find_dead {S : Sea} {i : Nat} {x : Ed} (hx : S.p.edges[i]? = some x) : ∀ (m : Nat) (ns es : List Int), m = remS S ns es → x.fr.toNat < ns.length → x.to.toNat < ns.length → ns.length ≤ S.p.nodes.length → es.length ≤ i → (ns.length < S.p.nodes.length → es = []) → (∀ k, k < S.g.edges.length → fitB S ns i k = false) → findL S m ns es = []
  | 0, ns, es, hm, h1, h2, hn, he, hne, hf => by
    have := (List.getElem?_eq_some_iff.1 hx).1
    unfold remS at hm
    omega
  | m + 1, ns, es, hm, h1, h2, hn, he, hne, hf => by
    unfold remS at hm
    unfold findL
    split
    · rename_i hlt
      rw [List.flatMap_eq_nil_iff]
      intro k hk
      split
      · have he0 := hne hlt
        subst he0
        refine find_dead hx m _ [] ?_ (by simp; omega) (by simp; omega) (by simp; omega) (Nat.zero_le _) (fun _ => rfl) (fun k hk => ?_)
        · unfold remS
          simp only [List.length_append, List.length_cons, List.length_nil] at hm ⊢
          omega
        · have := hf k hk
          unfold fitB at this ⊢
          rw [eqE_ext _ hx h1 h2]
          exact this
      · rfl
    · rename_i hlt
      rw [List.flatMap_eq_nil_iff]
      intro k hk
      have hk := List.mem_range.1 hk
      split
      · rename_i hc
        by_cases hi : es.length = i
        · unfold candE at hc
          rw [hi, hf k hk] at hc
          cases hc
        · refine find_dead hx m ns _ ?_ h1 h2 hn (by simp; omega) (fun h => absurd h hlt) hf
          unfold remS
          simp only [List.length_append, List.length_cons, List.length_nil]
          omega
      · rfl
theorem take_take_app {A : Type} (X Y Z : List A) (m : Nat) : ((X ++ Y).take m ++ Z).take m = (X ++ (Y ++ Z)).take m := by
  rw [List.take_append, List.take_take, Nat.min_self, ← List.append_assoc, List.take_append (l₁ := X ++ Y)]
  congr 1
  rw [List.length_take]
  rcases Nat.le_total m (X ++ Y).length with h | h
  · rw [Nat.min_eq_left h, Nat.sub_self, Nat.sub_eq_zero_of_le h]
  · rw [Nat.min_eq_right h]
theorem range_flat {A : Type} (f : Nat → List A) (k : Nat) : (List.range (k + 1)).flatMap f = (List.range k).flatMap f ++ f k := by
  rw [List.range_succ, List.flatMap_append]
  simp
theorem find_loop {A : Type} (out : List A) (f : Nat → List A) (k m : Nat) : ((out ++ (List.range k).flatMap f).take m ++ f k).take m = (out ++ (List.range (k + 1)).flatMap f).take m := by
  rw [range_flat, take_take_app]
/-- The elements of what is found. -/
structure MoOk (S : Sea) (m : Mo) : Prop where
  nl : m.1.length = S.p.nodes.length
  el : m.2.length = S.p.edges.length
theorem find_ok {S : Sea} : ∀ (m : Nat) (ns es : List Int), m = remS S ns es → ns.length ≤ S.p.nodes.length → es.length ≤ S.p.edges.length → (ns.length < S.p.nodes.length → es = []) → ∀ x ∈ findL S m ns es, MoOk S x
  | 0, ns, es, hm, hn, he, hne, x, hx => by
    unfold findL at hx
    rw [List.mem_singleton] at hx
    subst hx
    unfold remS at hm
    exact ⟨by show ns.length = _; omega, by show es.length = _; omega⟩
  | m + 1, ns, es, hm, hn, he, hne, x, hx => by
    unfold remS at hm
    unfold findL at hx
    split at hx
    · rename_i hlt
      obtain ⟨k, hk, hx⟩ := List.mem_flatMap.1 hx
      split at hx
      · have he0 := hne hlt
        subst he0
        refine find_ok m _ _ ?_ (by simp; omega) (Nat.zero_le _) (fun _ => rfl) x hx
        unfold remS
        simp only [List.length_append, List.length_cons, List.length_nil] at hm ⊢
        omega
      · cases hx
    · rename_i hlt
      obtain ⟨k, hk, hx⟩ := List.mem_flatMap.1 hx
      split at hx
      · refine find_ok m _ _ ?_ hn (by simp; omega) (fun h => absurd h hlt) x hx
        unfold remS
        simp only [List.length_append, List.length_cons, List.length_nil]
        omega
      · cases hx

/-! What the searches return. -/
def typT (t : Tys) (g : Gr) : Bool := !(g.nodes.any fun n => decide ((t.nodes.length : Int) ≤ n)) && !(g.edges.any fun e => decide ((t.edges.length : Int) ≤ e.ty))
def validS (t : Tys) (p g : Gr) : Int := if (validR t).2 ≠ 0 then (validR t).2 else if gvalid p ≠ 0 then gvalid p else if gvalid g ≠ 0 then gvalid g else if (typT t p && typT t g) = true then 0 else 13
def okT (t : Tys) (a b : Int) : Bool := decide (a ∈ up t.nodes b)
def seaA (t : Tys) (p g : Gr) (inj : Bool) : Sea := ⟨p, g, okT t, none, none, inj⟩
def matL (S : Sea) : List Mo := findL S (S.p.nodes.length + S.p.edges.length) [] []
def capR (l : List Mo) : List Mo × Int := if 5000 < l.length then ([], 3) else (l, 0)
def allR (t : Tys) (p g : Gr) (inj : Bool) : List Mo × Int := if validS t p g ≠ 0 then ([], validS t p g) else capR (matL (seaA t p g inj))
end Go.Sj.Inc

end
