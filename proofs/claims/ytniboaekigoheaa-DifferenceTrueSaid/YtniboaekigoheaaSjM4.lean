/-
  What pairs generate; all partitions; quotients: plain mathematics, no program.
-/
import Derived.Test.YtniboaekigoheaaSjM3
import Derived.Test.YtniboaekigoheaaSjL
namespace Go.Sj
theorem fzl_append {v : Value} {sz : Nat} {es : List (List AV)} : ∀ (l : List AV) {a b : List AV}, FZL v sz es a b → FZL v sz es (l ++ a) (l ++ b)
  | [], _, _, h => h
  | x :: l, _, _, h => ⟨.refl x, fzl_append l h⟩
theorem fzl_snoc {v : Value} {sz : Nat} {es A : List (List AV)} {x y : AV} (h : FZ v sz es x y) : FZL v sz es (A ++ [[x]]).flatten (A ++ [[y]]).flatten := by
  rw [List.flatten_append, List.flatten_append]
  exact fzl_append _ ⟨h, trivial⟩
/-- The last of the rows of a row changes no more. -/
theorem fzo_snoc {v u : Value} {sz E : Nat} {es A : List (List AV)} {x y : AV} (hA : ∀ a ∈ A, a.length = 1) (h : FZ v sz es x y) : FZO v sz es [(u, .row E 1 (A ++ [[x]]))] [(u, .row E 1 (A ++ [[y]]))] :=
  ⟨rfl, rfl, rfl, by simp, fun a ha => by
    rcases List.mem_append.1 ha with ha | ha
    · exact hA a ha
    · simp at ha; subst ha; rfl, fzl_snoc h, trivial⟩
end Go.Sj
namespace Go.Sj.Part
set_option linter.unusedVariables false
set_option linter.unusedSimpArgs false

def cP (q : Int × Int) : List AV := [AI q.1, AI q.2]
abbrev pairsA (l : List (Int × Int)) : AV := .im 2 (l.map cP)

def badP (n : Int) (q : Int × Int) : Bool := decide (q.1 < 0) || decide (n ≤ q.1) || decide (q.2 < 0) || decide (n ≤ q.2)
def prN (l : List (Int × Int)) : List (Nat × Nat) := l.map fun q => (q.1.toNat, q.2.toNat)
def genR (n : Int) (l : List (Int × Int)) : List Int × Int :=
  if 80 < n then ([], 3) else if n < 0 then ([], 6) else if l.any (badP n) then ([], 6) else (nI (genN n.toNat (prN l)), 0)

theorem genN_snoc (n : Nat) (l : List (Nat × Nat)) (q : Nat × Nat) : genN n (l ++ [q]) = mergeF (genN n l) q.1 q.2 := by
  simp [genN, List.foldl_append]
theorem genN_length (n : Nat) (l : List (Nat × Nat)) : (genN n l).length = n := by
  suffices ∀ p : List Nat, (l.foldl (fun p x => mergeF p x.1 x.2) p).length = p.length by
    rw [genN, this]; simp
  induction l with
  | nil => intro p; rfl
  | cons q l ih => intro p; rw [List.foldl_cons, ih, mergeF_length]
theorem prN_take {l : List (Int × Int)} {k : Nat} {q : Int × Int} (h : l[k]? = some q) : prN (l.take (k + 1)) = prN (l.take k) ++ [(q.1.toNat, q.2.toNat)] := by
  have : l.take (k + 1) = l.take k ++ [q] := by
    obtain ⟨hk, rfl⟩ := List.getElem?_eq_some_iff.1 h
    exact List.take_succ_eq_append_getElem hk
  rw [this]; simp [prN]

/-! ### All partitions -/

/-- One row and what may follow it at element i. -/
def nextRow (i : Nat) (row : List Nat) (v : Nat) : Bool := v == i || row.getD v 0 == v
def nextTo (i : Nat) (row : List Nat) (k : Nat) : List (List Nat) := ((List.range k).filter (nextRow i row)).map fun v => row ++ [v]
def nextAll (i : Nat) (rows : List (List Nat)) : List (List Nat) := rows.flatMap fun row => nextTo i row (i + 1)
def allTo : Nat → List (List Nat)
  | 0 => [[]]
  | i + 1 => nextAll i (allTo i)
def cR (row : List Nat) : List AV := [ints (nI row)]
abbrev rowsA (l : List (List Nat)) : AV := .im 1 (l.map cR)
def allR (n : Int) : List (List Nat) × Int := if 7 < n then ([], 3) else if n < 0 then ([], 6) else (allTo n.toNat, 0)

theorem nextTo_succ (i : Nat) (row : List Nat) (k : Nat) : nextTo i row (k + 1) = nextTo i row k ++ if nextRow i row k then [row ++ [k]] else [] := by
  simp only [nextTo, List.range_succ, List.filter_append, List.map_append]
  congr 1
  by_cases h : nextRow i row k = true
  · simp [h]
  · simp [h]
theorem nextTo_length (i : Nat) (row : List Nat) (k : Nat) : (nextTo i row k).length ≤ k := by
  simp only [nextTo, List.length_map]
  exact Nat.le_trans (List.length_filter_le _ _) (by simp)
theorem nextAll_snoc (i : Nat) (rows : List (List Nat)) (row : List Nat) : nextAll i (rows ++ [row]) = nextAll i rows ++ nextTo i row (i + 1) := by
  simp [nextAll]
theorem nextAll_length (i : Nat) (rows : List (List Nat)) : (nextAll i rows).length ≤ rows.length * (i + 1) := by
  induction rows with
  | nil => simp [nextAll]
  | cons r rows ih =>
    have := nextTo_length i r (i + 1)
    simp only [nextAll, List.flatMap_cons, List.length_append, List.length_cons] at ih ⊢
    rw [Nat.succ_mul]
    omega
theorem allTo_length : ∀ i, ∀ r ∈ allTo i, r.length = i
  | 0, r, h => by simp [allTo] at h; simp [h]
  | i + 1, r, h => by
    simp only [allTo, nextAll, List.mem_flatMap, nextTo, List.mem_map] at h
    obtain ⟨row, h1, v, h2, rfl⟩ := h
    simp [allTo_length i row h1]
theorem allTo_small (i : Nat) (h : i ≤ 7) : (allTo i).length ≤ 877 := by
  have : ∀ i : Fin 8, (allTo i.1).length ≤ 877 := by decide +kernel
  exact this ⟨i, by omega⟩

end Go.Sj.Part
