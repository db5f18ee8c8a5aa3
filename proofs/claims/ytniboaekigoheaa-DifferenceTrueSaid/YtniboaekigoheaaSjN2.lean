/-
  Square tables that the call owns: rows of rows.
-/
import Derived.Test.YtniboaekigoheaaSjN
import Derived.Test.YtniboaekigoheaaSjL3
import Derived.Test.YtniboaekigoheaaSjM8
namespace Go.Sj
set_option linter.unusedVariables false

theorem Turn.perm {x : AV} {L M : Own} (h : L.Perm M) : Turn x L x M := fun τ F w u a b => ⟨τ, τ.le_refl, a.perm h, b⟩
theorem manyO_append {E : Nat} : ∀ {vs us : List Value} {cs ds : List (List (List AV))}, vs.length = cs.length → manyO E (vs ++ us) (cs ++ ds) = manyO E vs cs ++ manyO E us ds
  | [], us, [], ds, _ => rfl
  | v :: vs, us, c :: cs, ds, h => by
    simp only [List.cons_append, manyO]
    rw [manyO_append (by simpa using h)]
  | [], _, _ :: _, _, h => by simp at h
  | _ :: _, _, [], _, h => by simp at h
theorem manyO_reverse {E : Nat} : ∀ {vs : List Value} {cs : List (List (List AV))}, vs.length = cs.length → manyO E vs.reverse cs.reverse = (manyO E vs cs).reverse
  | [], [], _ => rfl
  | v :: vs, c :: cs, h => by
    rw [List.reverse_cons, List.reverse_cons, manyO_append (by simpa using h), manyO_reverse (by simpa using h)]
    simp [manyO]
  | [], _ :: _, h => by simp at h
  | _ :: _, [], h => by simp at h
namespace Dif
def cRow (xs : List Int) : List AV := [ints xs]
abbrev matA (S : List (List Int)) : AV := .im 1 (S.map cRow)
/-- What a table owns. -/
def matO (E E' : Nat) (v : Value) (vs : List Value) (S : List (List Int)) : Own := (v, .row E' 1 (vs.map litR)) :: manyO E vs (S.map rowI)
theorem turn_mat {x : AV} {E E' : Nat} {v : Value} {vs : List Value} {S : List (List Int)} (h : vs.length = S.length) : Turn x (matO E E' v vs S) x [(v, .row E' 1 (S.map cRow))] := by
  have := turn_many (x := x) (E := E) (E' := E') (v := v) (vs := vs) (cs := S.map rowI) (done := []) (by simpa using h) (fun c hc e he => by
    rw [List.mem_map] at hc
    obtain ⟨q, _, rfl⟩ := hc
    rw [List.mem_map] at he
    obtain ⟨z, _, rfl⟩ := he
    rfl) (by simp)
  rw [List.nil_append, List.nil_append, List.map_map] at this
  exact this
theorem mat_get {E E' : Nat} {v u : Value} {vs : List Value} {N i : Nat} {O : Nat → Nat → Int} (hi : i < N) (hu : vs[i]? = some u) : (matO E E' v vs (mkM N O))[i + 1]? = some (u, .row E 1 (rowI (mkR N (O i)))) := by
  rw [matO, List.getElem?_cons_succ]
  exact manyO_get hu (by rw [List.getElem?_map, mkM_get hi]; rfl)
theorem mat_set {E E' : Nat} {v u : Value} {vs : List Value} {N i k : Nat} {O : Nat → Nat → Int} {x : Int} (hu : vs[i]? = some u) : (matO E E' v vs (mkM N O)).set (i + 1) (u, .row E 1 (rowI ((mkR N (O i)).set k x))) = matO E E' v vs (mkM N (updF O i k x)) := by
  simp only [matO, List.set_cons_succ]
  rw [manyO_set, ← List.map_set, mkM_set]
  congr 2
  obtain ⟨h, rfl⟩ := List.getElem?_eq_some_iff.1 hu
  exact List.set_getElem_self h
theorem mkM_congr {N : Nat} {S T : Nat → Nat → Int} (h : ∀ i j, i < N → j < N → S i j = T i j) : mkM N S = mkM N T := by
  simp only [mkM]
  apply List.map_congr_left
  intro i hi
  simp only [mkR]
  apply List.map_congr_left
  intro j hj
  exact h i j (by simpa using hi) (by simpa using hj)
theorem mat_row {N i : Nat} (h : i < N) (S : Nat → Nat → Int) : ((mkM N S).map cRow)[((i : Nat) : Int).toNat]? = some [ints (mkR N (S i))] := by
  rw [Int.toNat_natCast, List.getElem?_map, mkM_get h]; rfl
theorem row_at {N i : Nat} (h : i < N) (r : Nat → Int) : (rowI (mkR N r))[((i : Nat) : Int).toNat]? = some [AI (r i)] := by
  rw [Int.toNat_natCast, List.getElem?_map, mkR_get h]; rfl
theorem row_get {N i : Nat} (h : i < N) (r : Nat → Int) : (mkR N r)[((i : Nat) : Int).toNat]? = some (r i) := by
  rw [Int.toNat_natCast, mkR_get h]
theorem mkR_succ (k : Nat) (r : Nat → Int) : mkR (k + 1) r = mkR k r ++ [r k] := by simp [mkR, List.range_succ]

/-- Parts of two tables. -/
def mixF (A B : Nat → Nat → Int) (i j : Nat) : Nat → Nat → Int := fun a b => if a < i ∨ (a = i ∧ b < j) then B a b else A a b
theorem mixF_step (A B : Nat → Nat → Int) (i j : Nat) : updF (mixF A B i j) i j (B i j) = mixF A B i (j + 1) := by
  funext a b
  simp only [updF, mixF]
  by_cases h : a = i ∧ b = j
  · obtain ⟨rfl, rfl⟩ := h
    rw [if_pos ⟨rfl, rfl⟩, if_pos (by omega)]
  · rw [if_neg h]
    by_cases h2 : a < i ∨ (a = i ∧ b < j)
    · rw [if_pos h2, if_pos (by omega)]
    · rw [if_neg h2, if_neg (by omega)]
theorem mixF_row {N : Nat} (A B : Nat → Nat → Int) (i : Nat) : mkM N (mixF A B i N) = mkM N (mixF A B (i + 1) 0) := mkM_congr fun a b ha hb => by
  simp only [mixF]
  by_cases h : a < i ∨ (a = i ∧ b < N)
  · rw [if_pos h, if_pos (by omega)]
  · rw [if_neg h, if_neg (by omega)]
theorem mixF_zero (A B : Nat → Nat → Int) : mixF A B 0 0 = A := by
  funext a b
  simp only [mixF]
  rw [if_neg (by omega)]
theorem mixF_all {N : Nat} (A B : Nat → Nat → Int) : mkM N (mixF A B N 0) = mkM N B := mkM_congr fun a b ha hb => by
  simp only [mixF]
  rw [if_pos (by omega)]
def refDistR (n : Nat) (l : List Ar) : List (List Int) × Bool := if diagB (n + 1) (bst (n + 1) l (n + 2)) then (mkM (n + 1) (bst (n + 1) l (n + 2)), true) else ([], false)
theorem diag_false {N i : Nat} {S : Nat → Nat → Int} (hi : i < N) (h : S i i < 0) : diagB N S = false := by
  cases e : diagB N S with
  | false => rfl
  | true =>
    simp only [diagB, List.all_eq_true, List.mem_range, decide_eq_true_eq] at e
    have := e i hi
    omega
theorem diag_true {N : Nat} {S : Nat → Nat → Int} (h : ∀ i, i < N → 0 ≤ S i i) : diagB N S = true := by
  simp only [diagB, List.all_eq_true, List.mem_range, decide_eq_true_eq]; exact h
end Dif
end Go.Sj
