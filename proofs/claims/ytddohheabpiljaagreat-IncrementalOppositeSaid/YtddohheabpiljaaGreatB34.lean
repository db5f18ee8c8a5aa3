/-
  Parts of the proof of the law IncrementalOpposite (texts W47, M37): steps, plain mathematics, contracts of functions. Each theorem states its own conditions.
-/
import Derived.Test.YtddohheabpiljaaGreatB09
import Derived.Test.YtddohheabpiljaaGreatB23
import Derived.Test.YtddohheabpiljaaGreatB29
import Derived.Test.YtddohheabpiljaaGreatB31
import Derived.Test.YtddohheabpiljaaGreatB32
import Derived.Test.YtddohheabpiljaaGreatB33
section
/-
  Searches: images of edges (reference). Conditions: valid graphs.
-/
namespace Go.Proofs.YtddohheabpiljaaGreat
open Go.Sj Go.Sj.Typ Go.Sj.Sta Go.Sj.Inc
set_option maxRecDepth 8000
set_option linter.unusedVariables false
set_option linter.unusedSimpArgs false
set_option maxHeartbeats 16000000

theorem mo_rows' (l : List Mo) : ∀ x ∈ l.map cMo, x.length = 2 := fun x hx => by
  obtain ⟨y, _, rfl⟩ := List.mem_map.1 hx
  rfl
end Go.Proofs.YtddohheabpiljaaGreat

end
section
/-
  Watches: what New returns. Plain mathematics.
-/
namespace Go.Sj.Inc
open Go.Sj Go.Sj.Sta Go.Sj.Typ
set_option maxRecDepth 8000
set_option linter.unusedVariables false
set_option linter.unusedSimpArgs false

/-- The first error of all patterns. -/
def patE (t : Tys) (ps : List Gr) (g : Gr) (inj : Bool) : Int := ((ps.map fun p => (allR t p g inj).2).find? fun e => decide (e ≠ 0)).getD 0
def matsE (t : Tys) (ps : List Gr) (g : Gr) (inj : Bool) : Int := if (allR t ⟨[], []⟩ g inj).2 ≠ 0 then (allR t ⟨[], []⟩ g inj).2 else if 5 < ps.length then 3 else patE t ps g inj
def matsL (t : Tys) (ps : List Gr) (g : Gr) (inj : Bool) : List (List Mo) := ps.map fun p => (allR t p g inj).1
def matsR (t : Tys) (ps : List Gr) (g : Gr) (inj : Bool) : List (List Mo) × Int := if matsE t ps g inj ≠ 0 then ([], matsE t ps g inj) else (matsL t ps g inj, 0)
theorem patE_at {t : Tys} {ps : List Gr} {g : Gr} {inj : Bool} {i : Nat} {p : Gr} (hp : ps[i]? = some p) (hno : ∀ (j : Nat) (q : Gr), j < i → ps[j]? = some q → (allR t q g inj).2 = 0) (he : (allR t p g inj).2 ≠ 0) : patE t ps g inj = (allR t p g inj).2 := by
  unfold patE
  obtain ⟨hi, hpe⟩ := List.getElem?_eq_some_iff.1 hp
  have : (ps.map fun p => (allR t p g inj).2).find? (fun e => decide (e ≠ 0)) = some (allR t p g inj).2 := by
    rw [List.find?_eq_some_iff_getElem]
    refine ⟨by simpa using he, i, by simpa using hi, by simp [hpe], fun j hj => ?_⟩
    have := hno j (ps[j]'(by omega)) hj (List.getElem?_eq_getElem (by omega))
    simp [this]
  rw [this]
  rfl
theorem patE_none {t : Tys} {ps : List Gr} {g : Gr} {inj : Bool} (hno : ∀ (j : Nat) (q : Gr), ps[j]? = some q → (allR t q g inj).2 = 0) : patE t ps g inj = 0 := by
  unfold patE
  have : (ps.map fun p => (allR t p g inj).2).find? (fun e => decide (e ≠ 0)) = none := by
    rw [List.find?_eq_none]
    intro e he
    obtain ⟨p, hp, rfl⟩ := List.mem_map.1 he
    obtain ⟨j, hj⟩ := List.getElem?_of_mem hp
    simp [hno j p hj]
  rw [this]
  rfl
structure Wat where
  ps : List Gr
  g : Gr
  inj : Bool
  ms : List (List Mo)
def newR (t : Tys) (ps : List Gr) (g : Gr) (inj : Bool) : Wat × Int := if matsE t ps g inj ≠ 0 then (⟨[], ⟨[], []⟩, false, []⟩, matsE t ps g inj) else (⟨ps, g, inj, matsL t ps g inj⟩, 0)
theorem validS_zero {t : Tys} {p g : Gr} (h : validS t p g = 0) : (validR t).2 = 0 ∧ GV p ∧ GV g ∧ typT t p = true ∧ typT t g = true := by
  unfold validS at h
  split at h
  · rename_i h1; exact absurd h h1
  · rename_i h1
    split at h
    · rename_i h2; exact absurd h h2
    · rename_i h2
      split at h
      · rename_i h3; exact absurd h h3
      · rename_i h3
        split at h
        · rename_i h4
          rw [Bool.and_eq_true] at h4
          exact ⟨Decidable.not_not.1 h1, gvalid_zero.1 (Decidable.not_not.1 h2), gvalid_zero.1 (Decidable.not_not.1 h3), h4.1, h4.2⟩
        · cases h
theorem allR_zero {t : Tys} {p g : Gr} {inj : Bool} (h : (allR t p g inj).2 = 0) : validS t p g = 0 := by
  unfold allR at h
  by_cases hv : validS t p g = 0
  · exact hv
  · rw [if_pos hv] at h; exact absurd h hv
theorem matsE_zero {t : Tys} {ps : List Gr} {g : Gr} {inj : Bool} (h : matsE t ps g inj = 0) : GV g ∧ ps.length ≤ 5 ∧ ∀ p ∈ ps, (allR t p g inj).2 = 0 := by
  unfold matsE at h
  split at h
  · rename_i h1; exact absurd h h1
  · rename_i h1
    split at h
    · cases h
    · rename_i h2
      refine ⟨(validS_zero (allR_zero (Decidable.not_not.1 h1))).2.2.1, by omega, fun p hp => ?_⟩
      unfold patE at h
      cases hf : (ps.map fun p => (allR t p g inj).2).find? (fun e => decide (e ≠ 0)) with
      | none =>
        rw [List.find?_eq_none] at hf
        have := hf _ (List.mem_map.2 ⟨p, hp, rfl⟩)
        simpa using this
      | some e =>
        rw [hf] at h
        have := List.find?_some hf
        simp at this
        exact absurd h this
/-- The error of a watch. -/
def wvalE (t : Tys) (w : Wat) : Int := if matsE t w.ps w.g w.inj ≠ 0 then matsE t w.ps w.g w.inj else if matsL t w.ps w.g w.inj = w.ms then 0 else 1
end Go.Sj.Inc

end
