/-
  Parts of the proof of the law IncrementalOpposite (texts W1, M38, M39): steps, plain mathematics, contracts of functions. Each theorem states its own conditions.
-/
import Derived.Test.YtddohheabpiljaaGreatB09
import Derived.Test.YtddohheabpiljaaGreatB12
import Derived.Test.YtddohheabpiljaaGreatB15
import Derived.Test.YtddohheabpiljaaGreatB23
import Derived.Test.YtddohheabpiljaaGreatB25
import Derived.Test.YtddohheabpiljaaGreatB32
import Derived.Test.YtddohheabpiljaaGreatB34
import Derived.Test.YtddohheabpiljaaGreatB38
import Derived.Test.YtddohheabpiljaaGreatB39
section
/-
  Lists of numbers: equality, comparison: the walks. Conditions: shorter than 2^40.
-/
namespace Go.Proofs.YtddohheabpiljaaGreat
open Go.Sj Go.Sj.Typ Go.Sj.Sta Go.Sj.Can
set_option maxRecDepth 8000
set_option linter.unusedVariables false
set_option linter.unusedSimpArgs false
set_option maxHeartbeats 8000000

theorem isNaN_spec (x : Int) : Pure Tryz.prog 129 [AI x] (AB false) := by
  refine a_enter Tryz.func129 (by kernel_rfl) rfl Tryz.ntmps129 rfl (by simp) ?_
  repeat (first | refine gA pk ?_)
  refine finR ?_
  exact ⟨rfl, rfl⟩

theorem cmpCompare_spec (x y : Int) : Pure Tryz.prog 109 [AI x, AI y] (AI (cmpI x y)) := by
  refine a_enter Tryz.func109 (by kernel_rfl) rfl Tryz.ntmps109 rfl (by simp) ?_
  repeat (first | refine gA pk ?_)
  refine s_call rfl rfl rfl rfl rfl (isNaN_spec x) (SubL.of_eq rfl) (Lr := []) (List.Perm.refl _) ?_
  rintro _ _ ⟨rfl, rfl⟩
  repeat (first | refine gA pk ?_)
  refine s_call rfl rfl rfl rfl rfl (isNaN_spec y) (SubL.of_eq rfl) (Lr := []) (List.Perm.refl _) ?_
  rintro _ _ ⟨rfl, rfl⟩
  repeat (first | refine gA pk ?_)
  refine s_cmp rfl rfl rfl rfl rfl rfl rfl (fun h => ?_) (fun h => ?_) <;> simp only [cmpP] at h
  · repeat (first | refine gA pk ?_)
    refine finR ?_
    exact ⟨by simp [cmpI, h], rfl⟩
  · repeat (first | refine gA pk ?_)
    refine s_cmp rfl rfl rfl rfl rfl rfl rfl (fun h => ?_) (fun h => ?_) <;> simp only [cmpP] at h
    · rename_i h1
      repeat (first | refine gA pk ?_)
      refine finR ?_
      exact ⟨by simp [cmpI, h1, h], rfl⟩
    · rename_i h1
      repeat (first | refine gA pk ?_)
      refine finR ?_
      exact ⟨by simp [cmpI, h1, h], rfl⟩

theorem cmpL_drop {xs ys : List Int} {k : Nat} (hx : k < xs.length) (hy : k < ys.length) : cmpL (xs.drop k) (ys.drop k) = if cmpI xs[k] ys[k] ≠ 0 then cmpI xs[k] ys[k] else cmpL (xs.drop (k + 1)) (ys.drop (k + 1)) := by
  rw [List.drop_eq_getElem_cons hx, List.drop_eq_getElem_cons hy]; rfl

theorem Compare_spec (xs ys : List Int) (hx : xs.length ≤ 1099511627776) (hy : ys.length ≤ 1099511627776) : Pure Tryz.prog 90 [ints xs, ints ys] (AI (cmpL xs ys)) := by
  have lx : (rowI xs).length = xs.length := by simp
  have ly : (rowI ys).length = ys.length := by simp
  refine a_enter Tryz.func90 (by kernel_rfl) rfl Tryz.ntmps90 rfl (by simp) ?_
  repeat (first | refine gA pk ?_)
  refine a_loopX (fun k : Nat => [(0, ints xs), (1, ints ys), (9, ints xs), (10, AI xs.length), (11, AI k)]) (fun _ => []) (fun k => k ≤ xs.length ∧ k ≤ ys.length ∧ cmpL xs ys = cmpL (xs.drop k) (ys.drop k)) (fun k => xs.length - k) 0 ⟨Nat.zero_le _, Nat.zero_le _, rfl⟩ ?_ (OSub.refl _) ?_
  · rw [lx]
    exact subQ
  · rintro k ⟨hk, hk2, hc⟩
    repeat (first | refine gA pk ?_)
    refine s_cmp rfl rfl rfl rfl rfl rfl rfl (fun h => ?_) (fun h => ?_) <;> simp only [cmpP] at h
    · have hk' : k < xs.length := by omega
      have hxk : (rowI xs)[(k : Int).toNat]? = some (cI xs[k]) := map_get (List.getElem?_eq_getElem hk')
      repeat (first | refine gA pk ?_ | (show AL _ _ _ _ _ _ _; first | refine jX tok hxk ?_))
      refine s_cmp rfl rfl rfl rfl rfl rfl rfl (fun h1 => ?_) (fun h1 => ?_) <;> simp only [cmpP] at h1
      · repeat (first | refine gA pk ?_)
        refine finR ?_
        refine ⟨?_, rfl⟩
        rw [hc, List.drop_eq_getElem_cons hk', show ys.drop k = [] from List.drop_of_length_le (by omega)]
        rfl
      · have hky : k < ys.length := by omega
        have hyk : (rowI ys)[(k : Int).toNat]? = some (cI ys[k]) := map_get (List.getElem?_eq_getElem hky)
        rw [cmpL_drop hk' hky] at hc
        generalize xs[k] = x at *
        generalize ys[k] = y at *
        repeat (first | refine gA pk ?_ | (show AL _ _ _ _ _ _ _; first | refine jX tok hyk ?_))
        refine jP (cmpCompare_spec x y) ?_
        repeat (first | refine gA pk ?_)
        refine s_cmp rfl rfl rfl rfl rfl rfl rfl (fun h2 => ?_) (fun h2 => ?_) <;> simp only [cmpP] at h2
        · repeat (first | refine gA pk ?_)
          refine finR ?_
          refine ⟨?_, rfl⟩
          rw [hc, if_pos h2]
        · rw [if_neg h2] at hc
          repeat (first | refine gA pk ?_)
          refine ⟨k + 1, ⟨by omega, by omega, hc⟩, by omega, ?_, OSub.refl _⟩
          exact subQ
    · obtain rfl : k = xs.length := by omega
      rw [List.drop_length] at hc
      repeat (first | refine gA pk ?_)
      refine s_cmp rfl rfl rfl rfl rfl rfl rfl (fun h1 => ?_) (fun h1 => ?_) <;> simp only [cmpP] at h1
      · repeat (first | refine gA pk ?_)
        refine finR ?_
        refine ⟨?_, rfl⟩
        rw [hc, List.drop_eq_getElem_cons (show xs.length < ys.length by omega)]
        rfl
      · repeat (first | refine gA pk ?_)
        refine finR ?_
        refine ⟨?_, rfl⟩
        rw [hc, List.drop_of_length_le (by omega)]
        rfl

end Go.Proofs.YtddohheabpiljaaGreat

end
section
/-
  Edits: plain mathematics.
-/
namespace Go.Sj.Inc
open Go.Sj Go.Sj.Sta Go.Sj.Typ
set_option maxRecDepth 8000
set_option linter.unusedVariables false
set_option linter.unusedSimpArgs false

structure Edt where
  kind : Int
  idx : Int
  ty : Int
  fr : Int
  to : Int
def touB (i : Int) (x : Ed) : Bool := decide (x.fr = i) || decide (x.to = i)
def editE (g : Gr) (e : Edt) (nt et : Int) : Int :=
  if e.kind = 1 then (if 0 ≤ e.ty ∧ e.ty < nt then (if (g.nodes.length : Int) = 40 then 3 else 0) else 13)
  else if e.kind = 2 then (if 0 ≤ e.ty ∧ e.ty < et then (if (0 ≤ e.fr ∧ e.fr < g.nodes.length) ∧ (0 ≤ e.to ∧ e.to < g.nodes.length) then (if (g.edges.length : Int) = 80 then 3 else 0) else 6) else 13)
  else if e.kind = 3 then (if 0 ≤ e.idx ∧ e.idx < g.nodes.length then (if g.edges.any (touB e.idx) = true then 14 else 0) else 6)
  else if e.kind = 4 then (if 0 ≤ e.idx ∧ e.idx < g.edges.length then 0 else 6)
  else 1
end Go.Sj.Inc

end
section
/-
  Searches for matches: what is found, and in which order. Plain mathematics.
-/
namespace Go.Sj.Inc
open Go.Sj Go.Sj.Sta Go.Sj.Typ
set_option maxRecDepth 8000
set_option linter.unusedVariables false
set_option linter.unusedSimpArgs false

/-! Matches, compared. -/
def cmpM (a b : Mo) : Int := if Can.cmpL a.1 b.1 ≠ 0 then Can.cmpL a.1 b.1 else Can.cmpL a.2 b.2
theorem cmpM_self (a : Mo) : cmpM a a = 0 := by unfold cmpM; rw [Can.cmpL_self, Can.cmpL_self]; rfl
theorem cmpM_eq {a b : Mo} (h : cmpM a b = 0) : a = b := by
  unfold cmpM at h
  split at h
  · rename_i h1; exact absurd h h1
  · rename_i h1
    exact Prod.ext (Can.cmpL_eq (Decidable.not_not.1 h1)) (Can.cmpL_eq h)
end Go.Sj.Inc

end
