/-
  Lists of numbers: equality, comparison: the walks. Conditions: shorter than 2^40.
-/
import Derived.Test.YtoaenbfidlgjhaaSjQ8
import Derived.Test.YtoaenbfidlgjhaaV1
import Derived.Test.YtoaenbfidlgjhaaSjQC
namespace Go.Proofs.Ytoaenbfidlgjhaa
open Go.Sj Go.Sj.Typ Go.Sj.Sta Go.Sj.Can
set_option linter.unusedVariables false
set_option linter.unusedSimpArgs false
set_option maxHeartbeats 8000000

theorem isNaN_spec (x : Int) : Pure Try.prog 71 [AI x] (AB false) := by
  refine a_enter Try.func71 (by kernel_rfl) rfl Try.ntmps71 rfl (by simp) ?_
  repeat (first | refine gA pk ?_)
  refine finR ?_
  exact ⟨rfl, rfl⟩

theorem cmpCompare_spec (x y : Int) : Pure Try.prog 47 [AI x, AI y] (AI (cmpI x y)) := by
  refine a_enter Try.func47 (by kernel_rfl) rfl Try.ntmps47 rfl (by simp) ?_
  repeat (first | refine gA pk ?_)
  refine s_call rfl rfl rfl rfl rfl (isNaN_spec x) (SubL.of_eq rfl) (Lr := []) (List.Perm.refl _) ?_
  rintro _ _ ⟨rfl, rfl⟩
  repeat (first | refine gA pk ?_)
  refine s_call rfl rfl rfl rfl rfl (isNaN_spec y) (SubL.of_eq rfl) (Lr := []) (List.Perm.refl _) ?_
  rintro _ _ ⟨rfl, rfl⟩
  repeat (first | refine gA pk ?_)
  refine s_cmp rfl rfl rfl rfl rfl rfl rfl (fun h => ?_) (fun h => ?_) <;> simp only [cmpP] at h
  · repeat (first | refine gA pk ?_)
    refine finR ?_
    exact ⟨by simp [cmpI, h], rfl⟩
  · repeat (first | refine gA pk ?_)
    refine s_cmp rfl rfl rfl rfl rfl rfl rfl (fun h => ?_) (fun h => ?_) <;> simp only [cmpP] at h
    · rename_i h1
      repeat (first | refine gA pk ?_)
      refine finR ?_
      exact ⟨by simp [cmpI, h1, h], rfl⟩
    · rename_i h1
      repeat (first | refine gA pk ?_)
      refine finR ?_
      exact ⟨by simp [cmpI, h1, h], rfl⟩

theorem take_succ_eq {xs ys : List Int} {k : Nat} (hx : k < xs.length) (hy : k < ys.length) (h : xs.take k = ys.take k) (e : xs[k] = ys[k]) : xs.take (k + 1) = ys.take (k + 1) := by
  rw [List.take_succ_eq_append_getElem hx, List.take_succ_eq_append_getElem hy, h, e]

theorem Equal_spec (xs ys : List Int) (hx : xs.length ≤ 1099511627776) (hy : ys.length ≤ 1099511627776) : Pure Try.prog 17 [ints xs, ints ys] (AB (decide (xs = ys))) := by
  refine a_enter Try.func17 (by kernel_rfl) rfl Try.ntmps17 rfl (by simp) ?_
  repeat (first | refine gA pk ?_)
  refine s_cmp rfl rfl rfl rfl rfl rfl rfl (fun h => ?_) (fun h => ?_) <;> simp only [cmpP] at h
  · repeat (first | refine gA pk ?_)
    refine finR ?_
    refine ⟨?_, rfl⟩
    have : xs ≠ ys := fun e => h (by simp [e])
    simp [this]
  · rw [List.length_map, List.length_map] at h
    repeat (first | refine gA pk ?_)
    refine a_loopX (fun k : Nat => [(0, ints xs), (1, ints ys), (12, AI xs.length), (13, AI k)]) (fun _ => []) (fun k => k ≤ xs.length ∧ xs.take k = ys.take k) (fun k => xs.length - k) 0 ⟨Nat.zero_le _, rfl⟩ ?_ (OSub.refl _) ?_
    · rw [List.length_map]
      exact subQ
    · rintro k ⟨hk, he⟩
      have hxy : xs.length = ys.length := by omega
      repeat (first | refine gA pk ?_)
      refine s_cmp rfl rfl rfl rfl rfl rfl rfl (fun h => ?_) (fun h => ?_) <;> simp only [cmpP] at h
      · have hk' : k < xs.length := by omega
        have hk2 : k < ys.length := by omega
        have hx' : (rowI xs)[(k : Int).toNat]? = some (cI xs[k]) := map_get (List.getElem?_eq_getElem hk')
        have hy' : (rowI ys)[(k : Int).toNat]? = some (cI ys[k]) := map_get (List.getElem?_eq_getElem hk2)
        repeat (first | refine gA pk ?_ | (show AL _ _ _ _ _ _ _; first | refine s_index tok rfl rfl rfl rfl rfl rfl rfl rfl rfl (by omega) (by assumption) ?_))
        refine s_cmp rfl rfl rfl rfl rfl rfl rfl (fun h1 => ?_) (fun h1 => ?_) <;> simp only [cmpP] at h1
        · repeat (first | refine gA pk ?_)
          refine finR ?_
          refine ⟨?_, rfl⟩
          have : xs ≠ ys := fun e => h1 (by simp [e])
          simp [this]
        · repeat (first | refine gA pk ?_)
          refine ⟨k + 1, ⟨by omega, take_succ_eq hk' hk2 he (by simpa using h1)⟩, by omega, ?_, OSub.refl _⟩
          exact subQ
      · repeat (first | refine gA pk ?_)
        refine finR ?_
        refine ⟨?_, rfl⟩
        have : xs = ys := by
          have e1 : xs.take k = xs := List.take_of_length_le (by omega)
          have e2 : ys.take k = ys := List.take_of_length_le (by omega)
          rw [← e1, ← e2, he]
        simp [this]
theorem cmpL_drop {xs ys : List Int} {k : Nat} (hx : k < xs.length) (hy : k < ys.length) : cmpL (xs.drop k) (ys.drop k) = if cmpI xs[k] ys[k] ≠ 0 then cmpI xs[k] ys[k] else cmpL (xs.drop (k + 1)) (ys.drop (k + 1)) := by
  rw [List.drop_eq_getElem_cons hx, List.drop_eq_getElem_cons hy]; rfl

theorem Compare_spec (xs ys : List Int) (hx : xs.length ≤ 1099511627776) (hy : ys.length ≤ 1099511627776) : Pure Try.prog 19 [ints xs, ints ys] (AI (cmpL xs ys)) := by
  have lx : (rowI xs).length = xs.length := by simp
  have ly : (rowI ys).length = ys.length := by simp
  refine a_enter Try.func19 (by kernel_rfl) rfl Try.ntmps19 rfl (by simp) ?_
  repeat (first | refine gA pk ?_)
  refine a_loopX (fun k : Nat => [(0, ints xs), (1, ints ys), (9, ints xs), (10, AI xs.length), (11, AI k)]) (fun _ => []) (fun k => k ≤ xs.length ∧ k ≤ ys.length ∧ cmpL xs ys = cmpL (xs.drop k) (ys.drop k)) (fun k => xs.length - k) 0 ⟨Nat.zero_le _, Nat.zero_le _, rfl⟩ ?_ (OSub.refl _) ?_
  · rw [lx]
    exact subQ
  · rintro k ⟨hk, hk2, hc⟩
    repeat (first | refine gA pk ?_)
    refine s_cmp rfl rfl rfl rfl rfl rfl rfl (fun h => ?_) (fun h => ?_) <;> simp only [cmpP] at h
    · have hk' : k < xs.length := by omega
      have hxk : (rowI xs)[(k : Int).toNat]? = some (cI xs[k]) := map_get (List.getElem?_eq_getElem hk')
      repeat (first | refine gA pk ?_ | (show AL _ _ _ _ _ _ _; first | refine jX tok hxk ?_))
      refine s_cmp rfl rfl rfl rfl rfl rfl rfl (fun h1 => ?_) (fun h1 => ?_) <;> simp only [cmpP] at h1
      · repeat (first | refine gA pk ?_)
        refine finR ?_
        refine ⟨?_, rfl⟩
        rw [hc, List.drop_eq_getElem_cons hk', show ys.drop k = [] from List.drop_of_length_le (by omega)]
        rfl
      · have hky : k < ys.length := by omega
        have hyk : (rowI ys)[(k : Int).toNat]? = some (cI ys[k]) := map_get (List.getElem?_eq_getElem hky)
        rw [cmpL_drop hk' hky] at hc
        generalize xs[k] = x at *
        generalize ys[k] = y at *
        repeat (first | refine gA pk ?_ | (show AL _ _ _ _ _ _ _; first | refine jX tok hyk ?_))
        refine jP (cmpCompare_spec x y) ?_
        repeat (first | refine gA pk ?_)
        refine s_cmp rfl rfl rfl rfl rfl rfl rfl (fun h2 => ?_) (fun h2 => ?_) <;> simp only [cmpP] at h2
        · repeat (first | refine gA pk ?_)
          refine finR ?_
          refine ⟨?_, rfl⟩
          rw [hc, if_pos h2]
        · rw [if_neg h2] at hc
          repeat (first | refine gA pk ?_)
          refine ⟨k + 1, ⟨by omega, by omega, hc⟩, by omega, ?_, OSub.refl _⟩
          exact subQ
    · obtain rfl : k = xs.length := by omega
      rw [List.drop_length] at hc
      repeat (first | refine gA pk ?_)
      refine s_cmp rfl rfl rfl rfl rfl rfl rfl (fun h1 => ?_) (fun h1 => ?_) <;> simp only [cmpP] at h1
      · repeat (first | refine gA pk ?_)
        refine finR ?_
        refine ⟨?_, rfl⟩
        rw [hc, List.drop_eq_getElem_cons (show xs.length < ys.length by omega)]
        rfl
      · repeat (first | refine gA pk ?_)
        refine finR ?_
        refine ⟨?_, rfl⟩
        rw [hc, List.drop_of_length_le (by omega)]
        rfl

end Go.Proofs.Ytoaenbfidlgjhaa
