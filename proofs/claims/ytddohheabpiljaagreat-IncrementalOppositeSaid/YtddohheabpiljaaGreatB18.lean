/-
  Parts of the proof of the law IncrementalOpposite (texts Y8): steps, plain mathematics, contracts of functions. Each theorem states its own conditions.
-/
import Derived.Test.YtddohheabpiljaaGreatB07
import Derived.Test.YtddohheabpiljaaGreatB09
import Derived.Test.YtddohheabpiljaaGreatB13
import Derived.Test.YtddohheabpiljaaGreatB17
section
/-
  Names of an enumeration, attributes: the walks.
-/
namespace Go.Proofs.YtddohheabpiljaaGreat
open Go.Sj Go.Sj.Typ
set_option maxRecDepth 8000
set_option linter.unusedVariables false
set_option maxHeartbeats 4000000

theorem nameAt_eq {l : List ByteArray} {k : Nat} {s : ByteArray} (h : l[k]? = some s) : nameAt l k = if nameB s = true then (if s ∈ l.take k then 5 else 0) else 2 := by
  simp only [nameAt, h]
theorem below_succ {f : Nat → Int} {k : Nat} (h : ∀ j, j < k → f j = 0) (hk : f k = 0) : ∀ j, j < k + 1 → f j = 0 := fun j hj => by
  rcases Nat.lt_or_ge j k with h1 | h1
  · exact h j h1
  · obtain rfl : j = k := by omega
    exact hk
theorem names_spec (l : List ByteArray) (hl : l.length ≤ 1000000) (hs : ∀ s ∈ l, s.size ≤ 1000000) : Pure Tryz.prog 170 [strsA l] (AI (namesE l)) := by
  have ll : (l.map cS).length = l.length := by simp
  by_cases h20 : 20 < l.length
  · rw [show namesE l = 3 by simp [namesE, h20]]
    refine a_enter Tryz.func170 (by kernel_rfl) rfl Tryz.ntmps170 rfl (by simp) ?_
    repeat (first | refine gA pk ?_)
    refine finQ ?_
    exact ⟨rfl, rfl⟩
  · rw [show namesE l = firstN (nameAt l) l.length by simp [namesE, h20]]
    refine a_enter Tryz.func170 (by kernel_rfl) rfl Tryz.ntmps170 rfl (by simp) ?_
    repeat (first | refine gA pk ?_)
    rw [ll]
    refine a_loopX (fun k : Nat => [(0, strsA l), (8, strsA l), (9, AI l.length), (10, AI k)]) (fun _ => []) (fun k => k ≤ l.length ∧ ∀ j, j < k → nameAt l j = 0) (fun k => l.length - k) 0 ⟨Nat.zero_le _, fun j hj => by omega⟩ ?_ (OSub.refl _) ?_
    · exact subQ
    · rintro k ⟨hk, hp⟩
      rcases Nat.lt_or_ge k l.length with h | h
      · have hx := List.getElem?_eq_getElem h
        have hsz := hs _ (List.getElem_mem h)
        generalize l[k] = s at hx hsz
        have hn := nameAt_eq hx
        have xk : (l.map cS)[(k : Int).toNat]? = some (cS s) := map_get hx
        have s1 := IsName_spec s hsz
        have s2 : Pure Tryz.prog 182 [.im 1 (((l.map cS).take k).drop 0), AS s] (AB (decide (s ∈ l.take k))) := by
          rw [List.drop_zero, ← List.map_take]
          exact ContainsS_spec _ (by simp; omega) _
        cases hb : nameB s with
        | false =>
          rw [hb] at s1
          rw [show firstN (nameAt l) l.length = 2 by rw [firstN_at hp h (by rw [hn]; simp [hb]), hn]; simp [hb]]
          repeat (first | refine gA pk ?_ | (show AL _ _ _ _ _ _ _; first | refine jX tok xk ?_ | refine jP s1 ?_))
          refine finQ ?_
          exact ⟨rfl, rfl⟩
        | true =>
          rw [hb] at s1
          by_cases hm : s ∈ l.take k
          · rw [decide_eq_true hm] at s2
            rw [show firstN (nameAt l) l.length = 5 by rw [firstN_at hp h (by rw [hn]; simp [hb, hm]), hn]; simp [hb, hm]]
            repeat (first | refine gA pk ?_ | (show AL _ _ _ _ _ _ _; first | refine jX tok xk ?_ | refine jP s1 ?_ | refine s_slice tok (a := 0) (b := k) rfl rfl rfl rfl rfl rfl rfl rfl (by first | exact rfl | exact ⟨_, rfl⟩) (by first | exact rfl | exact ⟨_, rfl⟩) (by omega) (by omega) ?_ | refine jP s2 ?_))
            refine finQ ?_
            exact ⟨rfl, rfl⟩
          · rw [decide_eq_false hm] at s2
            repeat (first | refine gA pk ?_ | (show AL _ _ _ _ _ _ _; first | refine jX tok xk ?_ | refine jP s1 ?_ | refine s_slice tok (a := 0) (b := k) rfl rfl rfl rfl rfl rfl rfl rfl (by first | exact rfl | exact ⟨_, rfl⟩) (by first | exact rfl | exact ⟨_, rfl⟩) (by omega) (by omega) ?_ | refine jP s2 ?_))
            exact ⟨k + 1, ⟨by omega, below_succ hp (by rw [hn]; simp [hb, hm])⟩, by omega, by exact subQ, OSub.none _⟩
      · obtain rfl : k = l.length := by omega
        rw [firstN_none hp]
        repeat (first | refine gA pk ?_)
        refine finQ ?_
        exact ⟨rfl, rfl⟩
end Go.Proofs.YtddohheabpiljaaGreat

end
