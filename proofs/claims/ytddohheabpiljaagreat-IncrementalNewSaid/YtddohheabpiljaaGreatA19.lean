/-
  Parts of the proof of the law IncrementalNew (texts Y8): steps, plain mathematics, contracts of functions. Each theorem states its own conditions.
-/
import Derived.Test.YtddohheabpiljaaGreatA09
import Derived.Test.YtddohheabpiljaaGreatA13
import Derived.Test.YtddohheabpiljaaGreatA18
section
/-
  Names of an enumeration, attributes: the walks.
-/
namespace Go.Proofs.YtddohheabpiljaaGreat
open Go.Sj Go.Sj.Typ
set_option maxRecDepth 8000
set_option linter.unusedVariables false
set_option maxHeartbeats 4000000

theorem nameAt_eq {l : List ByteArray} {k : Nat} {s : ByteArray} (h : l[k]? = some s) : nameAt l k = if nameB s = true then (if s ∈ l.take k then 5 else 0) else 2 := by
  simp only [nameAt, h]
theorem take_all {α : Type} {p : α → Prop} {l : List α} {k : Nat} {x : α} (hx : l[k]? = some x) (h : ∀ y ∈ l.take k, p y) (hp : p x) : ∀ y ∈ l.take (k + 1), p y := by
  obtain ⟨hk, he⟩ := List.getElem?_eq_some_iff.1 hx
  intro y hy
  rw [List.take_succ_eq_append_getElem hk] at hy
  rcases List.mem_append.1 hy with h1 | h1
  · exact h y h1
  · obtain rfl := List.mem_singleton.1 h1
    rw [he]; exact hp
theorem below_succ {f : Nat → Int} {k : Nat} (h : ∀ j, j < k → f j = 0) (hk : f k = 0) : ∀ j, j < k + 1 → f j = 0 := fun j hj => by
  rcases Nat.lt_or_ge j k with h1 | h1
  · exact h j h1
  · obtain rfl : j = k := by omega
    exact hk
theorem names_spec (l : List ByteArray) (hl : l.length ≤ 1000000) (hs : ∀ s ∈ l, s.size ≤ 1000000) : Pure Tryz.prog 170 [strsA l] (AI (namesE l)) := by
  have ll : (l.map cS).length = l.length := by simp
  by_cases h20 : 20 < l.length
  · rw [show namesE l = 3 by simp [namesE, h20]]
    refine a_enter Tryz.func170 (by kernel_rfl) rfl Tryz.ntmps170 rfl (by simp) ?_
    repeat (first | refine gA pk ?_)
    refine finQ ?_
    exact ⟨rfl, rfl⟩
  · rw [show namesE l = firstN (nameAt l) l.length by simp [namesE, h20]]
    refine a_enter Tryz.func170 (by kernel_rfl) rfl Tryz.ntmps170 rfl (by simp) ?_
    repeat (first | refine gA pk ?_)
    rw [ll]
    refine a_loopX (fun k : Nat => [(0, strsA l), (8, strsA l), (9, AI l.length), (10, AI k)]) (fun _ => []) (fun k => k ≤ l.length ∧ ∀ j, j < k → nameAt l j = 0) (fun k => l.length - k) 0 ⟨Nat.zero_le _, fun j hj => by omega⟩ ?_ (OSub.refl _) ?_
    · exact subQ
    · rintro k ⟨hk, hp⟩
      rcases Nat.lt_or_ge k l.length with h | h
      · have hx := List.getElem?_eq_getElem h
        have hsz := hs _ (List.getElem_mem h)
        generalize l[k] = s at hx hsz
        have hn := nameAt_eq hx
        have xk : (l.map cS)[(k : Int).toNat]? = some (cS s) := map_get hx
        have s1 := IsName_spec s hsz
        have s2 : Pure Tryz.prog 182 [.im 1 (((l.map cS).take k).drop 0), AS s] (AB (decide (s ∈ l.take k))) := by
          rw [List.drop_zero, ← List.map_take]
          exact ContainsS_spec _ (by simp; omega) _
        cases hb : nameB s with
        | false =>
          rw [hb] at s1
          rw [show firstN (nameAt l) l.length = 2 by rw [firstN_at hp h (by rw [hn]; simp [hb]), hn]; simp [hb]]
          repeat (first | refine gA pk ?_ | (show AL _ _ _ _ _ _ _; first | refine jX tok xk ?_ | refine jP s1 ?_))
          refine finQ ?_
          exact ⟨rfl, rfl⟩
        | true =>
          rw [hb] at s1
          by_cases hm : s ∈ l.take k
          · rw [decide_eq_true hm] at s2
            rw [show firstN (nameAt l) l.length = 5 by rw [firstN_at hp h (by rw [hn]; simp [hb, hm]), hn]; simp [hb, hm]]
            repeat (first | refine gA pk ?_ | (show AL _ _ _ _ _ _ _; first | refine jX tok xk ?_ | refine jP s1 ?_ | refine s_slice tok (a := 0) (b := k) rfl rfl rfl rfl rfl rfl rfl rfl (by first | exact rfl | exact ⟨_, rfl⟩) (by first | exact rfl | exact ⟨_, rfl⟩) (by omega) (by omega) ?_ | refine jP s2 ?_))
            refine finQ ?_
            exact ⟨rfl, rfl⟩
          · rw [decide_eq_false hm] at s2
            repeat (first | refine gA pk ?_ | (show AL _ _ _ _ _ _ _; first | refine jX tok xk ?_ | refine jP s1 ?_ | refine s_slice tok (a := 0) (b := k) rfl rfl rfl rfl rfl rfl rfl rfl (by first | exact rfl | exact ⟨_, rfl⟩) (by first | exact rfl | exact ⟨_, rfl⟩) (by omega) (by omega) ?_ | refine jP s2 ?_))
            exact ⟨k + 1, ⟨by omega, below_succ hp (by rw [hn]; simp [hb, hm])⟩, by omega, by exact subQ, OSub.none _⟩
      · obtain rfl : k = l.length := by omega
        rw [firstN_none hp]
        repeat (first | refine gA pk ?_)
        refine finQ ?_
        exact ⟨rfl, rfl⟩
theorem refNames_spec (l : List ByteArray) (hl : l.length ≤ 1000000) (hs : ∀ s ∈ l, s.size ≤ 1000000) : Pure Tryz.prog 143 [strsA l] (AI (namesE l)) := by
  have ll : (l.map cS).length = l.length := by simp
  by_cases h20 : 20 < l.length
  · rw [show namesE l = 3 by simp [namesE, h20]]
    refine a_enter Tryz.func143 (by kernel_rfl) rfl Tryz.ntmps143 rfl (by simp) ?_
    repeat (first | refine gA pk ?_)
    refine finQ ?_
    exact ⟨rfl, rfl⟩
  · rw [show namesE l = firstN (nameAt l) l.length by simp [namesE, h20]]
    refine a_enter Tryz.func143 (by kernel_rfl) rfl Tryz.ntmps143 rfl (by simp) ?_
    repeat (first | refine gA pk ?_)
    refine a_loopX (fun k : Nat => [(0, strsA l), (3, AI k)]) (fun _ => []) (fun k => k ≤ l.length ∧ ∀ j, j < k → nameAt l j = 0) (fun k => l.length - k) 0 ⟨Nat.zero_le _, fun j hj => by omega⟩ ?_ (OSub.refl _) ?_
    · exact subQ
    · rintro k ⟨hk, hp⟩
      rcases Nat.lt_or_ge k l.length with h | h
      · have hx := List.getElem?_eq_getElem h
        have hsz := hs _ (List.getElem_mem h)
        generalize l[k] = s at hx hsz
        have hn := nameAt_eq hx
        have xk : (l.map cS)[(k : Int).toNat]? = some (cS s) := map_get hx
        have s1 := refIsName_spec s hsz
        cases hb : nameB s with
        | false =>
          rw [hb] at s1
          rw [show firstN (nameAt l) l.length = 2 by rw [firstN_at hp h (by rw [hn]; simp [hb]), hn]; simp [hb]]
          repeat (first | refine gA pk ?_ | (show AL _ _ _ _ _ _ _; first | refine jX tok xk ?_ | refine jP s1 ?_))
          refine finQ ?_
          exact ⟨rfl, rfl⟩
        | true =>
          rw [hb] at s1
          repeat (first | refine gA pk ?_ | (show AL _ _ _ _ _ _ _; first | refine jX tok xk ?_ | refine jP s1 ?_))
          refine a_loopX (fun j : Nat => [(0, strsA l), (3, AI k), (4, AI j)]) (fun _ => []) (fun j => j ≤ k ∧ ∀ x ∈ l.take j, x ≠ s) (fun j => k - j) 0 ⟨Nat.zero_le _, by simp⟩ ?_ (OSub.refl _) ?_
          · exact subQ
          · rintro j ⟨hj, hq⟩
            rcases Nat.lt_or_ge j k with h' | h'
            · have hy := List.getElem?_eq_getElem (l := l) (i := j) (by omega)
              generalize l[j] = y at hy
              have yk : (l.map cS)[(j : Int).toNat]? = some (cS y) := map_get hy
              by_cases he : y = s
              · have hm : s ∈ l.take k := by
                  rw [List.mem_take_iff_getElem]
                  obtain ⟨h1, h2⟩ := List.getElem?_eq_some_iff.1 hy
                  exact ⟨j, by omega, by rw [h2]; exact he⟩
                rw [show firstN (nameAt l) l.length = 5 by rw [firstN_at hp h (by rw [hn]; simp [hb, hm]), hn]; simp [hb, hm]]
                repeat (first | refine gA pk ?_ | (show AL _ _ _ _ _ _ _; first | refine jX tok yk ?_ | refine jX tok xk ?_ | refine s_strEqT rfl rfl rfl rfl rfl rfl (by first | rfl | assumption) ?_))
                refine finQ ?_
                exact ⟨rfl, rfl⟩
              · repeat (first | refine gA pk ?_ | (show AL _ _ _ _ _ _ _; first | refine jX tok yk ?_ | refine jX tok xk ?_ | refine s_strEqF rfl rfl rfl rfl rfl rfl (by assumption) ?_))
                exact ⟨j + 1, ⟨by omega, take_all hy hq he⟩, by omega, by exact subQ, OSub.none _⟩
            · obtain rfl : j = k := by omega
              have hm : s ∉ l.take j := fun hm => hq s hm rfl
              repeat (first | refine gA pk ?_)
              exact ⟨j + 1, ⟨by omega, below_succ hp (by rw [hn]; simp [hb, hm])⟩, by omega, by exact subQ, OSub.none _⟩
      · obtain rfl : k = l.length := by omega
        rw [firstN_none hp]
        repeat (first | refine gA pk ?_)
        refine finQ ?_
        exact ⟨rfl, rfl⟩
end Go.Proofs.YtddohheabpiljaaGreat

end
