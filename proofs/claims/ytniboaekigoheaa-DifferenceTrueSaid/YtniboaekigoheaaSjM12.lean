/-
  Difference constraints: the tests that remain: plain mathematics.
-/
import Derived.Test.YtniboaekigoheaaSjM10
namespace Go.Sj.Dif
set_option linter.unusedVariables false
set_option linter.unusedSimpArgs false

def redS (n : Int) (out : List Tst) (x : Tst) : List Tst := if (impliesR n out x).1 = true then out else out ++ [x]
def redF (n : Int) (l : List Tst) : List Tst := l.foldl (redS n) []
def reduceR (n : Int) (l : List Tst) : List Tst × Int := if validT n l ≠ 0 then ([], validT n l) else (redF n l, 0)
theorem redF_take {n : Int} {l : List Tst} {k : Nat} {x : Tst} (h : l[k]? = some x) : redF n (l.take (k + 1)) = redS n (redF n (l.take k)) x := by
  obtain ⟨hk, rfl⟩ := List.getElem?_eq_some_iff.1 h
  rw [List.take_succ_eq_append_getElem hk, redF, List.foldl_append]
  rfl
theorem redS_length (n : Int) (out : List Tst) (x : Tst) : (redS n out x).length ≤ out.length + 1 := by
  unfold redS; split <;> simp
theorem redF_length (n : Int) (l : List Tst) : (redF n l).length ≤ l.length := by
  suffices ∀ out : List Tst, (l.foldl (redS n) out).length ≤ out.length + l.length by simpa [redF] using this []
  induction l with
  | nil => intro out; simp
  | cons x l ih =>
    intro out
    have h1 := ih (redS n out x)
    have h2 := redS_length n out x
    simp only [List.foldl_cons, List.length_cons]
    omega
theorem redS_sub {n : Int} {out : List Tst} {x : Tst} : (∀ y ∈ out, y ∈ redS n out x) ∧ ∀ y ∈ redS n out x, y ∈ out ∨ y = x := by
  unfold redS
  split
  · exact ⟨fun y h => h, fun y h => .inl h⟩
  · exact ⟨fun y h => by simp [h], fun y h => by simpa using h⟩
theorem fold_sub {n : Int} : ∀ (l : List Tst) (out : List Tst), (∀ y ∈ out, y ∈ l.foldl (redS n) out) ∧ (∀ y ∈ l.foldl (redS n) out, y ∈ out ∨ y ∈ l)
  | [], out => ⟨fun y h => h, fun y h => .inl h⟩
  | x :: l, out => by
    obtain ⟨h1, h2⟩ := fold_sub l (redS n out x)
    obtain ⟨k1, k2⟩ := redS_sub (n := n) (out := out) (x := x)
    refine ⟨fun y h => h1 y (k1 y h), fun y h => ?_⟩
    rcases h2 y h with h | h
    · rcases k2 y h with h | h
      · exact .inl h
      · exact .inr (by simp [h])
    · exact .inr (by simp [h])
/-- Each test is implied by what remains ahead of it, or remains. -/
theorem fold_each {n : Int} {x : Tst} : ∀ (l : List Tst) (out : List Tst), x ∈ l → x ∈ l.foldl (redS n) out ∨ ∃ o, (∀ y ∈ o, y ∈ l.foldl (redS n) out) ∧ (∀ y ∈ o, y ∈ out ∨ y ∈ l) ∧ (impliesR n o x).1 = true
  | [], out, h => by simp at h
  | z :: l, out, h => by
    obtain ⟨h1, h2⟩ := fold_sub (n := n) l (redS n out z)
    obtain ⟨k1, k2⟩ := redS_sub (n := n) (out := out) (x := z)
    rcases List.mem_cons.1 h with rfl | h
    · by_cases e : (impliesR n out x).1 = true
      · exact .inr ⟨out, fun y hy => h1 y (k1 y hy), fun y hy => .inl hy, e⟩
      · refine .inl (h1 x ?_)
        unfold redS
        rw [if_neg e]
        simp
    · rcases fold_each l (redS n out z) h with h3 | ⟨o, h3, h4, h5⟩
      · exact .inl h3
      · refine .inr ⟨o, h3, fun y hy => ?_, h5⟩
        rcases h4 y hy with h6 | h6
        · rcases k2 y h6 with h7 | h7
          · exact .inl h7
          · exact .inr (by simp [h7])
        · exact .inr (by simp [h6])

theorem sol_at {k j : Nat} {x : Tst} {v : Nat → Int} : Sol (arcsAt k x) v ↔ Sol (arcsAt j x) v := by
  unfold Sol arcsAt
  split <;> simp [arcAt, opAt]
theorem sol_arcs {l : List Tst} {v : Nat → Int} : Sol (arcsOf l) v ↔ ∀ x ∈ l, Sol (arcsAt 0 x) v := by
  constructor
  · intro h x hx
    obtain ⟨k, hk⟩ := List.getElem?_of_mem hx
    exact sol_at.1 (fun a ha => h a (arcsF_mem.2 ⟨k, x, hk, ha⟩) : Sol (arcsAt (0 + k) x) v)
  · intro h a ha
    obtain ⟨k, x, h1, h2⟩ := arcsF_mem.1 ha
    exact (sol_at.1 (h x (List.mem_of_getElem? h1)) : Sol (arcsAt (0 + k) x) v) a h2
/-- 'implied', in words. -/
theorem imp_words {m : Nat} {l : List Tst} {x : Tst} (hl : ∀ y ∈ l, TOk m y) (hx : TOk m x) : (arcsAt 0 x).all (impB m (arcsOf l)) = true ↔ ∀ v : Nat → Int, (∀ y ∈ l, Sol (arcsAt 0 y) v) → Sol (arcsAt 0 x) v := by
  rw [implies_iff (aok_inr (arcsOf_ok hl)) (aok_inr (arcsAt_ok hx))]
  exact ⟨fun h v hv => h v (sol_arcs.2 hv), fun h v hv => h v (sol_arcs.1 hv)⟩
theorem impliesR_eq {m : Nat} {l : List Tst} {x : Tst} (h0 : validT (m : Int) l = 0) (h1 : oneT (m : Int) x = 0) : impliesR (m : Int) l x = ((arcsAt 0 x).all (impB m (arcsOf l)), 0) := by
  simp only [impliesR, h0, h1, ne_eq, not_true_eq_false, if_false, Int.toNat_natCast]
/-- What remains implies all. -/
theorem reduce_all {n : Int} {l : List Tst} (h0 : validT n l = 0) : ∀ x ∈ l, impliesR n (redF n l) x = (true, 0) := by
  obtain ⟨⟨n0, n12⟩, hlen, hl⟩ := validT_zero.1 h0
  obtain ⟨m, rfl⟩ : ∃ m : Nat, n = m := ⟨n.toNat, by omega⟩
  intro x hx
  have hxo := hl x hx
  obtain ⟨g1, g2⟩ := fold_sub (n := (m : Int)) l []
  have hsub : ∀ y ∈ redF (m : Int) l, y ∈ l := fun y hy => by
    rcases g2 y hy with h | h
    · simp at h
    · exact h
  have hv : validT (m : Int) (redF (m : Int) l) = 0 := validT_zero.2 ⟨⟨n0, n12⟩, by have := redF_length (m : Int) l; omega, fun y hy => hl y (hsub y hy)⟩
  rw [impliesR_eq hv (oneT_zero.2 hxo)]
  congr 1
  refine (imp_words (fun y hy => hl y (hsub y hy)) hxo).2 fun v hv => ?_
  rcases fold_each (n := (m : Int)) l [] hx with h | ⟨o, h1, h2, h3⟩
  · exact hv x h
  · have ho : ∀ y ∈ o, y ∈ l := fun y hy => by
      rcases h2 y hy with h | h
      · simp at h
      · exact h
    by_cases e0 : validT (m : Int) o = 0
    · rw [impliesR_eq e0 (oneT_zero.2 hxo)] at h3
      exact (imp_words (fun y hy => hl y (ho y hy)) hxo).1 h3 v fun y hy => hv y (h1 y hy)
    · simp only [impliesR, if_pos e0] at h3
      cases h3
end Go.Sj.Dif
