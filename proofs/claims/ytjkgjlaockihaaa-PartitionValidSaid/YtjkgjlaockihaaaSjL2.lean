/-
  An owned row, named by its place and by the temporary that holds it, changes no more; small helps for walks.
-/
import Derived.Test.YtjkgjlaockihaaaSjL
namespace Go.Sj
set_option linter.unusedVariables false

/-- The row at place i, held by temporary t, changes no more. -/
theorem a_frz {P : Program} {N : Nat} {c : Code} {Q : Exit → St → Own → Prop} {l : List (Nat × AV)} {L : Own} (i t : Nat) {v : Value} {E sz : Nat} {es : List (List AV)} (hL : L[i]? = some (v, .row E sz es)) (ht : lk l t = .lit v)
    (k : AWp P N c Q (lk ((t, .im sz es) :: l)) (L.eraseIdx i)) : AWp P N c Q (lk l) L :=
  ⟨fun σ F w a hr htr => by
    obtain ⟨h1, h2⟩ := (hr.at hL).freezeKeep
    have htr' : TR (frz σ w v) N (lk ((t, .im sz es) :: l)) a := by
      refine ⟨htr.defers, htr.size, fun j => ?_⟩
      have hj := (htr.vals j).mono (frz_le σ w v)
      simp only [lk]
      cases e : Nat.beq t j with
      | false => exact hj
      | true =>
        obtain rfl := Nat.eq_of_beq_eq_true e
        rw [ht] at hj
        rw [hj.lit_inv]
        exact h2
    exact wp_mono (k.out _ F w a h1 htr') fun e a' w' hp => hp.le (frz_le σ w v)⟩
end Go.Sj
