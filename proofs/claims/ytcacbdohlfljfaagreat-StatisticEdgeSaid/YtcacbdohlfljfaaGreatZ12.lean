/-
  One change of a statistic: the walks. Conditions: small type graphs, short statistics.
-/
import Derived.Test.YtcacbdohlfljfaaGreatZ10a
import Derived.Test.YtcacbdohlfljfaaGreatZ9
import Derived.Test.YtcacbdohlfljfaaGreatSjQN
namespace Go.Proofs.YtcacbdohlfljfaaGreat
open Go.Sj Go.Sj.Typ Go.Sj.Sta
set_option linter.unusedVariables false
set_option linter.unusedSimpArgs false
set_option maxHeartbeats 16000000

theorem len_tot {l : List Cnt} (h : ∀ c ∈ l, 1 ≤ c.nu) : (l.length : Int) ≤ tot l := by
  induction l with
  | nil => exact Int.le_refl 0
  | cons c l ih =>
    have h1 := ih (fun d hd => h d (by simp [hd]))
    have h2 := h c (by simp)
    simp only [sumP, if_true, List.length_cons]
    simp only [tot] at h1
    omega
theorem nodeR_er {t : Tys} {s : Sta} {k z e : Int} (h : nodeE' t s k z = e) (he : e ≠ 0) : nodeR t s k z = (⟨[], []⟩, e) := by unfold nodeR; rw [h, if_pos he]
theorem nodeR_kk {t : Tys} {s : Sta} {k z : Int} (h : NodeOK t s k z) : nodeR t s k z = (⟨addC s.nodes ⟨k, 0, 0, z⟩, s.edges⟩, 0) := by unfold nodeR; rw [if_neg (Decidable.not_not.2 (nodeE_zero'.2 h))]
theorem edgeR_er {t : Tys} {s : Sta} {k a b z e : Int} (h : edgeE' t s k a b z = e) (he : e ≠ 0) : edgeR t s k a b z = (⟨[], []⟩, e) := by unfold edgeR; rw [h, if_pos he]
theorem edgeR_kk {t : Tys} {s : Sta} {k a b z : Int} (h : EdgeOK t s k a b z) : edgeR t s k a b z = (⟨s.nodes, addC s.edges ⟨k, a, b, z⟩⟩, 0) := by unfold edgeR; rw [if_neg (Decidable.not_not.2 (edgeE_zero'.2 h))]
end Go.Proofs.YtcacbdohlfljfaaGreat
