/-
  Valid statistics: the walks. Conditions: small type graphs, short statistics.
-/
import Derived.Test.YtcacbdohlfljfaaGreatZ7
import Derived.Test.YtcacbdohlfljfaaGreatY18
namespace Go.Proofs.YtcacbdohlfljfaaGreat
open Go.Sj Go.Sj.Typ Go.Sj.Sta
set_option linter.unusedVariables false
set_option linter.unusedSimpArgs false
set_option maxHeartbeats 16000000

theorem vN_at {n : Nat} {l : List Cnt} {k : Nat} {c : Cnt} (h : l[k]? = some c) : vN n l k = vN1 n l k c := by simp only [vN, h]
theorem vE_at {t : Tys} {s : Sta} {k : Nat} {c : Cnt} (h : s.edges[k]? = some c) : vE t s k = vE1 t s k c := by simp only [vE, h]
theorem vN_ok {n : Nat} {l : List Cnt} {k : Nat} {c : Cnt} (h : l[k]? = some c) (h0 : vN n l k = 0) : nodeOk n c := by
  rw [vN_at h] at h0
  unfold vN1 at h0
  by_cases hk : nodeOk n c
  · exact hk
  · rw [if_pos hk] at h0; cases h0
theorem vE_ok {t : Tys} {s : Sta} {k : Nat} {c : Cnt} (h : s.edges[k]? = some c) (h0 : vE t s k = 0) : edgeOk t.nodes.length t.edges.length c := by
  rw [vE_at h] at h0
  unfold vE1 at h0
  by_cases hk : edgeOk t.nodes.length t.edges.length c
  · exact hk
  · rw [if_pos hk] at h0; cases h0
theorem prev_zero (l : List Cnt) (c : Cnt) : prevB l 0 c = false := rfl
theorem prev_at {l : List Cnt} {k : Nat} {c d : Cnt} (h0 : 0 < k) (h : l[k - 1]? = some d) : prevB l k c = !decide (klt d c) := by
  unfold prevB; rw [h, decide_eq_true h0]; rfl
theorem nodeOk_sm {n : Nat} {c : Cnt} (hn : n ≤ 1000) (h : nodeOk n c) : smC c := by unfold nodeOk at h; unfold smC; omega
theorem edgeOk_sm {n m : Nat} {c : Cnt} (hn : n ≤ 1000) (hm : m ≤ 1000) (h : edgeOk n m c) : smC c := by unfold edgeOk at h; unfold smC; omega
theorem lt_snoc {f : Nat → Int} {k : Nat} (h : ∀ j, j < k → f j = 0) (hk : f k = 0) : ∀ j, j < k + 1 → f j = 0 := fun j hj => by
  rcases Nat.lt_or_ge j k with hj' | hj'
  · exact h j hj'
  · obtain rfl : j = k := by omega
    exact hk
theorem sumP_bd {p : Cnt → Bool} {l : List Cnt} (h : ∀ c ∈ l, 0 ≤ c.nu ∧ c.nu ≤ 100) : 0 ≤ sumP p l ∧ sumP p l ≤ 100 * l.length := by
  induction l with
  | nil => exact ⟨Int.le_refl 0, Int.le_refl 0⟩
  | cons c l ih =>
    have h1 := ih (fun d hd => h d (by simp [hd]))
    have h2 := h c (by simp)
    rw [sumP, List.length_cons]
    split <;> omega
theorem sumP_take {p : Cnt → Bool} {l : List Cnt} {k : Nat} {c : Cnt} (hc : l[k]? = some c) : sumP p (l.take (k + 1)) = sumP p (l.take k) + if p c = true then c.nu else 0 := by
  obtain ⟨hk, rfl⟩ := List.getElem?_eq_some_iff.1 hc
  rw [List.take_succ_eq_append_getElem hk, sumP_append]
  simp [sumP]
end Go.Proofs.YtcacbdohlfljfaaGreat
