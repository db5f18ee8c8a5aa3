/-
  Counts: the number of a key, a number added, copies, equality: the walks of the reference. Conditions: short sorted rows, small numbers.
-/
import Derived.Test.YtcacbdohlfljfaaSjQ8
import Derived.Test.YtcacbdohlfljfaaZ4
namespace Go.Proofs.Ytcacbdohlfljfaa
open Go.Sj Go.Sj.Typ Go.Sj.Sta
set_option linter.unusedVariables false
set_option linter.unusedSimpArgs false
set_option maxHeartbeats 4000000

theorem refSameCounts_spec (xs ys : List Cnt) (hx : xs.length ≤ 140737488355328) (hy : ys.length ≤ 140737488355328) : Pure Try.prog 18 [cntsA xs, cntsA ys] (AB (decide (xs = ys))) := by
  have lx : (xs.map cCnt).length = xs.length := by simp
  have ly : (ys.map cCnt).length = ys.length := by simp
  by_cases hl : xs.length = ys.length
  · refine a_enter Try.func18 (by kernel_rfl) rfl Try.ntmps18 rfl (by simp) ?_
    repeat (first | refine gA pk ?_)
    refine a_loopX (fun k : Nat => [(0, cntsA xs), (1, cntsA ys), (5, AI k)]) (fun _ => []) (fun k => k ≤ xs.length ∧ xs.take k = ys.take k) (fun k => xs.length - k) 0 ⟨Nat.zero_le _, rfl⟩ ?_ (OSub.refl _) ?_
    · exact subQ
    · rintro k ⟨hk, he⟩
      rcases Nat.lt_or_ge k xs.length with h | h
      · have h1 := List.getElem?_eq_getElem h
        have h2 := List.getElem?_eq_getElem (l := ys) (i := k) (by omega)
        generalize xs[k] = a at h1
        generalize ys[k] = b at h2
        have x1 : (xs.map cCnt)[(k : Int).toNat]? = some (cCnt a) := map_get h1
        have x2 : (ys.map cCnt)[(k : Int).toNat]? = some (cCnt b) := map_get h2
        by_cases hab : a = b
        · have ht := take_eq1 h1 h2 he hab
          repeat (first | refine gA pk ?_ | (show AL _ _ _ _ _ _ _; first | refine jX tok x1 ?_ | refine jX tok x2 ?_ | refine s_sne (b := false) (xs := toIC a) (ys := toIC b) se_cnt rfl rfl rfl rfl rfl rfl rfl rfl (by rw [decide_eq_true (toIC_eq.2 hab)]; rfl) ?_))
          exact ⟨k + 1, ⟨by omega, ht⟩, by omega, by exact subQ, OSub.refl _⟩
        · have hne : xs ≠ ys := fun e => by rw [e, h2] at h1; cases h1; exact hab rfl
          rw [decide_eq_false hne]
          repeat (first | refine gA pk ?_ | (show AL _ _ _ _ _ _ _; first | refine jX tok x1 ?_ | refine jX tok x2 ?_ | refine s_sne (b := true) (xs := toIC a) (ys := toIC b) se_cnt rfl rfl rfl rfl rfl rfl rfl rfl (by rw [decide_eq_false (fun q => hab (toIC_eq.1 q))]; rfl) ?_))
          refine finQ ?_
          exact ⟨rfl, rfl⟩
      · have : xs = ys := by
          have e1 : xs.take k = xs := List.take_of_length_le (by omega)
          have e2 : ys.take k = ys := List.take_of_length_le (by omega)
          rw [← e1, ← e2, he]
        rw [decide_eq_true this]
        repeat (first | refine gA pk ?_)
        refine finQ ?_
        exact ⟨rfl, rfl⟩
  · rw [decide_eq_false (fun e => hl (by rw [e]))]
    refine a_enter Try.func18 (by kernel_rfl) rfl Try.ntmps18 rfl (by simp) ?_
    repeat (first | refine gA pk ?_)
    refine finQ ?_
    exact ⟨rfl, rfl⟩
def sameB (a b : Sta) : Bool := decide (a.nodes = b.nodes) && decide (a.edges = b.edges)
theorem refSame_spec (a b : Sta) (h1 : OkS a) (h2 : OkS b) : Pure Try.prog 10 [staA a, staA b] (AB (sameB a b)) := by
  have s1 := refSameCounts_spec a.nodes b.nodes (by have := h1.1; omega) (by have := h2.1; omega)
  have s2 := refSameCounts_spec a.edges b.edges (by have := h1.2; omega) (by have := h2.2; omega)
  unfold sameB
  generalize decide (a.nodes = b.nodes) = p at *
  generalize decide (a.edges = b.edges) = q at *
  cases p
  all_goals
    refine a_enter Try.func10 (by kernel_rfl) rfl Try.ntmps10 rfl (by simp) ?_
    refine a_seq ?_
    refine a_reg ?_
    repeat (first | refine gZ pk ?_ | (show AL _ _ _ _ _ _ _; first | refine jB (fun u => ?_)))
    refine a_frzBox 0 3 rfl rfl ?_
    refine a_frzBox 0 2 rfl rfl ?_
    repeat (first | refine gA pk ?_ | (show AL _ _ _ _ _ _ _; first | refine jP s1 ?_ | refine jP s2 ?_))
    refine finQ ?_
    exact ⟨by simp, rfl⟩
end Go.Proofs.Ytcacbdohlfljfaa
