/-
  Counts: the number of a key, a number added, copies, equality: the walks of the reference. Conditions: short sorted rows, small numbers.
-/
import Derived.Test.YtcacbdohlfljfaaGreatSjQ8
import Derived.Test.YtcacbdohlfljfaaGreatZ4
namespace Go.Proofs.YtcacbdohlfljfaaGreat
open Go.Sj Go.Sj.Typ Go.Sj.Sta
set_option linter.unusedVariables false
set_option linter.unusedSimpArgs false
set_option maxHeartbeats 4000000

theorem refnumber_spec (l : List Cnt) (hl : l.length ≤ 1000) (hm : ∀ c ∈ l, smC c) (x : Cnt) (hx : smC x) : Pure Tryz.prog 53 [cntsA l, .agg (cCnt x)] (AI (numK l x)) := by
  have ll : (l.map cCnt).length = l.length := by simp
  refine a_enter Tryz.func53 (by kernel_rfl) rfl Tryz.ntmps53 rfl (by simp) ?_; refine a_seq ?_; refine a_reg ?_; (repeat (first | refine gZ pk ?_ | (show AL _ _ _ _ _ _ _; first | refine jB (fun u => ?_)))); refine a_frzBox 0 3 rfl rfl ?_
  repeat (first | refine gA pk ?_)
  refine a_loopX (fun k : Nat => [(0, cntsA l), (3, .ip (cCnt x)), (5, AI k)]) (fun _ => []) (fun k => k ≤ l.length ∧ ∀ c ∈ l.take k, decide (keq c x) = false) (fun k => l.length - k) 0 ⟨Nat.zero_le _, by simp⟩ ?_ (OSub.refl _) ?_
  · exact subQ
  · rintro k ⟨hk, hno⟩
    rcases Nat.lt_or_ge k l.length with h | h
    · have hy := List.getElem?_eq_getElem h
      have s1 := refcompare_spec _ x (hm _ (List.getElem_mem h)) hx
      have hz := cmp3_eq l[k] x
      generalize l[k] = c at *
      generalize cmp3 c x = z at *
      by_cases hq : keq c x
      · have hz1 := hz.2 hq
        have hf := find_atP (p := fun c => decide (keq c x)) hno hy (decide_eq_true hq)
        unfold numK
        rw [hf]
        obtain ⟨c1, c2, c3, c4⟩ := c
        have xk : (l.map cCnt)[(k : Int).toNat]? = some [AI c1, AI c2, AI c3, AI c4] := map_get (f := cCnt) hy
        repeat (first | refine gA pk ?_ | (show AL _ _ _ _ _ _ _; first | refine jX tok xk ?_ | refine jP s1 ?_))
        refine finQ ?_
        exact ⟨rfl, rfl⟩
      · have hz1 : ¬ z = 0 := fun e => hq (hz.1 e)
        have hn := none_takeP (p := fun c => decide (keq c x)) hno hy (decide_eq_false hq)
        have xk : (l.map cCnt)[(k : Int).toNat]? = some (cCnt c) := map_get hy
        repeat (first | refine gA pk ?_ | (show AL _ _ _ _ _ _ _; first | refine jX tok xk ?_ | refine jP s1 ?_))
        exact ⟨k + 1, ⟨by omega, hn⟩, by omega, by exact subQ, OSub.none _⟩
    · obtain rfl : k = l.length := by omega
      rw [List.take_length] at hno
      unfold numK
      rw [List.find?_eq_none.2 (fun c hc => by simpa using hno c hc)]
      repeat (first | refine gA pk ?_)
      refine finQ ?_
      exact ⟨rfl, rfl⟩
theorem refSameCounts_spec (xs ys : List Cnt) (hx : xs.length ≤ 140737488355328) (hy : ys.length ≤ 140737488355328) : Pure Tryz.prog 39 [cntsA xs, cntsA ys] (AB (decide (xs = ys))) := by
  have lx : (xs.map cCnt).length = xs.length := by simp
  have ly : (ys.map cCnt).length = ys.length := by simp
  by_cases hl : xs.length = ys.length
  · refine a_enter Tryz.func39 (by kernel_rfl) rfl Tryz.ntmps39 rfl (by simp) ?_
    repeat (first | refine gA pk ?_)
    refine a_loopX (fun k : Nat => [(0, cntsA xs), (1, cntsA ys), (5, AI k)]) (fun _ => []) (fun k => k ≤ xs.length ∧ xs.take k = ys.take k) (fun k => xs.length - k) 0 ⟨Nat.zero_le _, rfl⟩ ?_ (OSub.refl _) ?_
    · exact subQ
    · rintro k ⟨hk, he⟩
      rcases Nat.lt_or_ge k xs.length with h | h
      · have h1 := List.getElem?_eq_getElem h
        have h2 := List.getElem?_eq_getElem (l := ys) (i := k) (by omega)
        generalize xs[k] = a at h1
        generalize ys[k] = b at h2
        have x1 : (xs.map cCnt)[(k : Int).toNat]? = some (cCnt a) := map_get h1
        have x2 : (ys.map cCnt)[(k : Int).toNat]? = some (cCnt b) := map_get h2
        by_cases hab : a = b
        · have ht := take_eq1 h1 h2 he hab
          repeat (first | refine gA pk ?_ | (show AL _ _ _ _ _ _ _; first | refine jX tok x1 ?_ | refine jX tok x2 ?_ | refine s_sne (b := false) (xs := toIC a) (ys := toIC b) se_cnt rfl rfl rfl rfl rfl rfl rfl rfl (by rw [decide_eq_true (toIC_eq.2 hab)]; rfl) ?_))
          exact ⟨k + 1, ⟨by omega, ht⟩, by omega, by exact subQ, OSub.refl _⟩
        · have hne : xs ≠ ys := fun e => by rw [e, h2] at h1; cases h1; exact hab rfl
          rw [decide_eq_false hne]
          repeat (first | refine gA pk ?_ | (show AL _ _ _ _ _ _ _; first | refine jX tok x1 ?_ | refine jX tok x2 ?_ | refine s_sne (b := true) (xs := toIC a) (ys := toIC b) se_cnt rfl rfl rfl rfl rfl rfl rfl rfl (by rw [decide_eq_false (fun q => hab (toIC_eq.1 q))]; rfl) ?_))
          refine finQ ?_
          exact ⟨rfl, rfl⟩
      · have : xs = ys := by
          have e1 : xs.take k = xs := List.take_of_length_le (by omega)
          have e2 : ys.take k = ys := List.take_of_length_le (by omega)
          rw [← e1, ← e2, he]
        rw [decide_eq_true this]
        repeat (first | refine gA pk ?_)
        refine finQ ?_
        exact ⟨rfl, rfl⟩
  · rw [decide_eq_false (fun e => hl (by rw [e]))]
    refine a_enter Tryz.func39 (by kernel_rfl) rfl Tryz.ntmps39 rfl (by simp) ?_
    repeat (first | refine gA pk ?_)
    refine finQ ?_
    exact ⟨rfl, rfl⟩
def sameB (a b : Sta) : Bool := decide (a.nodes = b.nodes) && decide (a.edges = b.edges)
theorem refSame_spec (a b : Sta) (h1 : OkS a) (h2 : OkS b) : Pure Tryz.prog 15 [staA a, staA b] (AB (sameB a b)) := by
  have s1 := refSameCounts_spec a.nodes b.nodes (by have := h1.1; omega) (by have := h2.1; omega)
  have s2 := refSameCounts_spec a.edges b.edges (by have := h1.2; omega) (by have := h2.2; omega)
  unfold sameB
  generalize decide (a.nodes = b.nodes) = p at *
  generalize decide (a.edges = b.edges) = q at *
  cases p
  all_goals
    refine a_enter Tryz.func15 (by kernel_rfl) rfl Tryz.ntmps15 rfl (by simp) ?_
    refine a_seq ?_
    refine a_reg ?_
    repeat (first | refine gZ pk ?_ | (show AL _ _ _ _ _ _ _; first | refine jB (fun u => ?_)))
    refine a_frzBox 0 3 rfl rfl ?_
    refine a_frzBox 0 2 rfl rfl ?_
    repeat (first | refine gA pk ?_ | (show AL _ _ _ _ _ _ _; first | refine jP s1 ?_ | refine jP s2 ?_))
    refine finQ ?_
    exact ⟨by simp, rfl⟩
theorem Same_spec (a b : Sta) (h1 : OkS a) (h2 : OkS b) : Pure Tryz.prog 24 [staA a, staA b] (AB (sameB a b)) := by
  have s1 := EqualC_spec a.nodes b.nodes (by have := h1.1; omega) (by have := h2.1; omega)
  have s2 := EqualC_spec a.edges b.edges (by have := h1.2; omega) (by have := h2.2; omega)
  unfold sameB
  generalize decide (a.nodes = b.nodes) = p at *
  generalize decide (a.edges = b.edges) = q at *
  cases p
  all_goals
    refine a_enter Tryz.func24 (by kernel_rfl) rfl Tryz.ntmps24 rfl (by simp) ?_
    refine a_seq ?_
    refine a_reg ?_
    repeat (first | refine gZ pk ?_ | (show AL _ _ _ _ _ _ _; first | refine jB (fun u => ?_)))
    refine a_frzBox 0 3 rfl rfl ?_
    refine a_frzBox 0 2 rfl rfl ?_
    repeat (first | refine gA pk ?_ | (show AL _ _ _ _ _ _ _; first | refine jP s1 ?_ | refine jP s2 ?_))
    refine finQ ?_
    exact ⟨by simp, rfl⟩
theorem refCopied_spec (s : Sta) (h1 : s.nodes.length ≤ 1000) (h2 : s.edges.length ≤ 1000) : Pure Tryz.prog 19 [staA s] (staA s) := by
  have ln : (s.nodes.map cCnt).length = s.nodes.length := by simp
  have le : (s.edges.map cCnt).length = s.edges.length := by simp
  refine a_enterC Tryz.func19 (by kernel_rfl) rfl Tryz.ntmps19 rfl (tok _ _ rfl) (by simp) ?_
  refine a_seq ?_
  refine a_reg ?_
  repeat (first | refine gZ pk ?_ | (show AL _ _ _ _ _ _ _; first | refine jB (fun u => ?_) | refine jL tok (fun u2 => ?_)))
  refine a_frzBox 1 1 rfl rfl ?_
  refine AWp.mono (Q := fun e st L => e = .normal ∧ GoTo 12 st L (lk [(2, .pt u2 0 0 0)]) [(u2, .box [cntsA s.nodes, cntsA s.edges])]) ?_ (fun e st L h => ?_)
  · refine a_regXP [1, 2, 5, 6] (.nd [0] (.nd [3, 4, 7, 8, 9] .stop (.nd [4, 3, 7, 8, 9] .stop .stop)) (.nd [4, 0, 3, 7, 8, 9] .stop .stop)) mixed rfl rfl (by decide +kernel) ?_
    repeat' (first | (with_reducible show AX _ _ _ _ _ _ _ _ _; first | exact ax_none | refine ax_stop ?_ | refine ax_nd ?_ ?_) | refine gY pk ?_ | (show AL _ _ _ _ _ _ _; first | refine s_build tok (parts := []) rfl rfl rfl rfl rfl rfl rfl rfl (by decide) (by decide) (fun v => ?_) | refine s_appendImF tok 0 rfl rfl rfl rfl rfl rfl (by decide) rfl rfl rfl rfl (cCnt_cell _) (by simp only [ln, le, List.length_nil]; omega) (by simp only [ln, le, List.length_nil]; omega) ?_ | refine s_appendImF tok 1 rfl rfl rfl rfl rfl rfl (by decide) rfl rfl rfl rfl (cCnt_cell _) (by simp only [ln, le, List.length_nil]; omega) (by simp only [ln, le, List.length_nil]; omega) ?_ | refine jS tok 0 ?_ | refine jS tok 1 ?_) | fail)
    all_goals exact ⟨rfl, GoTo.sub (by exact subQ) (OSub.refl _)⟩
  · obtain ⟨rfl, h⟩ := h
    refine a_goto h ?_
    refine a_frzBox 0 2 rfl rfl ?_
    repeat (first | refine gA pk ?_)
    exact ⟨.inr rfl, _, _, _, _, rfl, rfl, Turn.of (Sub.of_eq rfl) (OSub.refl _), rfl, rfl⟩
end Go.Proofs.YtcacbdohlfljfaaGreat
