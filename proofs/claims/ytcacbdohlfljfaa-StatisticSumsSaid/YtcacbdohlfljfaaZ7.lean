/-
  Valid graphs, typed graphs: the walks. Conditions: small type graphs.
-/
import Derived.Test.YtcacbdohlfljfaaSjQ8
import Derived.Test.YtcacbdohlfljfaaZ6
namespace Go.Proofs.Ytcacbdohlfljfaa
open Go.Sj Go.Sj.Typ Go.Sj.Sta
set_option linter.unusedVariables false
set_option linter.unusedSimpArgs false
set_option maxHeartbeats 8000000

theorem within_spec (n m : Int) : Pure Try.prog 39 [AI n, AI m] (AB (decide (0 ≤ n ∧ n ≤ m))) := by
  refine a_enter Try.func39 (by kernel_rfl) rfl Try.ntmps39 rfl (by simp) ?_
  repeat' (first | refine gA pk ?_ | (show AL _ _ _ _ _ _ _; first | (refine s_cmp rfl rfl rfl rfl rfl rfl rfl (fun hb => ?_) (fun hb => ?_) <;> simp only [cmpP] at hb)) | fail)
  all_goals first | ((refine finQ ?_); exact ⟨ABt (by omega), rfl⟩) | ((refine finQ ?_); exact ⟨ABf (by omega), rfl⟩)
theorem gfits_spec (a b c : Int) (n : Int) (hn : 0 ≤ n ∧ n ≤ 140737488355328) : Pure Try.prog 42 [.agg [AI a, AI b, AI c], AI n] (AB (decide ((0 ≤ a ∧ a ≤ 99) ∧ (0 ≤ b ∧ b < n) ∧ (0 ≤ c ∧ c < n)))) := by
  have s1 := within_spec a 99
  have s2 := within_spec b (n - 1)
  have s3 := within_spec c (n - 1)
  refine a_enter Try.func42 (by kernel_rfl) rfl Try.ntmps42 rfl (by simp) ?_; refine a_seq ?_; refine a_reg ?_; (repeat (first | refine gZ pk ?_ | (show AL _ _ _ _ _ _ _; first | refine jB (fun u => ?_)))); refine a_frzBox 0 2 rfl rfl ?_
  repeat' (first | refine gA pk ?_ | (show AL _ _ _ _ _ _ _; first | (refine s_callB rfl rfl rfl rfl rfl (s1) (SubL.of_eq rfl) (fun hb => ?_) (fun hb => ?_) <;> (first | replace hb := of_decide_eq_true hb | replace hb := of_decide_eq_false hb | skip)) | (refine s_callB rfl rfl rfl rfl rfl (s2) (SubL.of_eq rfl) (fun hb => ?_) (fun hb => ?_) <;> (first | replace hb := of_decide_eq_true hb | replace hb := of_decide_eq_false hb | skip)) | (refine s_callB rfl rfl rfl rfl rfl (s3) (SubL.of_eq rfl) (fun hb => ?_) (fun hb => ?_) <;> (first | replace hb := of_decide_eq_true hb | replace hb := of_decide_eq_false hb | skip)) | (refine s_cmp rfl rfl rfl rfl rfl rfl rfl (fun hb => ?_) (fun hb => ?_) <;> simp only [cmpP] at hb)) | fail)
  all_goals first | ((refine finQ ?_); exact ⟨ABt (by omega), rfl⟩) | ((refine finQ ?_); exact ⟨ABf (by omega), rfl⟩)
theorem gfits_spec' (e : Ed) (n : Nat) (hn : n ≤ 140737488355328) : Pure Try.prog 42 [.agg (cEd e), AI n] (AB (edB n e)) := by
  obtain ⟨a, b, c⟩ := e
  exact gfits_spec a b c n ⟨by omega, by omega⟩
theorem gv1_spec (x : Int) : Pure Try.prog 38 [AI x] (AB (!typB x)) := by
  have s1 := within_spec x 99
  unfold typB
  generalize decide (0 ≤ x ∧ x ≤ 99) = b at *
  cases b
  all_goals
    refine a_enter Try.func38 (by kernel_rfl) rfl Try.ntmps38 rfl (by simp) ?_
    repeat (first | refine gA pk ?_ | (show AL _ _ _ _ _ _ _; first | refine jP s1 ?_))
    refine finQ ?_
    exact ⟨rfl, rfl⟩
theorem gv2_spec (g : Gr) (hg : OkG g) (e : Ed) : Pure Try.prog 41 [.agg (cEd e), grP g] (AB (!edB g.nodes.length e)) := by
  have s1 := gfits_spec' e g.nodes.length (by have := hg.1; omega)
  have ll : (rowI g.nodes).length = g.nodes.length := by simp
  generalize edB g.nodes.length e = b at *
  rw [← ll] at s1
  cases b
  all_goals
    refine a_enter Try.func41 (by kernel_rfl) rfl Try.ntmps41 rfl (by simp) ?_; refine a_seq ?_; refine a_reg ?_; (repeat (first | refine gZ pk ?_ | (show AL _ _ _ _ _ _ _; first | refine jB (fun u => ?_)))); refine a_frzBox 0 2 rfl rfl ?_
    repeat (first | refine gA pk ?_ | (show AL _ _ _ _ _ _ _; first | refine jP s1 ?_))
    refine finQ ?_
    exact ⟨rfl, rfl⟩
theorem gvalid_spec (g : Gr) (hg : OkG g) : Pure Try.prog 21 [grA g] (AI (gvalid g)) := by
  have ln : (rowI g.nodes).length = g.nodes.length := by simp
  have le : (g.edges.map cEd).length = g.edges.length := by simp
  unfold gvalid
  by_cases hb : 40 < g.nodes.length ∨ 80 < g.edges.length
  · rw [if_pos hb]
    by_cases h1 : 40 < g.nodes.length
    all_goals
      refine a_enter Try.func21 (by kernel_rfl) rfl Try.ntmps21 rfl (by simp) ?_; refine a_seq ?_; refine a_reg ?_; (repeat (first | refine gZ pk ?_ | (show AL _ _ _ _ _ _ _; first | refine jB (fun u => ?_)))); refine a_frzBox 0 1 rfl rfl ?_
      repeat (first | refine gA pk ?_)
      refine finQ ?_
      exact ⟨rfl, rfl⟩
  · rw [if_neg hb]
    have s1 := ContainsFuncI_spec g.nodes (by omega) 38 [] (fun x => !typB x) (fun x _ => gv1_spec x)
    have s2 := ContainsFuncG_spec g.edges (by omega) 41 [grP g] (fun e => !edB g.nodes.length e) (fun e _ => gv2_spec g hg e)
    generalize (g.nodes.any fun x => !typB x) = p at *
    generalize (g.edges.any fun e => !edB g.nodes.length e) = q at *
    cases p
    · cases q
      all_goals
        simp only [Bool.false_eq_true, if_false, if_true]
        refine a_enter Try.func21 (by kernel_rfl) rfl Try.ntmps21 rfl (by simp) ?_; refine a_seq ?_; refine a_reg ?_; (repeat (first | refine gZ pk ?_ | (show AL _ _ _ _ _ _ _; first | refine jB (fun u => ?_)))); refine a_frzBox 0 1 rfl rfl ?_
        repeat (first | refine gA pk ?_ | (show AL _ _ _ _ _ _ _; first | refine jP s1 ?_ | refine jP s2 ?_))
        refine finQ ?_
        exact ⟨rfl, rfl⟩
    · rw [if_pos rfl]
      refine a_enter Try.func21 (by kernel_rfl) rfl Try.ntmps21 rfl (by simp) ?_; refine a_seq ?_; refine a_reg ?_; (repeat (first | refine gZ pk ?_ | (show AL _ _ _ _ _ _ _; first | refine jB (fun u => ?_)))); refine a_frzBox 0 1 rfl rfl ?_
      repeat (first | refine gA pk ?_ | (show AL _ _ _ _ _ _ _; first | refine jP s1 ?_))
      refine finQ ?_
      exact ⟨rfl, rfl⟩
theorem any_take_some {A : Type} {l : List A} {p : A → Bool} {k : Nat} {a : A} (ha : l[k]? = some a) (hp : p a = true) : l.any p = true := List.any_eq_true.2 ⟨a, List.mem_of_getElem? ha, hp⟩
theorem any_take_none {A : Type} {l : List A} {p : A → Bool} (h : ∀ x ∈ l, p x = false) : l.any p = false := Bool.eq_false_iff.2 fun h2 => by
  obtain ⟨x, hx, hp⟩ := List.any_eq_true.1 h2
  rw [h x hx] at hp; cases hp
end Go.Proofs.Ytcacbdohlfljfaa
