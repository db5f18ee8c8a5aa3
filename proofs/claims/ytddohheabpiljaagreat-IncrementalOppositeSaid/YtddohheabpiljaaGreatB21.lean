/-
  Parts of the proof of the law IncrementalOpposite (texts Y13): steps, plain mathematics, contracts of functions. Each theorem states its own conditions.
-/
import Derived.Test.YtddohheabpiljaaGreatB09
import Derived.Test.YtddohheabpiljaaGreatB20
section
/-
  Edge types: the walks.
-/
namespace Go.Proofs.YtddohheabpiljaaGreat
open Go.Sj Go.Sj.Typ
set_option maxRecDepth 8000
set_option linter.unusedVariables false
set_option maxHeartbeats 4000000

theorem edgeE_eq {t : Tys} {i : Nat} {e : Edg} (h : t.edges[i]? = some e) : edgeE t i = (if nameB e.name = false then 2 else if ((t.edges.take i).any fun m => decide (m.name = e.name)) = true then 5
    else if (0 ≤ e.fr ∧ e.fr < t.nodes.length) ∧ (0 ≤ e.to ∧ e.to < t.nodes.length) ∧ boundP e.ol e.oh ∧ boundP e.il e.ih then 0 else 6) := by simp only [edgeE, h]
theorem if6_ok {p : Prop} [Decidable p] (h : p) : AI 0 = AI (if p then 0 else 6) := by rw [if_pos h]
theorem if6_bad {p : Prop} [Decidable p] (h : ¬ p) : AI 6 = AI (if p then 0 else 6) := by rw [if_neg h]
theorem inside_spec (n : Int) (t : Tys) : Pure Tryz.prog 149 [AI n, tysP t] (AB (decide (0 ≤ n ∧ n < t.nodes.length))) := by
  have ln : (t.nodes.map cNod).length = t.nodes.length := by simp
  refine a_enter Tryz.func149 (by kernel_rfl) rfl Tryz.ntmps149 rfl (by simp) ?_
  repeat' (first | refine gA pk ?_ | (show AL _ _ _ _ _ _ _; first | (refine s_cmp rfl rfl rfl rfl rfl rfl rfl (fun hb => ?_) (fun hb => ?_) <;> simp only [cmpP] at hb)) | fail)
  all_goals first | ((refine finQ ?_); exact ⟨ABt (by omega), rfl⟩) | ((refine finQ ?_); exact ⟨ABf (by omega), rfl⟩)
theorem edge2_spec (m n : Edg) : Pure Tryz.prog 151 [.agg (cEdg m), .ip (cEdg n)] (AB (decide (m.name = n.name))) := by
  refine a_enter Tryz.func151 (by kernel_rfl) rfl Tryz.ntmps151 rfl (by simp) ?_; refine a_seq ?_; refine a_reg ?_; (repeat (first | refine gZ pk ?_ | (show AL _ _ _ _ _ _ _; first | refine jB (fun u => ?_)))); refine a_frzBox 0 2 rfl rfl ?_
  repeat' (first | refine gA pk ?_ | (show AL _ _ _ _ _ _ _; first | refine s_strEqB rfl rfl rfl rfl rfl rfl (fun hb => ?_) (fun hb => ?_) | (refine s_cmp rfl rfl rfl rfl rfl rfl rfl (fun hb => ?_) (fun hb => ?_) <;> simp only [cmpP] at hb)) | fail)
  · refine finQ ?_
    exact ⟨ABt hb, rfl⟩
  · refine finQ ?_
    exact ⟨ABf hb, rfl⟩
theorem bounded_spec (lo hi : Int) : Pure Tryz.prog 152 [AI lo, AI hi] (AB (decide (0 ≤ lo ∧ lo ≤ 40 ∧ (hi = -1 ∨ lo ≤ hi ∧ hi ≤ 40)))) := by
  refine a_enter Tryz.func152 (by kernel_rfl) rfl Tryz.ntmps152 rfl (by simp) ?_
  repeat' (first | refine gA pk ?_ | (show AL _ _ _ _ _ _ _; first | (refine s_cmp rfl rfl rfl rfl rfl rfl rfl (fun hb => ?_) (fun hb => ?_) <;> simp only [cmpP] at hb)) | fail)
  all_goals first | ((refine finQ ?_); exact ⟨ABt (by omega), rfl⟩) | ((refine finQ ?_); exact ⟨ABf (by omega), rfl⟩)
theorem edge_spec (t : Tys) (ht : Small t) (i : Nat) (hi : i < t.edges.length) : Pure Tryz.prog 121 [tysA t, AI i] (AI (edgeE t i)) := by
  have hx := List.getElem?_eq_getElem hi
  have hn := ht.edge _ (List.getElem_mem hi)
  generalize t.edges[i] = e at hx hn
  have hel := ht.edges
  have xk : (t.edges.map cEdg)[(i : Int).toNat]? = some (cEdg e) := map_get hx
  have le : (t.edges.map cEdg).length = t.edges.length := by simp
  have s1 := IsName_spec e.name (by omega)
  have s2 : Pure Tryz.prog 150 [.im 7 (((t.edges.map cEdg).take i).drop 0), .fn (.func 151) [] [.ip (cEdg e)]] (AB ((t.edges.take i).any fun m => decide (m.name = e.name))) := by
    rw [List.drop_zero, ← List.map_take]
    exact ContainsFuncE_spec _ (by simp; omega) _ _ _ (fun x _ => edge2_spec x e)
  have s3 := fun n => inside_spec n t
  have s4 := bounded_spec
  rw [edgeE_eq hx]
  unfold boundP
  generalize ((t.edges.take i).any fun m => decide (m.name = e.name)) = c at *
  cases hb1 : nameB e.name with
  | false =>
    rw [hb1] at s1
    rw [if_pos rfl]
    refine a_enter Tryz.func121 (by kernel_rfl) rfl Tryz.ntmps121 rfl (by simp) ?_; refine a_seq ?_; refine a_reg ?_; (repeat (first | refine gZ pk ?_ | (show AL _ _ _ _ _ _ _; first | refine jB (fun u => ?_)))); refine a_frzBox 0 2 rfl rfl ?_
    (repeat (first | refine a_seq ?_ | refine a_block ?_)); refine a_reg ?_
    repeat (first | refine gZ pk ?_ | (show AL _ _ _ _ _ _ _; first | refine jL tok (fun u => ?_) | refine jS tok 0 ?_ | refine jX tok xk ?_))
    refine a_frzBox 0 5 rfl rfl ?_
    repeat (first | refine gA pk ?_ | (show AL _ _ _ _ _ _ _; first | refine jP s1 ?_))
    refine finQ ?_
    exact ⟨rfl, rfl⟩
  | true =>
    rw [hb1] at s1
    rw [if_neg (by decide)]
    cases c with
    | true =>
      rw [if_pos rfl]
      refine a_enter Tryz.func121 (by kernel_rfl) rfl Tryz.ntmps121 rfl (by simp) ?_; refine a_seq ?_; refine a_reg ?_; (repeat (first | refine gZ pk ?_ | (show AL _ _ _ _ _ _ _; first | refine jB (fun u => ?_)))); refine a_frzBox 0 2 rfl rfl ?_
      (repeat (first | refine a_seq ?_ | refine a_block ?_)); refine a_reg ?_
      repeat (first | refine gZ pk ?_ | (show AL _ _ _ _ _ _ _; first | refine jL tok (fun u => ?_) | refine jS tok 0 ?_ | refine jX tok xk ?_))
      refine a_frzBox 0 5 rfl rfl ?_
      repeat (first | refine gA pk ?_ | (show AL _ _ _ _ _ _ _; first | refine jP s1 ?_ | refine s_slice tok (a := 0) (b := i) rfl rfl rfl rfl rfl rfl rfl rfl (by first | exact rfl | exact ⟨_, rfl⟩) (by first | exact rfl | exact ⟨_, rfl⟩) (by omega) (by omega) ?_ | refine jP s2 ?_))
      refine finQ ?_
      exact ⟨rfl, rfl⟩
    | false =>
      rw [if_neg (by decide)]
      refine a_enter Tryz.func121 (by kernel_rfl) rfl Tryz.ntmps121 rfl (by simp) ?_; refine a_seq ?_; refine a_reg ?_; (repeat (first | refine gZ pk ?_ | (show AL _ _ _ _ _ _ _; first | refine jB (fun u => ?_)))); refine a_frzBox 0 2 rfl rfl ?_
      (repeat (first | refine a_seq ?_ | refine a_block ?_)); refine a_reg ?_
      repeat (first | refine gZ pk ?_ | (show AL _ _ _ _ _ _ _; first | refine jL tok (fun u => ?_) | refine jS tok 0 ?_ | refine jX tok xk ?_))
      refine a_frzBox 0 5 rfl rfl ?_
      repeat' (first | refine gA pk ?_ | (show AL _ _ _ _ _ _ _; first | refine jP s1 ?_ | refine s_slice tok (a := 0) (b := i) rfl rfl rfl rfl rfl rfl rfl rfl (by first | exact rfl | exact ⟨_, rfl⟩) (by first | exact rfl | exact ⟨_, rfl⟩) (by omega) (by omega) ?_ | refine jP s2 ?_ | (refine s_callB rfl rfl rfl rfl rfl (s3 _) (SubL.of_eq rfl) (fun hb => ?_) (fun hb => ?_) <;> (first | replace hb := of_decide_eq_true hb | replace hb := of_decide_eq_false hb | skip)) | (refine s_callB rfl rfl rfl rfl rfl (s4 _ _) (SubL.of_eq rfl) (fun hb => ?_) (fun hb => ?_) <;> (first | replace hb := of_decide_eq_true hb | replace hb := of_decide_eq_false hb | skip)) | (refine s_cmp rfl rfl rfl rfl rfl rfl rfl (fun hb => ?_) (fun hb => ?_) <;> simp only [cmpP] at hb)) | fail)
      all_goals refine finQ ?_
      all_goals first | exact ⟨if6_ok (by omega), rfl⟩ | exact ⟨if6_bad (by omega), rfl⟩
end Go.Proofs.YtddohheabpiljaaGreat

end
