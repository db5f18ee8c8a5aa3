/- Parts of a proof. -/
import Derived.Test.YtimfponihbfimaaGreatP20
set_option linter.unusedVariables false
set_option linter.unusedSimpArgs false
section
namespace Go.Proofs.YtimfponihbfimaaGreat
open Go.Sj Go.Sj.Typ
set_option maxRecDepth 8000
set_option maxHeartbeats 4000000
theorem edgeE_eq {t : Tys} {i : Nat} {e : Edg} (h : t.edges[i]? = some e) : edgeE t i = (if nameB e.name = false then 2 else if ((t.edges.take i).any fun m => decide (m.name = e.name)) = true then 5
    else if (0 ≤ e.fr ∧ e.fr < t.nodes.length) ∧ (0 ≤ e.to ∧ e.to < t.nodes.length) ∧ boundP e.ol e.oh ∧ boundP e.il e.ih then 0 else 6) := by simp only [edgeE, h]
theorem if6_ok {p : Prop} [Decidable p] (h : p) : AI 0 = AI (if p then 0 else 6) := by rw [if_pos h]
theorem if6_bad {p : Prop} [Decidable p] (h : ¬ p) : AI 6 = AI (if p then 0 else 6) := by rw [if_neg h]
theorem inside_spec (n : Int) (t : Tys) : Pure Tryz.prog 187 [AI n, tysP t] (AB (decide (0 ≤ n ∧ n < t.nodes.length))) := by
  have ln : (t.nodes.map cNod).length = t.nodes.length := by simp
  refine zen Tryz.func187 (by kernel_rfl) rfl Tryz.ntmps187 rfl (by simp) ?_
  repeat' (first | refine gA pk ?_ | (show AL _ _ _ _ _ _ _; first | (refine s_cmp rfl rfl rfl rfl rfl rfl rfl (fun hb => ?_) (fun hb => ?_) <;> simp only [cmpP] at hb)) | fail)
  all_goals first | ((refine finQ ?_); exact ⟨ABt (by omega), rfl⟩) | ((refine finQ ?_); exact ⟨ABf (by omega), rfl⟩)
theorem edge2_spec (m n : Edg) : Pure Tryz.prog 189 [.agg (cEdg m), .ip (cEdg n)] (AB (decide (m.name = n.name))) := by
  refine zen Tryz.func189 (by kernel_rfl) rfl Tryz.ntmps189 rfl (by simp) ?_; refine a_seq ?_; refine a_reg ?_; (repeat (first | refine gZ pk ?_ | (show AL _ _ _ _ _ _ _; first | refine jB (fun u => ?_)))); refine zfb 0 2 rfl rfl ?_
  repeat' (first | refine gA pk ?_ | (show AL _ _ _ _ _ _ _; first | refine s_strEqB rfl rfl rfl rfl rfl rfl (fun hb => ?_) (fun hb => ?_) | (refine s_cmp rfl rfl rfl rfl rfl rfl rfl (fun hb => ?_) (fun hb => ?_) <;> simp only [cmpP] at hb)) | fail)
  · refine finQ ?_
    exact ⟨ABt hb, rfl⟩
  · refine finQ ?_
    exact ⟨ABf hb, rfl⟩
theorem bounded_spec (lo hi : Int) : Pure Tryz.prog 190 [AI lo, AI hi] (AB (decide (0 ≤ lo ∧ lo ≤ 40 ∧ (hi = -1 ∨ lo ≤ hi ∧ hi ≤ 40)))) := by
  refine zen Tryz.func190 (by kernel_rfl) rfl Tryz.ntmps190 rfl (by simp) ?_
  repeat' (first | refine gA pk ?_ | (show AL _ _ _ _ _ _ _; first | (refine s_cmp rfl rfl rfl rfl rfl rfl rfl (fun hb => ?_) (fun hb => ?_) <;> simp only [cmpP] at hb)) | fail)
  all_goals first | ((refine finQ ?_); exact ⟨ABt (by omega), rfl⟩) | ((refine finQ ?_); exact ⟨ABf (by omega), rfl⟩)
theorem bound_spec (lo hi : Int) : Pure Tryz.prog 139 [AI lo, AI hi] (AB (decide (0 ≤ lo ∧ lo ≤ 40 ∧ (hi = -1 ∨ lo ≤ hi ∧ hi ≤ 40)))) := by
  have s1 := in_spec
  refine zen Tryz.func139 (by kernel_rfl) rfl Tryz.ntmps139 rfl (by simp) ?_
  repeat' (first | refine gA pk ?_ | (show AL _ _ _ _ _ _ _; first | (refine s_callB rfl rfl rfl rfl rfl (s1 _ _ _) (SubL.of_eq rfl) (fun hb => ?_) (fun hb => ?_) <;> (first | replace hb := of_decide_eq_true hb | replace hb := of_decide_eq_false hb | skip)) | (refine s_cmp rfl rfl rfl rfl rfl rfl rfl (fun hb => ?_) (fun hb => ?_) <;> simp only [cmpP] at hb)) | fail)
  all_goals first | ((refine finQ ?_); exact ⟨ABt (by omega), rfl⟩) | ((refine finQ ?_); exact ⟨ABf (by omega), rfl⟩)
theorem edge_spec (t : Tys) (ht : Small t) (i : Nat) (hi : i < t.edges.length) : Pure Tryz.prog 162 [tysA t, AI i] (AI (edgeE t i)) := by
  have hx := List.getElem?_eq_getElem hi
  have hn := ht.edge _ (List.getElem_mem hi)
  generalize t.edges[i] = e at hx hn
  have hel := ht.edges
  have xk : (t.edges.map cEdg)[(i : Int).toNat]? = some (cEdg e) := zmp hx
  have le : (t.edges.map cEdg).length = t.edges.length := by simp
  have s1 := IsName_spec e.name (by omega)
  have s2 : Pure Tryz.prog 188 [.im 7 (((t.edges.map cEdg).take i).drop 0), .fn (.func 189) [] [.ip (cEdg e)]] (AB ((t.edges.take i).any fun m => decide (m.name = e.name))) := by
    rw [List.drop_zero, ← List.map_take]
    exact ContainsFuncE_spec _ (by simp; omega) _ _ _ (fun x _ => edge2_spec x e)
  have s3 := fun n => inside_spec n t
  have s4 := bounded_spec
  rw [edgeE_eq hx]
  unfold boundP
  generalize ((t.edges.take i).any fun m => decide (m.name = e.name)) = c at *
  cases hb1 : nameB e.name with
  | false =>
    rw [hb1] at s1
    rw [if_pos rfl]
    refine zen Tryz.func162 (by kernel_rfl) rfl Tryz.ntmps162 rfl (by simp) ?_; refine a_seq ?_; refine a_reg ?_; (repeat (first | refine gZ pk ?_ | (show AL _ _ _ _ _ _ _; first | refine jB (fun u => ?_)))); refine zfb 0 2 rfl rfl ?_
    (repeat (first | refine a_seq ?_ | refine a_block ?_)); refine a_reg ?_
    repeat (first | refine gZ pk ?_ | (show AL _ _ _ _ _ _ _; first | refine jL tok (fun u => ?_) | refine jS tok 0 ?_ | refine jX tok xk ?_))
    refine zfb 0 5 rfl rfl ?_
    repeat (first | refine gA pk ?_ | (show AL _ _ _ _ _ _ _; first | refine jP s1 ?_))
    refine finQ ?_
    exact ⟨rfl, rfl⟩
  | true =>
    rw [hb1] at s1
    rw [if_neg (by decide)]
    cases c with
    | true =>
      rw [if_pos rfl]
      refine zen Tryz.func162 (by kernel_rfl) rfl Tryz.ntmps162 rfl (by simp) ?_; refine a_seq ?_; refine a_reg ?_; (repeat (first | refine gZ pk ?_ | (show AL _ _ _ _ _ _ _; first | refine jB (fun u => ?_)))); refine zfb 0 2 rfl rfl ?_
      (repeat (first | refine a_seq ?_ | refine a_block ?_)); refine a_reg ?_
      repeat (first | refine gZ pk ?_ | (show AL _ _ _ _ _ _ _; first | refine jL tok (fun u => ?_) | refine jS tok 0 ?_ | refine jX tok xk ?_))
      refine zfb 0 5 rfl rfl ?_
      repeat (first | refine gA pk ?_ | (show AL _ _ _ _ _ _ _; first | refine jP s1 ?_ | refine s_slice tok (a := 0) (b := i) rfl rfl rfl rfl rfl rfl rfl rfl (by first | exact rfl | exact ⟨_, rfl⟩) (by first | exact rfl | exact ⟨_, rfl⟩) (by omega) (by omega) ?_ | refine jP s2 ?_))
      refine finQ ?_
      exact ⟨rfl, rfl⟩
    | false =>
      rw [if_neg (by decide)]
      refine zen Tryz.func162 (by kernel_rfl) rfl Tryz.ntmps162 rfl (by simp) ?_; refine a_seq ?_; refine a_reg ?_; (repeat (first | refine gZ pk ?_ | (show AL _ _ _ _ _ _ _; first | refine jB (fun u => ?_)))); refine zfb 0 2 rfl rfl ?_
      (repeat (first | refine a_seq ?_ | refine a_block ?_)); refine a_reg ?_
      repeat (first | refine gZ pk ?_ | (show AL _ _ _ _ _ _ _; first | refine jL tok (fun u => ?_) | refine jS tok 0 ?_ | refine jX tok xk ?_))
      refine zfb 0 5 rfl rfl ?_
      repeat' (first | refine gA pk ?_ | (show AL _ _ _ _ _ _ _; first | refine jP s1 ?_ | refine s_slice tok (a := 0) (b := i) rfl rfl rfl rfl rfl rfl rfl rfl (by first | exact rfl | exact ⟨_, rfl⟩) (by first | exact rfl | exact ⟨_, rfl⟩) (by omega) (by omega) ?_ | refine jP s2 ?_ | (refine s_callB rfl rfl rfl rfl rfl (s3 _) (SubL.of_eq rfl) (fun hb => ?_) (fun hb => ?_) <;> (first | replace hb := of_decide_eq_true hb | replace hb := of_decide_eq_false hb | skip)) | (refine s_callB rfl rfl rfl rfl rfl (s4 _ _) (SubL.of_eq rfl) (fun hb => ?_) (fun hb => ?_) <;> (first | replace hb := of_decide_eq_true hb | replace hb := of_decide_eq_false hb | skip)) | (refine s_cmp rfl rfl rfl rfl rfl rfl rfl (fun hb => ?_) (fun hb => ?_) <;> simp only [cmpP] at hb)) | fail)
      all_goals refine finQ ?_
      all_goals first | exact ⟨if6_ok (by omega), rfl⟩ | exact ⟨if6_bad (by omega), rfl⟩
theorem refEdge_spec (t : Tys) (ht : Small t) (i : Nat) (hi : i < t.edges.length) : Pure Tryz.prog 84 [tysA t, AI i] (AI (edgeE t i)) := by
  have hx := List.getElem?_eq_getElem hi
  have hn := ht.edge _ (List.getElem_mem hi)
  generalize t.edges[i] = e at hx hn
  have hel := ht.edges
  have hnl := ht.nodes
  have xk : (t.edges.map cEdg)[(i : Int).toNat]? = some (cEdg e) := zmp hx
  have le : (t.edges.map cEdg).length = t.edges.length := by simp
  have ln : (t.nodes.map cNod).length = t.nodes.length := by simp
  have s1 := refIsName_spec e.name (by omega)
  have s3 := in_spec
  have s4 := bound_spec
  have hE := edgeE_eq hx
  unfold boundP at hE
  generalize edgeE t i = E at *
  cases hb1 : nameB e.name with
  | false =>
    rw [hb1] at s1
    rw [hb1, if_pos rfl] at hE
    subst hE
    refine zen Tryz.func84 (by kernel_rfl) rfl Tryz.ntmps84 rfl (by simp) ?_; refine a_seq ?_; refine a_reg ?_; (repeat (first | refine gZ pk ?_ | (show AL _ _ _ _ _ _ _; first | refine jB (fun u => ?_)))); refine zfb 0 2 rfl rfl ?_
    (repeat (first | refine a_seq ?_ | refine a_block ?_)); refine a_reg ?_
    repeat (first | refine gZ pk ?_ | (show AL _ _ _ _ _ _ _; first | refine jL tok (fun u => ?_) | refine jS tok 0 ?_ | refine jX tok xk ?_))
    refine zfb 0 5 rfl rfl ?_
    repeat (first | refine gA pk ?_ | (show AL _ _ _ _ _ _ _; first | refine jP s1 ?_))
    refine finQ ?_
    exact ⟨rfl, rfl⟩
  | true =>
    rw [hb1] at s1
    rw [hb1, if_neg (by decide)] at hE
    refine zen Tryz.func84 (by kernel_rfl) rfl Tryz.ntmps84 rfl (by simp) ?_; refine a_seq ?_; refine a_reg ?_; (repeat (first | refine gZ pk ?_ | (show AL _ _ _ _ _ _ _; first | refine jB (fun u => ?_)))); refine zfb 0 2 rfl rfl ?_
    (repeat (first | refine a_seq ?_ | refine a_block ?_)); refine a_reg ?_
    repeat (first | refine gZ pk ?_ | (show AL _ _ _ _ _ _ _; first | refine jL tok (fun u => ?_) | refine jS tok 0 ?_ | refine jX tok xk ?_))
    refine zfb 0 5 rfl rfl ?_
    repeat (first | refine gA pk ?_ | (show AL _ _ _ _ _ _ _; first | refine jP s1 ?_))
    refine zlx (fun k : Nat => [(1, AI i), (2, tysP t), (5, .ip (cEdg e)), (6, AI k)]) (fun _ => []) (fun k => k ≤ i ∧ ∀ x ∈ t.edges.take k, x.name ≠ e.name) (fun k => i - k) 0 ⟨Nat.zero_le _, by simp⟩ ?_ (OSub.none _) ?_
    · exact subQ
    · rintro k ⟨hk, hq⟩
      rcases Nat.lt_or_ge k i with h | h
      · have hy := List.getElem?_eq_getElem (l := t.edges) (i := k) (by omega)
        generalize t.edges[k] = y at hy
        have yk : (t.edges.map cEdg)[(k : Int).toNat]? = some (cEdg y) := zmp hy
        by_cases he : y.name = e.name
        · rw [any_take_true hy h (by simpa using he), if_pos rfl] at hE
          subst hE
          repeat (first | refine gA pk ?_ | (show AL _ _ _ _ _ _ _; first | refine jX tok yk ?_ | refine s_strEqT rfl rfl rfl rfl rfl rfl (by first | rfl | assumption) ?_))
          refine finQ ?_
          exact ⟨rfl, rfl⟩
        · repeat (first | refine gA pk ?_ | (show AL _ _ _ _ _ _ _; first | refine jX tok yk ?_ | refine s_strEqF rfl rfl rfl rfl rfl rfl (by assumption) ?_))
          exact ⟨k + 1, ⟨by omega, take_all hy hq he⟩, by omega, by exact subQ, OSub.none _⟩
      · obtain rfl : k = i := by omega
        rw [any_take_false (fun x hx => by simpa using hq x hx), if_neg (by decide)] at hE
        subst hE
        repeat' (first | refine gA pk ?_ | (show AL _ _ _ _ _ _ _; first | (refine s_callB rfl rfl rfl rfl rfl (s3 _ _ _) (SubL.of_eq rfl) (fun hb => ?_) (fun hb => ?_) <;> (first | replace hb := of_decide_eq_true hb | replace hb := of_decide_eq_false hb | skip)) | (refine s_callB rfl rfl rfl rfl rfl (s4 _ _) (SubL.of_eq rfl) (fun hb => ?_) (fun hb => ?_) <;> (first | replace hb := of_decide_eq_true hb | replace hb := of_decide_eq_false hb | skip)) | (refine s_cmp rfl rfl rfl rfl rfl rfl rfl (fun hb => ?_) (fun hb => ?_) <;> simp only [cmpP] at hb)) | fail)
        all_goals refine finQ ?_
        all_goals first | exact ⟨if6_ok (by omega), rfl⟩ | exact ⟨if6_bad (by omega), rfl⟩
end Go.Proofs.YtimfponihbfimaaGreat
end
section
namespace Go.Proofs.YtimfponihbfimaaGreat
open Go.Sj Go.Sj.Typ
set_option maxRecDepth 8000
set_option maxHeartbeats 4000000
theorem Valid_spec (t : Tys) (ht : Small t) : Pure Tryz.prog 114 [tysA t] (.tup [AS (validR t).1, AI (validR t).2]) := by
  have hel := ht.edges
  have hnl := ht.nodes
  have le : (t.edges.map cEdg).length = t.edges.length := by simp
  have ln : (t.nodes.map cNod).length = t.nodes.length := by simp
  by_cases h0 : t.nodes.length = 0
  · rw [show validR t = (⟨#[]⟩, 7) by simp only [validR, if_pos h0]]
    refine zen Tryz.func114 (by kernel_rfl) rfl Tryz.ntmps114 rfl (by simp) ?_; refine a_seq ?_; refine a_reg ?_; (repeat (first | refine gZ pk ?_ | (show AL _ _ _ _ _ _ _; first | refine jB (fun u => ?_)))); refine zfb 0 1 rfl rfl ?_
    repeat (first | refine gA pk ?_)
    refine finQ ?_
    exact ⟨rfl, rfl⟩
  by_cases h1 : 12 < t.nodes.length ∨ 20 < t.edges.length
  · rw [show validR t = (⟨#[]⟩, 3) by simp only [validR, if_neg h0, if_pos h1]]
    refine zen Tryz.func114 (by kernel_rfl) rfl Tryz.ntmps114 rfl (by simp) ?_; refine a_seq ?_; refine a_reg ?_; (repeat (first | refine gZ pk ?_ | (show AL _ _ _ _ _ _ _; first | refine jB (fun u => ?_)))); refine zfb 0 1 rfl rfl ?_
    repeat' (first | refine gA pk ?_ | (show AL _ _ _ _ _ _ _; first | (refine s_cmp rfl rfl rfl rfl rfl rfl rfl (fun hb => ?_) (fun hb => ?_) <;> simp only [cmpP] at hb)) | fail)
    all_goals refine finQ ?_
    all_goals exact ⟨rfl, rfl⟩
  · refine zen Tryz.func114 (by kernel_rfl) rfl Tryz.ntmps114 rfl (by simp) ?_; refine a_seq ?_; refine a_reg ?_; (repeat (first | refine gZ pk ?_ | (show AL _ _ _ _ _ _ _; first | refine jB (fun u => ?_)))); refine zfb 0 1 rfl rfl ?_
    repeat (first | refine gA pk ?_)
    rw [ln]
    refine zlx (fun k : Nat => [(1, tysP t), (27, nodsA t.nodes), (28, AI t.nodes.length), (29, AI k)]) (fun _ => []) (fun k => k ≤ t.nodes.length ∧ ∀ j, j < k → nodeE t.nodes j = 0) (fun k => t.nodes.length - k) 0 ⟨Nat.zero_le _, fun j hj => by omega⟩ ?_ (OSub.none _) ?_
    · exact subQ
    · rintro k ⟨hk, hinv⟩
      rcases Nat.lt_or_ge k t.nodes.length with h | h
      · have s1 := node_spec t ht k h (pr_of hinv)
        have hx := List.getElem?_eq_getElem h
        generalize t.nodes[k] = n at hx
        have xk : (t.nodes.map cNod)[(k : Int).toNat]? = some (cNod n) := zmp hx
        by_cases hz : nodeE t.nodes k = 0
        · rw [hz] at s1
          repeat (first | refine gA pk ?_ | (show AL _ _ _ _ _ _ _; first | refine jL tok (fun u => ?_) | refine jS tok 0 ?_ | refine jX tok xk ?_ | refine jP s1 ?_))
          exact ⟨k + 1, ⟨by omega, below_succ hinv hz⟩, by omega, by exact subQ, OSub.none _⟩
        · rw [validR_node h0 h1 hinv hx hz]
          generalize nodeE t.nodes k = e at *
          repeat (first | refine gA pk ?_ | (show AL _ _ _ _ _ _ _; first | refine jL tok (fun u => ?_) | refine jS tok 0 ?_ | refine jX tok xk ?_ | refine jP s1 ?_ | refine jO tok 0 ?_))
          refine finQ ?_
          exact ⟨rfl, rfl⟩
      · obtain rfl : k = t.nodes.length := by omega
        repeat (first | refine gA pk ?_)
        rw [le]
        refine zlx (fun k : Nat => [(1, tysP t), (44, edgsA t.edges), (45, AI t.edges.length), (46, AI k)]) (fun _ => []) (fun k => k ≤ t.edges.length ∧ ∀ j, j < k → edgeE t j = 0) (fun k => t.edges.length - k) 0 ⟨Nat.zero_le _, fun j hj => by omega⟩ ?_ (OSub.none _) ?_
        · exact subQ
        · rintro k ⟨hk, hinv2⟩
          rcases Nat.lt_or_ge k t.edges.length with h | h
          · have s1 := edge_spec t ht k h
            have hx := List.getElem?_eq_getElem h
            generalize t.edges[k] = n at hx
            have xk : (t.edges.map cEdg)[(k : Int).toNat]? = some (cEdg n) := zmp hx
            by_cases hz : edgeE t k = 0
            · rw [hz] at s1
              repeat (first | refine gA pk ?_ | (show AL _ _ _ _ _ _ _; first | refine jL tok (fun u => ?_) | refine jS tok 0 ?_ | refine jX tok xk ?_ | refine jP s1 ?_))
              exact ⟨k + 1, ⟨by omega, below_succ hinv2 hz⟩, by omega, by exact subQ, OSub.none _⟩
            · rw [validR_edge h0 h1 hinv hinv2 hx hz]
              generalize edgeE t k = e at *
              repeat (first | refine gA pk ?_ | (show AL _ _ _ _ _ _ _; first | refine jL tok (fun u => ?_) | refine jS tok 0 ?_ | refine jX tok xk ?_ | refine jP s1 ?_ | refine jO tok 0 ?_))
              refine finQ ?_
              exact ⟨rfl, rfl⟩
          · obtain rfl : k = t.edges.length := by omega
            rw [validR_ok h0 h1 hinv hinv2]
            repeat (first | refine gA pk ?_)
            refine finQ ?_
            exact ⟨rfl, rfl⟩
theorem refValid_spec (t : Tys) (ht : Small t) : Pure Tryz.prog 47 [tysA t] (.tup [AS (validR t).1, AI (validR t).2]) := by
  have hel := ht.edges
  have hnl := ht.nodes
  have le : (t.edges.map cEdg).length = t.edges.length := by simp
  have ln : (t.nodes.map cNod).length = t.nodes.length := by simp
  by_cases h0 : t.nodes.length = 0
  · rw [show validR t = (⟨#[]⟩, 7) by simp only [validR, if_pos h0]]
    refine zen Tryz.func47 (by kernel_rfl) rfl Tryz.ntmps47 rfl (by simp) ?_; refine a_seq ?_; refine a_reg ?_; (repeat (first | refine gZ pk ?_ | (show AL _ _ _ _ _ _ _; first | refine jB (fun u => ?_)))); refine zfb 0 1 rfl rfl ?_
    repeat (first | refine gA pk ?_)
    refine finQ ?_
    exact ⟨rfl, rfl⟩
  by_cases h1 : 12 < t.nodes.length ∨ 20 < t.edges.length
  · rw [show validR t = (⟨#[]⟩, 3) by simp only [validR, if_neg h0, if_pos h1]]
    refine zen Tryz.func47 (by kernel_rfl) rfl Tryz.ntmps47 rfl (by simp) ?_; refine a_seq ?_; refine a_reg ?_; (repeat (first | refine gZ pk ?_ | (show AL _ _ _ _ _ _ _; first | refine jB (fun u => ?_)))); refine zfb 0 1 rfl rfl ?_
    repeat' (first | refine gA pk ?_ | (show AL _ _ _ _ _ _ _; first | (refine s_cmp rfl rfl rfl rfl rfl rfl rfl (fun hb => ?_) (fun hb => ?_) <;> simp only [cmpP] at hb)) | fail)
    all_goals refine finQ ?_
    all_goals exact ⟨rfl, rfl⟩
  · refine zen Tryz.func47 (by kernel_rfl) rfl Tryz.ntmps47 rfl (by simp) ?_; refine a_seq ?_; refine a_reg ?_; (repeat (first | refine gZ pk ?_ | (show AL _ _ _ _ _ _ _; first | refine jB (fun u => ?_)))); refine zfb 0 1 rfl rfl ?_
    repeat (first | refine gA pk ?_)
    refine zlx (fun k : Nat => [(1, tysP t), (4, AI k)]) (fun _ => []) (fun k => k ≤ t.nodes.length ∧ ∀ j, j < k → nodeE t.nodes j = 0) (fun k => t.nodes.length - k) 0 ⟨Nat.zero_le _, fun j hj => by omega⟩ ?_ (OSub.none _) ?_
    · exact subQ
    · rintro k ⟨hk, hinv⟩
      rcases Nat.lt_or_ge k t.nodes.length with h | h
      · have s1 := refNode_spec t ht k h (pr_of hinv)
        have hx := List.getElem?_eq_getElem h
        generalize t.nodes[k] = n at hx
        have xk : (t.nodes.map cNod)[(k : Int).toNat]? = some (cNod n) := zmp hx
        by_cases hz : nodeE t.nodes k = 0
        · rw [hz] at s1
          repeat (first | refine gA pk ?_ | (show AL _ _ _ _ _ _ _; first | refine jX tok xk ?_ | refine jP s1 ?_))
          exact ⟨k + 1, ⟨by omega, below_succ hinv hz⟩, by omega, by exact subQ, OSub.none _⟩
        · rw [validR_node h0 h1 hinv hx hz]
          generalize nodeE t.nodes k = e at *
          repeat (first | refine gA pk ?_ | (show AL _ _ _ _ _ _ _; first | refine jX tok xk ?_ | refine jP s1 ?_))
          refine finQ ?_
          exact ⟨rfl, rfl⟩
      · obtain rfl : k = t.nodes.length := by omega
        repeat (first | refine gA pk ?_)
        refine zlx (fun k : Nat => [(1, tysP t), (6, AI k)]) (fun _ => []) (fun k => k ≤ t.edges.length ∧ ∀ j, j < k → edgeE t j = 0) (fun k => t.edges.length - k) 0 ⟨Nat.zero_le _, fun j hj => by omega⟩ ?_ (OSub.none _) ?_
        · exact subQ
        · rintro k ⟨hk, hinv2⟩
          rcases Nat.lt_or_ge k t.edges.length with h | h
          · have s1 := refEdge_spec t ht k h
            have hx := List.getElem?_eq_getElem h
            generalize t.edges[k] = n at hx
            have xk : (t.edges.map cEdg)[(k : Int).toNat]? = some (cEdg n) := zmp hx
            by_cases hz : edgeE t k = 0
            · rw [hz] at s1
              repeat (first | refine gA pk ?_ | (show AL _ _ _ _ _ _ _; first | refine jX tok xk ?_ | refine jP s1 ?_))
              exact ⟨k + 1, ⟨by omega, below_succ hinv2 hz⟩, by omega, by exact subQ, OSub.none _⟩
            · rw [validR_edge h0 h1 hinv hinv2 hx hz]
              generalize edgeE t k = e at *
              repeat (first | refine gA pk ?_ | (show AL _ _ _ _ _ _ _; first | refine jX tok xk ?_ | refine jP s1 ?_))
              refine finQ ?_
              exact ⟨rfl, rfl⟩
          · obtain rfl : k = t.edges.length := by omega
            rw [validR_ok h0 h1 hinv hinv2]
            repeat (first | refine gA pk ?_)
            refine finQ ?_
            exact ⟨rfl, rfl⟩
end Go.Proofs.YtimfponihbfimaaGreat
end
