/-
  Valid, by the program and by the reference: the walks.
-/
import Derived.Test.YtcacbdohlfljfaaGreatSjQ8
import Derived.Test.YtcacbdohlfljfaaGreatY13
namespace Go.Proofs.YtcacbdohlfljfaaGreat
open Go.Sj Go.Sj.Typ
set_option linter.unusedVariables false
set_option maxHeartbeats 4000000

theorem Valid_spec (t : Tys) (ht : Small t) : Pure Tryz.prog 40 [tysA t] (.tup [AS (validR t).1, AI (validR t).2]) := by
  have hel := ht.edges
  have hnl := ht.nodes
  have le : (t.edges.map cEdg).length = t.edges.length := by simp
  have ln : (t.nodes.map cNod).length = t.nodes.length := by simp
  by_cases h0 : t.nodes.length = 0
  · rw [show validR t = (⟨#[]⟩, 7) by simp only [validR, if_pos h0]]
    refine a_enter Tryz.func40 (by kernel_rfl) rfl Tryz.ntmps40 rfl (by simp) ?_; refine a_seq ?_; refine a_reg ?_; (repeat (first | refine a_seq ?_ | refine tL tok ?_ | refine tI tok ?_ | refine tP tok ?_ | refine tQ tok ?_ | refine tA tok ?_ | refine tU tok ?_ | refine tF tok ?_ | refine AL.nil ?_ | refine s_skip rfl rfl rfl ?_ | refine cT rfl rfl rfl rfl rfl rfl rfl ?_ | refine cF rfl rfl rfl rfl rfl rfl rfl ?_ | refine cA rfl rfl rfl rfl rfl rfl rfl ?_ | refine s_box rfl rfl rfl rfl rfl rfl (fun u => ?_) | refine a_condT rfl ?_ | refine a_condF rfl ?_ | refine a_skip ?_ | refine a_exit ?_ | refine a_ret ?_ | refine a_block ?_)); refine a_frzBox 0 1 rfl rfl ?_
    repeat (first | refine a_seq ?_ | refine a_reg ?_ | refine a_regP mixed (by decide +kernel) ?_ | refine tL tok ?_ | refine tI tok ?_ | refine tP tok ?_ | refine tQ tok ?_ | refine tA tok ?_ | refine tU tok ?_ | refine tF tok ?_ | refine AL.nil ?_ | refine s_skip rfl rfl rfl ?_ | refine cT rfl rfl rfl rfl rfl rfl rfl ?_ | refine cF rfl rfl rfl rfl rfl rfl rfl ?_ | refine cA rfl rfl rfl rfl rfl rfl rfl ?_ | refine a_condT rfl ?_ | refine a_condF rfl ?_ | refine a_skip ?_ | refine a_exit ?_ | refine a_ret ?_ | refine a_block ?_)
    first | refine zL rfl ?_ | refine zI rfl ?_ | refine zT rfl ?_ | refine zU rfl ?_ | refine zV rfl ?_ | refine zA rfl ?_
    exact ⟨rfl, rfl⟩
  by_cases h1 : 12 < t.nodes.length ∨ 20 < t.edges.length
  · rw [show validR t = (⟨#[]⟩, 3) by simp only [validR, if_neg h0, if_pos h1]]
    refine a_enter Tryz.func40 (by kernel_rfl) rfl Tryz.ntmps40 rfl (by simp) ?_; refine a_seq ?_; refine a_reg ?_; (repeat (first | refine a_seq ?_ | refine tL tok ?_ | refine tI tok ?_ | refine tP tok ?_ | refine tQ tok ?_ | refine tA tok ?_ | refine tU tok ?_ | refine tF tok ?_ | refine AL.nil ?_ | refine s_skip rfl rfl rfl ?_ | refine cT rfl rfl rfl rfl rfl rfl rfl ?_ | refine cF rfl rfl rfl rfl rfl rfl rfl ?_ | refine cA rfl rfl rfl rfl rfl rfl rfl ?_ | refine s_box rfl rfl rfl rfl rfl rfl (fun u => ?_) | refine a_condT rfl ?_ | refine a_condF rfl ?_ | refine a_skip ?_ | refine a_exit ?_ | refine a_ret ?_ | refine a_block ?_)); refine a_frzBox 0 1 rfl rfl ?_
    repeat' (first | refine a_seq ?_ | refine a_reg ?_ | refine a_regP mixed (by decide +kernel) ?_ | refine tL tok ?_ | refine tI tok ?_ | refine tP tok ?_ | refine tQ tok ?_ | refine tA tok ?_ | refine tU tok ?_ | refine tF tok ?_ | refine AL.nil ?_ | refine s_skip rfl rfl rfl ?_ | refine cT rfl rfl rfl rfl rfl rfl rfl ?_ | refine cF rfl rfl rfl rfl rfl rfl rfl ?_ | refine cA rfl rfl rfl rfl rfl rfl rfl ?_ | (refine s_cmp rfl rfl rfl rfl rfl rfl rfl (fun hb => ?_) (fun hb => ?_) <;> simp only [cmpP] at hb) | refine a_condT rfl ?_ | refine a_condF rfl ?_ | refine a_skip ?_ | refine a_exit ?_ | refine a_ret ?_ | refine a_block ?_)
    all_goals first | refine zL rfl ?_ | refine zI rfl ?_ | refine zT rfl ?_ | refine zU rfl ?_ | refine zV rfl ?_ | refine zA rfl ?_
    all_goals exact ⟨rfl, rfl⟩
  · refine a_enter Tryz.func40 (by kernel_rfl) rfl Tryz.ntmps40 rfl (by simp) ?_; refine a_seq ?_; refine a_reg ?_; (repeat (first | refine a_seq ?_ | refine tL tok ?_ | refine tI tok ?_ | refine tP tok ?_ | refine tQ tok ?_ | refine tA tok ?_ | refine tU tok ?_ | refine tF tok ?_ | refine AL.nil ?_ | refine s_skip rfl rfl rfl ?_ | refine cT rfl rfl rfl rfl rfl rfl rfl ?_ | refine cF rfl rfl rfl rfl rfl rfl rfl ?_ | refine cA rfl rfl rfl rfl rfl rfl rfl ?_ | refine s_box rfl rfl rfl rfl rfl rfl (fun u => ?_) | refine a_condT rfl ?_ | refine a_condF rfl ?_ | refine a_skip ?_ | refine a_exit ?_ | refine a_ret ?_ | refine a_block ?_)); refine a_frzBox 0 1 rfl rfl ?_
    repeat (first | refine a_seq ?_ | refine a_reg ?_ | refine a_regP mixed (by decide +kernel) ?_ | refine tL tok ?_ | refine tI tok ?_ | refine tP tok ?_ | refine tQ tok ?_ | refine tA tok ?_ | refine tU tok ?_ | refine tF tok ?_ | refine AL.nil ?_ | refine s_skip rfl rfl rfl ?_ | refine cT rfl rfl rfl rfl rfl rfl rfl ?_ | refine cF rfl rfl rfl rfl rfl rfl rfl ?_ | refine cA rfl rfl rfl rfl rfl rfl rfl ?_ | refine a_condT rfl ?_ | refine a_condF rfl ?_ | refine a_skip ?_ | refine a_exit ?_ | refine a_ret ?_ | refine a_block ?_)
    rw [ln]
    refine a_loopX (fun k : Nat => [(1, tysP t), (27, nodsA t.nodes), (28, AI t.nodes.length), (29, AI k)]) (fun _ => []) (fun k => k ≤ t.nodes.length ∧ ∀ j, j < k → nodeE t.nodes j = 0) (fun k => t.nodes.length - k) 0 ⟨Nat.zero_le _, fun j hj => by omega⟩ ?_ (OSub.none _) ?_
    · repeat (first | exact subs_nil | refine subs_cons (Sub.of_eq rfl) ?_ | refine subs_cons (Sub.nil _) ?_)
    · rintro k ⟨hk, hinv⟩
      rcases Nat.lt_or_ge k t.nodes.length with h | h
      · have s1 := node_spec t ht k h (pr_of hinv)
        have hx := List.getElem?_eq_getElem h
        generalize t.nodes[k] = n at hx
        have xk : (t.nodes.map cNod)[(k : Int).toNat]? = some (cNod n) := map_get hx
        by_cases hz : nodeE t.nodes k = 0
        · rw [hz] at s1
          repeat (first | refine a_seq ?_ | refine a_reg ?_ | refine a_regP mixed (by decide +kernel) ?_ | refine tL tok ?_ | refine tI tok ?_ | refine tP tok ?_ | refine tQ tok ?_ | refine tA tok ?_ | refine tU tok ?_ | refine tF tok ?_ | refine AL.nil ?_ | refine s_skip rfl rfl rfl ?_ | refine cT rfl rfl rfl rfl rfl rfl rfl ?_ | refine cF rfl rfl rfl rfl rfl rfl rfl ?_ | refine cA rfl rfl rfl rfl rfl rfl rfl ?_ | refine s_alloc tok rfl rfl rfl rfl rfl (fun u => ?_) | refine s_store tok 0 rfl rfl rfl rfl rfl rfl rfl rfl (by decide) rfl rfl rfl (Nat.le_refl _) ?_ | refine s_index tok rfl rfl rfl rfl rfl rfl rfl rfl rfl (by omega) xk ?_ | refine s_callP rfl rfl rfl rfl rfl (s1) (SubL.of_eq rfl) ?_ | refine a_condT rfl ?_ | refine a_condF rfl ?_ | refine a_skip ?_ | refine a_exit ?_ | refine a_ret ?_ | refine a_block ?_)
          exact ⟨k + 1, ⟨by omega, below_succ hinv hz⟩, by omega, by repeat (first | exact subs_nil | refine subs_cons (Sub.of_eq rfl) ?_ | refine subs_cons (Sub.nil _) ?_), OSub.none _⟩
        · rw [validR_node h0 h1 hinv hx hz]
          generalize nodeE t.nodes k = e at *
          repeat (first | refine a_seq ?_ | refine a_reg ?_ | refine a_regP mixed (by decide +kernel) ?_ | refine tL tok ?_ | refine tI tok ?_ | refine tP tok ?_ | refine tQ tok ?_ | refine tA tok ?_ | refine tU tok ?_ | refine tF tok ?_ | refine AL.nil ?_ | refine s_skip rfl rfl rfl ?_ | refine cT rfl rfl rfl rfl rfl rfl rfl ?_ | refine cF rfl rfl rfl rfl rfl rfl rfl ?_ | refine cA rfl rfl rfl rfl rfl rfl rfl ?_ | refine s_alloc tok rfl rfl rfl rfl rfl (fun u => ?_) | refine s_store tok 0 rfl rfl rfl rfl rfl rfl rfl rfl (by decide) rfl rfl rfl (Nat.le_refl _) ?_ | refine s_index tok rfl rfl rfl rfl rfl rfl rfl rfl rfl (by omega) xk ?_ | refine s_callP rfl rfl rfl rfl rfl (s1) (SubL.of_eq rfl) ?_ | refine s_ownLoad tok 0 rfl rfl rfl rfl (by decide) rfl rfl rfl rfl rfl rfl (List.cons_ne_nil _ _) ?_ | refine a_condT rfl ?_ | refine a_condF rfl ?_ | refine a_skip ?_ | refine a_exit ?_ | refine a_ret ?_ | refine a_block ?_)
          first | refine zL rfl ?_ | refine zI rfl ?_ | refine zT rfl ?_ | refine zU rfl ?_ | refine zV rfl ?_ | refine zA rfl ?_
          exact ⟨rfl, rfl⟩
      · obtain rfl : k = t.nodes.length := by omega
        repeat (first | refine a_seq ?_ | refine a_reg ?_ | refine a_regP mixed (by decide +kernel) ?_ | refine tL tok ?_ | refine tI tok ?_ | refine tP tok ?_ | refine tQ tok ?_ | refine tA tok ?_ | refine tU tok ?_ | refine tF tok ?_ | refine AL.nil ?_ | refine s_skip rfl rfl rfl ?_ | refine cT rfl rfl rfl rfl rfl rfl rfl ?_ | refine cF rfl rfl rfl rfl rfl rfl rfl ?_ | refine cA rfl rfl rfl rfl rfl rfl rfl ?_ | refine a_condT rfl ?_ | refine a_condF rfl ?_ | refine a_skip ?_ | refine a_exit ?_ | refine a_ret ?_ | refine a_block ?_)
        rw [le]
        refine a_loopX (fun k : Nat => [(1, tysP t), (44, edgsA t.edges), (45, AI t.edges.length), (46, AI k)]) (fun _ => []) (fun k => k ≤ t.edges.length ∧ ∀ j, j < k → edgeE t j = 0) (fun k => t.edges.length - k) 0 ⟨Nat.zero_le _, fun j hj => by omega⟩ ?_ (OSub.none _) ?_
        · repeat (first | exact subs_nil | refine subs_cons (Sub.of_eq rfl) ?_ | refine subs_cons (Sub.nil _) ?_)
        · rintro k ⟨hk, hinv2⟩
          rcases Nat.lt_or_ge k t.edges.length with h | h
          · have s1 := edge_spec t ht k h
            have hx := List.getElem?_eq_getElem h
            generalize t.edges[k] = n at hx
            have xk : (t.edges.map cEdg)[(k : Int).toNat]? = some (cEdg n) := map_get hx
            by_cases hz : edgeE t k = 0
            · rw [hz] at s1
              repeat (first | refine a_seq ?_ | refine a_reg ?_ | refine a_regP mixed (by decide +kernel) ?_ | refine tL tok ?_ | refine tI tok ?_ | refine tP tok ?_ | refine tQ tok ?_ | refine tA tok ?_ | refine tU tok ?_ | refine tF tok ?_ | refine AL.nil ?_ | refine s_skip rfl rfl rfl ?_ | refine cT rfl rfl rfl rfl rfl rfl rfl ?_ | refine cF rfl rfl rfl rfl rfl rfl rfl ?_ | refine cA rfl rfl rfl rfl rfl rfl rfl ?_ | refine s_alloc tok rfl rfl rfl rfl rfl (fun u => ?_) | refine s_store tok 0 rfl rfl rfl rfl rfl rfl rfl rfl (by decide) rfl rfl rfl (Nat.le_refl _) ?_ | refine s_index tok rfl rfl rfl rfl rfl rfl rfl rfl rfl (by omega) xk ?_ | refine s_callP rfl rfl rfl rfl rfl (s1) (SubL.of_eq rfl) ?_ | refine a_condT rfl ?_ | refine a_condF rfl ?_ | refine a_skip ?_ | refine a_exit ?_ | refine a_ret ?_ | refine a_block ?_)
              exact ⟨k + 1, ⟨by omega, below_succ hinv2 hz⟩, by omega, by repeat (first | exact subs_nil | refine subs_cons (Sub.of_eq rfl) ?_ | refine subs_cons (Sub.nil _) ?_), OSub.none _⟩
            · rw [validR_edge h0 h1 hinv hinv2 hx hz]
              generalize edgeE t k = e at *
              repeat (first | refine a_seq ?_ | refine a_reg ?_ | refine a_regP mixed (by decide +kernel) ?_ | refine tL tok ?_ | refine tI tok ?_ | refine tP tok ?_ | refine tQ tok ?_ | refine tA tok ?_ | refine tU tok ?_ | refine tF tok ?_ | refine AL.nil ?_ | refine s_skip rfl rfl rfl ?_ | refine cT rfl rfl rfl rfl rfl rfl rfl ?_ | refine cF rfl rfl rfl rfl rfl rfl rfl ?_ | refine cA rfl rfl rfl rfl rfl rfl rfl ?_ | refine s_alloc tok rfl rfl rfl rfl rfl (fun u => ?_) | refine s_store tok 0 rfl rfl rfl rfl rfl rfl rfl rfl (by decide) rfl rfl rfl (Nat.le_refl _) ?_ | refine s_index tok rfl rfl rfl rfl rfl rfl rfl rfl rfl (by omega) xk ?_ | refine s_callP rfl rfl rfl rfl rfl (s1) (SubL.of_eq rfl) ?_ | refine s_ownLoad tok 0 rfl rfl rfl rfl (by decide) rfl rfl rfl rfl rfl rfl (List.cons_ne_nil _ _) ?_ | refine a_condT rfl ?_ | refine a_condF rfl ?_ | refine a_skip ?_ | refine a_exit ?_ | refine a_ret ?_ | refine a_block ?_)
              first | refine zL rfl ?_ | refine zI rfl ?_ | refine zT rfl ?_ | refine zU rfl ?_ | refine zV rfl ?_ | refine zA rfl ?_
              exact ⟨rfl, rfl⟩
          · obtain rfl : k = t.edges.length := by omega
            rw [validR_ok h0 h1 hinv hinv2]
            repeat (first | refine a_seq ?_ | refine a_reg ?_ | refine a_regP mixed (by decide +kernel) ?_ | refine tL tok ?_ | refine tI tok ?_ | refine tP tok ?_ | refine tQ tok ?_ | refine tA tok ?_ | refine tU tok ?_ | refine tF tok ?_ | refine AL.nil ?_ | refine s_skip rfl rfl rfl ?_ | refine cT rfl rfl rfl rfl rfl rfl rfl ?_ | refine cF rfl rfl rfl rfl rfl rfl rfl ?_ | refine cA rfl rfl rfl rfl rfl rfl rfl ?_ | refine a_condT rfl ?_ | refine a_condF rfl ?_ | refine a_skip ?_ | refine a_exit ?_ | refine a_ret ?_ | refine a_block ?_)
            first | refine zL rfl ?_ | refine zI rfl ?_ | refine zT rfl ?_ | refine zU rfl ?_ | refine zV rfl ?_ | refine zA rfl ?_
            exact ⟨rfl, rfl⟩
theorem refValid_spec (t : Tys) (ht : Small t) : Pure Tryz.prog 49 [tysA t] (.tup [AS (validR t).1, AI (validR t).2]) := by
  have hel := ht.edges
  have hnl := ht.nodes
  have le : (t.edges.map cEdg).length = t.edges.length := by simp
  have ln : (t.nodes.map cNod).length = t.nodes.length := by simp
  by_cases h0 : t.nodes.length = 0
  · rw [show validR t = (⟨#[]⟩, 7) by simp only [validR, if_pos h0]]
    refine a_enter Tryz.func49 (by kernel_rfl) rfl Tryz.ntmps49 rfl (by simp) ?_; refine a_seq ?_; refine a_reg ?_; (repeat (first | refine a_seq ?_ | refine tL tok ?_ | refine tI tok ?_ | refine tP tok ?_ | refine tQ tok ?_ | refine tA tok ?_ | refine tU tok ?_ | refine tF tok ?_ | refine AL.nil ?_ | refine s_skip rfl rfl rfl ?_ | refine cT rfl rfl rfl rfl rfl rfl rfl ?_ | refine cF rfl rfl rfl rfl rfl rfl rfl ?_ | refine cA rfl rfl rfl rfl rfl rfl rfl ?_ | refine s_box rfl rfl rfl rfl rfl rfl (fun u => ?_) | refine a_condT rfl ?_ | refine a_condF rfl ?_ | refine a_skip ?_ | refine a_exit ?_ | refine a_ret ?_ | refine a_block ?_)); refine a_frzBox 0 1 rfl rfl ?_
    repeat (first | refine a_seq ?_ | refine a_reg ?_ | refine a_regP mixed (by decide +kernel) ?_ | refine tL tok ?_ | refine tI tok ?_ | refine tP tok ?_ | refine tQ tok ?_ | refine tA tok ?_ | refine tU tok ?_ | refine tF tok ?_ | refine AL.nil ?_ | refine s_skip rfl rfl rfl ?_ | refine cT rfl rfl rfl rfl rfl rfl rfl ?_ | refine cF rfl rfl rfl rfl rfl rfl rfl ?_ | refine cA rfl rfl rfl rfl rfl rfl rfl ?_ | refine a_condT rfl ?_ | refine a_condF rfl ?_ | refine a_skip ?_ | refine a_exit ?_ | refine a_ret ?_ | refine a_block ?_)
    first | refine zL rfl ?_ | refine zI rfl ?_ | refine zT rfl ?_ | refine zU rfl ?_ | refine zV rfl ?_ | refine zA rfl ?_
    exact ⟨rfl, rfl⟩
  by_cases h1 : 12 < t.nodes.length ∨ 20 < t.edges.length
  · rw [show validR t = (⟨#[]⟩, 3) by simp only [validR, if_neg h0, if_pos h1]]
    refine a_enter Tryz.func49 (by kernel_rfl) rfl Tryz.ntmps49 rfl (by simp) ?_; refine a_seq ?_; refine a_reg ?_; (repeat (first | refine a_seq ?_ | refine tL tok ?_ | refine tI tok ?_ | refine tP tok ?_ | refine tQ tok ?_ | refine tA tok ?_ | refine tU tok ?_ | refine tF tok ?_ | refine AL.nil ?_ | refine s_skip rfl rfl rfl ?_ | refine cT rfl rfl rfl rfl rfl rfl rfl ?_ | refine cF rfl rfl rfl rfl rfl rfl rfl ?_ | refine cA rfl rfl rfl rfl rfl rfl rfl ?_ | refine s_box rfl rfl rfl rfl rfl rfl (fun u => ?_) | refine a_condT rfl ?_ | refine a_condF rfl ?_ | refine a_skip ?_ | refine a_exit ?_ | refine a_ret ?_ | refine a_block ?_)); refine a_frzBox 0 1 rfl rfl ?_
    repeat' (first | refine a_seq ?_ | refine a_reg ?_ | refine a_regP mixed (by decide +kernel) ?_ | refine tL tok ?_ | refine tI tok ?_ | refine tP tok ?_ | refine tQ tok ?_ | refine tA tok ?_ | refine tU tok ?_ | refine tF tok ?_ | refine AL.nil ?_ | refine s_skip rfl rfl rfl ?_ | refine cT rfl rfl rfl rfl rfl rfl rfl ?_ | refine cF rfl rfl rfl rfl rfl rfl rfl ?_ | refine cA rfl rfl rfl rfl rfl rfl rfl ?_ | (refine s_cmp rfl rfl rfl rfl rfl rfl rfl (fun hb => ?_) (fun hb => ?_) <;> simp only [cmpP] at hb) | refine a_condT rfl ?_ | refine a_condF rfl ?_ | refine a_skip ?_ | refine a_exit ?_ | refine a_ret ?_ | refine a_block ?_)
    all_goals first | refine zL rfl ?_ | refine zI rfl ?_ | refine zT rfl ?_ | refine zU rfl ?_ | refine zV rfl ?_ | refine zA rfl ?_
    all_goals exact ⟨rfl, rfl⟩
  · refine a_enter Tryz.func49 (by kernel_rfl) rfl Tryz.ntmps49 rfl (by simp) ?_; refine a_seq ?_; refine a_reg ?_; (repeat (first | refine a_seq ?_ | refine tL tok ?_ | refine tI tok ?_ | refine tP tok ?_ | refine tQ tok ?_ | refine tA tok ?_ | refine tU tok ?_ | refine tF tok ?_ | refine AL.nil ?_ | refine s_skip rfl rfl rfl ?_ | refine cT rfl rfl rfl rfl rfl rfl rfl ?_ | refine cF rfl rfl rfl rfl rfl rfl rfl ?_ | refine cA rfl rfl rfl rfl rfl rfl rfl ?_ | refine s_box rfl rfl rfl rfl rfl rfl (fun u => ?_) | refine a_condT rfl ?_ | refine a_condF rfl ?_ | refine a_skip ?_ | refine a_exit ?_ | refine a_ret ?_ | refine a_block ?_)); refine a_frzBox 0 1 rfl rfl ?_
    repeat (first | refine a_seq ?_ | refine a_reg ?_ | refine a_regP mixed (by decide +kernel) ?_ | refine tL tok ?_ | refine tI tok ?_ | refine tP tok ?_ | refine tQ tok ?_ | refine tA tok ?_ | refine tU tok ?_ | refine tF tok ?_ | refine AL.nil ?_ | refine s_skip rfl rfl rfl ?_ | refine cT rfl rfl rfl rfl rfl rfl rfl ?_ | refine cF rfl rfl rfl rfl rfl rfl rfl ?_ | refine cA rfl rfl rfl rfl rfl rfl rfl ?_ | refine a_condT rfl ?_ | refine a_condF rfl ?_ | refine a_skip ?_ | refine a_exit ?_ | refine a_ret ?_ | refine a_block ?_)
    refine a_loopX (fun k : Nat => [(1, tysP t), (4, AI k)]) (fun _ => []) (fun k => k ≤ t.nodes.length ∧ ∀ j, j < k → nodeE t.nodes j = 0) (fun k => t.nodes.length - k) 0 ⟨Nat.zero_le _, fun j hj => by omega⟩ ?_ (OSub.none _) ?_
    · repeat (first | exact subs_nil | refine subs_cons (Sub.of_eq rfl) ?_ | refine subs_cons (Sub.nil _) ?_)
    · rintro k ⟨hk, hinv⟩
      rcases Nat.lt_or_ge k t.nodes.length with h | h
      · have s1 := refNode_spec t ht k h (pr_of hinv)
        have hx := List.getElem?_eq_getElem h
        generalize t.nodes[k] = n at hx
        have xk : (t.nodes.map cNod)[(k : Int).toNat]? = some (cNod n) := map_get hx
        by_cases hz : nodeE t.nodes k = 0
        · rw [hz] at s1
          repeat (first | refine a_seq ?_ | refine a_reg ?_ | refine a_regP mixed (by decide +kernel) ?_ | refine tL tok ?_ | refine tI tok ?_ | refine tP tok ?_ | refine tQ tok ?_ | refine tA tok ?_ | refine tU tok ?_ | refine tF tok ?_ | refine AL.nil ?_ | refine s_skip rfl rfl rfl ?_ | refine cT rfl rfl rfl rfl rfl rfl rfl ?_ | refine cF rfl rfl rfl rfl rfl rfl rfl ?_ | refine cA rfl rfl rfl rfl rfl rfl rfl ?_ | refine s_index tok rfl rfl rfl rfl rfl rfl rfl rfl rfl (by omega) xk ?_ | refine s_callP rfl rfl rfl rfl rfl (s1) (SubL.of_eq rfl) ?_ | refine a_condT rfl ?_ | refine a_condF rfl ?_ | refine a_skip ?_ | refine a_exit ?_ | refine a_ret ?_ | refine a_block ?_)
          exact ⟨k + 1, ⟨by omega, below_succ hinv hz⟩, by omega, by repeat (first | exact subs_nil | refine subs_cons (Sub.of_eq rfl) ?_ | refine subs_cons (Sub.nil _) ?_), OSub.none _⟩
        · rw [validR_node h0 h1 hinv hx hz]
          generalize nodeE t.nodes k = e at *
          repeat (first | refine a_seq ?_ | refine a_reg ?_ | refine a_regP mixed (by decide +kernel) ?_ | refine tL tok ?_ | refine tI tok ?_ | refine tP tok ?_ | refine tQ tok ?_ | refine tA tok ?_ | refine tU tok ?_ | refine tF tok ?_ | refine AL.nil ?_ | refine s_skip rfl rfl rfl ?_ | refine cT rfl rfl rfl rfl rfl rfl rfl ?_ | refine cF rfl rfl rfl rfl rfl rfl rfl ?_ | refine cA rfl rfl rfl rfl rfl rfl rfl ?_ | refine s_index tok rfl rfl rfl rfl rfl rfl rfl rfl rfl (by omega) xk ?_ | refine s_callP rfl rfl rfl rfl rfl (s1) (SubL.of_eq rfl) ?_ | refine a_condT rfl ?_ | refine a_condF rfl ?_ | refine a_skip ?_ | refine a_exit ?_ | refine a_ret ?_ | refine a_block ?_)
          first | refine zL rfl ?_ | refine zI rfl ?_ | refine zT rfl ?_ | refine zU rfl ?_ | refine zV rfl ?_ | refine zA rfl ?_
          exact ⟨rfl, rfl⟩
      · obtain rfl : k = t.nodes.length := by omega
        repeat (first | refine a_seq ?_ | refine a_reg ?_ | refine a_regP mixed (by decide +kernel) ?_ | refine tL tok ?_ | refine tI tok ?_ | refine tP tok ?_ | refine tQ tok ?_ | refine tA tok ?_ | refine tU tok ?_ | refine tF tok ?_ | refine AL.nil ?_ | refine s_skip rfl rfl rfl ?_ | refine cT rfl rfl rfl rfl rfl rfl rfl ?_ | refine cF rfl rfl rfl rfl rfl rfl rfl ?_ | refine cA rfl rfl rfl rfl rfl rfl rfl ?_ | refine a_condT rfl ?_ | refine a_condF rfl ?_ | refine a_skip ?_ | refine a_exit ?_ | refine a_ret ?_ | refine a_block ?_)
        refine a_loopX (fun k : Nat => [(1, tysP t), (6, AI k)]) (fun _ => []) (fun k => k ≤ t.edges.length ∧ ∀ j, j < k → edgeE t j = 0) (fun k => t.edges.length - k) 0 ⟨Nat.zero_le _, fun j hj => by omega⟩ ?_ (OSub.none _) ?_
        · repeat (first | exact subs_nil | refine subs_cons (Sub.of_eq rfl) ?_ | refine subs_cons (Sub.nil _) ?_)
        · rintro k ⟨hk, hinv2⟩
          rcases Nat.lt_or_ge k t.edges.length with h | h
          · have s1 := refEdge_spec t ht k h
            have hx := List.getElem?_eq_getElem h
            generalize t.edges[k] = n at hx
            have xk : (t.edges.map cEdg)[(k : Int).toNat]? = some (cEdg n) := map_get hx
            by_cases hz : edgeE t k = 0
            · rw [hz] at s1
              repeat (first | refine a_seq ?_ | refine a_reg ?_ | refine a_regP mixed (by decide +kernel) ?_ | refine tL tok ?_ | refine tI tok ?_ | refine tP tok ?_ | refine tQ tok ?_ | refine tA tok ?_ | refine tU tok ?_ | refine tF tok ?_ | refine AL.nil ?_ | refine s_skip rfl rfl rfl ?_ | refine cT rfl rfl rfl rfl rfl rfl rfl ?_ | refine cF rfl rfl rfl rfl rfl rfl rfl ?_ | refine cA rfl rfl rfl rfl rfl rfl rfl ?_ | refine s_index tok rfl rfl rfl rfl rfl rfl rfl rfl rfl (by omega) xk ?_ | refine s_callP rfl rfl rfl rfl rfl (s1) (SubL.of_eq rfl) ?_ | refine a_condT rfl ?_ | refine a_condF rfl ?_ | refine a_skip ?_ | refine a_exit ?_ | refine a_ret ?_ | refine a_block ?_)
              exact ⟨k + 1, ⟨by omega, below_succ hinv2 hz⟩, by omega, by repeat (first | exact subs_nil | refine subs_cons (Sub.of_eq rfl) ?_ | refine subs_cons (Sub.nil _) ?_), OSub.none _⟩
            · rw [validR_edge h0 h1 hinv hinv2 hx hz]
              generalize edgeE t k = e at *
              repeat (first | refine a_seq ?_ | refine a_reg ?_ | refine a_regP mixed (by decide +kernel) ?_ | refine tL tok ?_ | refine tI tok ?_ | refine tP tok ?_ | refine tQ tok ?_ | refine tA tok ?_ | refine tU tok ?_ | refine tF tok ?_ | refine AL.nil ?_ | refine s_skip rfl rfl rfl ?_ | refine cT rfl rfl rfl rfl rfl rfl rfl ?_ | refine cF rfl rfl rfl rfl rfl rfl rfl ?_ | refine cA rfl rfl rfl rfl rfl rfl rfl ?_ | refine s_index tok rfl rfl rfl rfl rfl rfl rfl rfl rfl (by omega) xk ?_ | refine s_callP rfl rfl rfl rfl rfl (s1) (SubL.of_eq rfl) ?_ | refine a_condT rfl ?_ | refine a_condF rfl ?_ | refine a_skip ?_ | refine a_exit ?_ | refine a_ret ?_ | refine a_block ?_)
              first | refine zL rfl ?_ | refine zI rfl ?_ | refine zT rfl ?_ | refine zU rfl ?_ | refine zV rfl ?_ | refine zA rfl ?_
              exact ⟨rfl, rfl⟩
          · obtain rfl : k = t.edges.length := by omega
            rw [validR_ok h0 h1 hinv hinv2]
            repeat (first | refine a_seq ?_ | refine a_reg ?_ | refine a_regP mixed (by decide +kernel) ?_ | refine tL tok ?_ | refine tI tok ?_ | refine tP tok ?_ | refine tQ tok ?_ | refine tA tok ?_ | refine tU tok ?_ | refine tF tok ?_ | refine AL.nil ?_ | refine s_skip rfl rfl rfl ?_ | refine cT rfl rfl rfl rfl rfl rfl rfl ?_ | refine cF rfl rfl rfl rfl rfl rfl rfl ?_ | refine cA rfl rfl rfl rfl rfl rfl rfl ?_ | refine a_condT rfl ?_ | refine a_condF rfl ?_ | refine a_skip ?_ | refine a_exit ?_ | refine a_ret ?_ | refine a_block ?_)
            first | refine zL rfl ?_ | refine zI rfl ?_ | refine zT rfl ?_ | refine zU rfl ?_ | refine zV rfl ?_ | refine zA rfl ?_
            exact ⟨rfl, rfl⟩
end Go.Proofs.YtcacbdohlfljfaaGreat
