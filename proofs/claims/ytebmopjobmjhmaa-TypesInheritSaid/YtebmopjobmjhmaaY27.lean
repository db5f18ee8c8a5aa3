/-
  The law on what subtypes inherit: the walk.
-/
import Derived.Test.YtebmopjobmjhmaaY25
import Derived.Test.YtebmopjobmjhmaaY22
namespace Go.Proofs.Ytebmopjobmjhmaa
open Go.Sj Go.Sj.Typ
set_option linter.unusedVariables false
set_option maxHeartbeats 16000000

theorem TypesInherit_spec (nodes : List (Int × Int)) (hn : Cd nodes ∧ nodes.length ≤ 140737488355328) (edges : List (Int × Int)) (he : Cd edges ∧ edges.length ≤ 140737488355328) (x : List Int) (hx : Okn 5 x) : Pure Try.prog 10 [.im 2 (nodes.map c82), .im 2 (edges.map c82), .agg (x.map fun m => .lit (.int .u8 m))] (AB true) := by
  obtain ⟨x0, x1, x2, x3, x4, rfl, o0, o1, o2, o3, o4⟩ := okn5 hx
  have s1 := Made_spec nodes edges hn.1 he.1 hn.2 he.2
  have hm := madeNum_rng nodes
  have ln : ((madeT nodes edges).nodes.map cNod).length = madeNum nodes := by rw [List.length_map, made_nodes]
  have le : ((madeT nodes edges).edges.map cEdg).length = (madeT nodes edges).edges.length := List.length_map _
  have ht := made_small nodes edges
  have hte := ht.edges
  have ra := mod_rng (x := x0) hm.1
  have rb := mod_rng (x := x1) hm.1
  have rc := mod_rng (x := x2) hm.1
  have rd := mod_rng (x := x3) hm.1
  have f1 := fun e he => made_fits (edges := edges) (e := e) he ra rb rc rd
  have f2 := made_prefix (edges := edges) ra rb
  have s2 := Is_spec _ ht (x0 % (madeNum nodes : Int)) (x1 % (madeNum nodes : Int))
  have s3 := Is_spec _ ht (x2 % (madeNum nodes : Int)) (x3 % (madeNum nodes : Int))
  have s4 := Attrs_spec _ ht (x0 % (madeNum nodes : Int))
  have s5 := Attrs_spec _ ht (x1 % (madeNum nodes : Int))
  have l4 := attrsR_len _ ht (x1 % (madeNum nodes : Int))
  have l5 := CopyLists _ ht (x1 % (madeNum nodes : Int))
  have l6 := attrsR_len _ ht (x0 % (madeNum nodes : Int))
  have s6 := fun e => Fits_spec _ ht e (x1 % (madeNum nodes : Int)) (x3 % (madeNum nodes : Int))
  have s7 := fun e => Fits_spec _ ht e (x0 % (madeNum nodes : Int)) (x2 % (madeNum nodes : Int))
  rw [made_attrsR ra] at s4 l6
  rw [made_attrsR rb] at s5 l4 l5
  simp only at s4 s5 l4 l5 l6
  have s8 := SameAttrs_spec _ l4 l5
  generalize hN : madeNum nodes = n at *
  generalize ha : x0 % (n : Int) = a at *
  generalize hb' : x1 % (n : Int) = b at *
  generalize hc' : x2 % (n : Int) = c at *
  generalize hd' : x3 % (n : Int) = d at *
  generalize madeT nodes edges = t at *
  generalize attrsOf t.nodes a = A at *
  generalize attrsOf t.nodes b = B at *
  have lA : (A.map cAtt).length = A.length := by simp
  have lB : (B.map cAtt).length = B.length := by simp
  generalize isR t a b = pab at *
  generalize isR t c d = pcd at *
  refine a_enter Try.func10 (by kernel_rfl) rfl Try.ntmps10 rfl (by simp) ?_
  repeat (first
    | refine a_seq ?_
    | refine a_reg ?_
    | refine t_lit tok rfl rfl rfl rfl ?_
    | refine t_im tok rfl rfl rfl rfl ?_
    | refine t_ip tok rfl rfl rfl rfl ?_
    | refine t_pt tok rfl rfl rfl rfl ?_
    | refine t_agg tok rfl rfl rfl rfl ?_
    | refine t_tup tok rfl rfl rfl rfl ?_
    | refine t_fn tok rfl rfl rfl rfl ?_
    | refine AL.nil ?_
    | refine s_skip rfl rfl rfl ?_
    | refine s_cmpT rfl rfl rfl rfl rfl rfl rfl (by first | (simp only [cmpP]; omega) | exact rfl) ?_
    | refine s_cmpF rfl rfl rfl rfl rfl rfl rfl (by first | (simp only [cmpP]; omega) | exact rfl) ?_
    | refine s_arith rfl rfl rfl rfl rfl rfl rfl (by first | (exact IntWalk.i64_in _ (by omega)) | (exact IntWalk.u8_in _ (by omega))) ?_
    | refine s_box rfl rfl rfl rfl rfl rfl (fun u => ?_)
    | refine s_callP rfl rfl rfl rfl rfl (awake_spec) (SubL.of_eq rfl) ?_
    | refine s_callP rfl rfl rfl rfl rfl (s1) (SubL.of_eq rfl) ?_
    | refine s_alloc tok rfl rfl rfl rfl rfl (fun u => ?_)
    | refine s_store tok 0 rfl rfl rfl rfl rfl rfl rfl rfl (by decide) rfl rfl rfl (Nat.le_refl _) ?_
    | refine s_ownLoad tok 0 rfl rfl rfl rfl (by decide) rfl rfl rfl rfl rfl rfl (List.cons_ne_nil _ _) ?_
    | refine a_condT rfl ?_
    | refine a_condF rfl ?_
    | refine a_skip ?_
    | refine a_exit ?_
    | refine a_ret ?_
    | refine a_block ?_)
  refine a_frzBox 1 5 rfl rfl ?_
  refine a_frzBox 0 7 rfl rfl ?_
  rw [ln]
  refine a_regP mixed (by decide +kernel) ?_
  repeat (first
    | refine t_lit tok rfl rfl rfl rfl ?_
    | refine t_im tok rfl rfl rfl rfl ?_
    | refine t_ip tok rfl rfl rfl rfl ?_
    | refine t_pt tok rfl rfl rfl rfl ?_
    | refine t_agg tok rfl rfl rfl rfl ?_
    | refine t_tup tok rfl rfl rfl rfl ?_
    | refine t_fn tok rfl rfl rfl rfl ?_
    | refine AL.nil ?_
    | refine s_skip rfl rfl rfl ?_
    | refine s_cmpT rfl rfl rfl rfl rfl rfl rfl (by first | (simp only [cmpP]; omega) | exact rfl) ?_
    | refine s_cmpF rfl rfl rfl rfl rfl rfl rfl (by first | (simp only [cmpP]; omega) | exact rfl) ?_
    | refine s_arith rfl rfl rfl rfl rfl rfl rfl (by first | (exact IntWalk.i64_in _ (by omega)) | (exact IntWalk.u8_in _ (by omega))) ?_
    | refine s_arrIp tok rfl rfl rfl rfl rfl rfl rfl rfl (by decide) (by decide) ?_
    | refine s_conv tok rfl rfl rfl rfl rfl rfl rfl (IntWalk.i64_in _ (by omega)) ?_
    | refine s_rem rfl rfl rfl rfl rfl rfl (by omega) (by omega) ?_)
  rw [ha, hb', hc', hd']
  refine a_mid (fun st L => GoTo 122 st L (lk [(5, .ip [A8 x0, A8 x1, A8 x2, A8 x3, A8 x4]), (7, tysP t), (9, AI a), (10, AI b), (11, AI c), (12, AI d)]) []) ?_ (fun st L h => a_goto h ?_)
  · cases pab with
    | false =>
      repeat (first
    | refine a_seq ?_
    | refine a_reg ?_
    | refine a_regP mixed (by decide +kernel) ?_
    | refine t_lit tok rfl rfl rfl rfl ?_
    | refine t_im tok rfl rfl rfl rfl ?_
    | refine t_ip tok rfl rfl rfl rfl ?_
    | refine t_pt tok rfl rfl rfl rfl ?_
    | refine t_agg tok rfl rfl rfl rfl ?_
    | refine t_tup tok rfl rfl rfl rfl ?_
    | refine t_fn tok rfl rfl rfl rfl ?_
    | refine AL.nil ?_
    | refine s_skip rfl rfl rfl ?_
    | refine s_cmpT rfl rfl rfl rfl rfl rfl rfl (by first | (simp only [cmpP]; omega) | exact rfl) ?_
    | refine s_cmpF rfl rfl rfl rfl rfl rfl rfl (by first | (simp only [cmpP]; omega) | exact rfl) ?_
    | refine s_arith rfl rfl rfl rfl rfl rfl rfl (by first | (exact IntWalk.i64_in _ (by omega)) | (exact IntWalk.u8_in _ (by omega))) ?_
    | refine s_callP rfl rfl rfl rfl rfl (s2) (SubL.of_eq rfl) ?_
    | refine a_condT rfl ?_
    | refine a_condF rfl ?_
    | refine a_skip ?_
    | refine a_exit ?_
    | refine a_ret ?_
    | refine a_block ?_)
      exact GoTo.sub (by repeat (first | exact subs_nil | refine subs_cons (Sub.of_eq rfl) ?_ | refine subs_cons (Sub.nil _) ?_)) (OSub.none _)
    | true =>
      obtain ⟨r, rfl⟩ := f2 rfl
      have lr : (B ++ r).length = B.length + r.length := by simp
      have e8 : (((B ++ r).map cAtt).take (B.map cAtt).length).drop 0 = B.map cAtt := by simp
      repeat (first
    | refine a_seq ?_
    | refine a_reg ?_
    | refine a_regP mixed (by decide +kernel) ?_
    | refine t_lit tok rfl rfl rfl rfl ?_
    | refine t_im tok rfl rfl rfl rfl ?_
    | refine t_ip tok rfl rfl rfl rfl ?_
    | refine t_pt tok rfl rfl rfl rfl ?_
    | refine t_agg tok rfl rfl rfl rfl ?_
    | refine t_tup tok rfl rfl rfl rfl ?_
    | refine t_fn tok rfl rfl rfl rfl ?_
    | refine AL.nil ?_
    | refine s_skip rfl rfl rfl ?_
    | refine s_cmpT rfl rfl rfl rfl rfl rfl rfl (by first | (simp only [cmpP]; omega) | exact rfl) ?_
    | refine s_cmpF rfl rfl rfl rfl rfl rfl rfl (by first | (simp only [cmpP]; omega) | exact rfl) ?_
    | refine s_arith rfl rfl rfl rfl rfl rfl rfl (by first | (exact IntWalk.i64_in _ (by omega)) | (exact IntWalk.u8_in _ (by omega))) ?_
    | refine s_callP rfl rfl rfl rfl rfl (s2) (SubL.of_eq rfl) ?_
    | refine s_callP rfl rfl rfl rfl rfl (s4) (SubL.of_eq rfl) ?_
    | refine s_callP rfl rfl rfl rfl rfl (s5) (SubL.of_eq rfl) ?_
    | refine s_slice tok (a := 0) (b := (B.map cAtt).length) rfl rfl rfl rfl rfl rfl rfl rfl (by first | exact rfl | exact ⟨_, rfl⟩) (by first | exact rfl | exact ⟨_, rfl⟩) (by omega) (by omega) ?_
    | refine s_callP rfl rfl rfl rfl rfl s8 (SubL.of_eq (show [AV.im 4 ((((B ++ r).map cAtt).take (B.map cAtt).length).drop 0), attrsA B] = _ from by rw [e8])) ?_
    | refine a_condT rfl ?_
    | refine a_condF rfl ?_
    | refine a_skip ?_
    | refine a_exit ?_
    | refine a_ret ?_
    | refine a_block ?_)
      exact GoTo.sub (by repeat (first | exact subs_nil | refine subs_cons (Sub.of_eq rfl) ?_ | refine subs_cons (Sub.nil _) ?_)) (OSub.none _)
  · by_cases h0 : t.edges.length = 0
    · repeat (first
    | refine a_seq ?_
    | refine a_reg ?_
    | refine a_regP mixed (by decide +kernel) ?_
    | refine t_lit tok rfl rfl rfl rfl ?_
    | refine t_im tok rfl rfl rfl rfl ?_
    | refine t_ip tok rfl rfl rfl rfl ?_
    | refine t_pt tok rfl rfl rfl rfl ?_
    | refine t_agg tok rfl rfl rfl rfl ?_
    | refine t_tup tok rfl rfl rfl rfl ?_
    | refine t_fn tok rfl rfl rfl rfl ?_
    | refine AL.nil ?_
    | refine s_skip rfl rfl rfl ?_
    | refine s_cmpT rfl rfl rfl rfl rfl rfl rfl (by first | (simp only [cmpP]; omega) | exact rfl) ?_
    | refine s_cmpF rfl rfl rfl rfl rfl rfl rfl (by first | (simp only [cmpP]; omega) | exact rfl) ?_
    | refine s_arith rfl rfl rfl rfl rfl rfl rfl (by first | (exact IntWalk.i64_in _ (by omega)) | (exact IntWalk.u8_in _ (by omega))) ?_
    | refine a_condT rfl ?_
    | refine a_condF rfl ?_
    | refine a_skip ?_
    | refine a_exit ?_
    | refine a_ret ?_
    | refine a_block ?_)
      first | refine fin (x := .lit _) (.inr rfl) rfl (Sub.refl _) ?_ (OSub.none _) | refine fin (x := .im _ _) (.inr rfl) rfl (Sub.refl _) ?_ (OSub.none _) | refine fin (x := .tup [.lit _, .lit _]) (.inr rfl) rfl (Sub.refl _) ?_ (OSub.none _) | refine fin (x := .tup [.im _ _, .lit _]) (.inr rfl) rfl (Sub.refl _) ?_ (OSub.none _) | refine fin (x := .tup [.lit _, .lit _, .lit _]) (.inr rfl) rfl (Sub.refl _) ?_ (OSub.none _) | refine fin (x := .agg _) (.inr rfl) rfl (Sub.refl _) ?_ (OSub.none _)
      exact ⟨rfl, rfl⟩
    · have rk := mod_rng (x := x4) (n := t.edges.length) (by omega)
      repeat (first
    | refine a_seq ?_
    | refine a_reg ?_
    | refine t_lit tok rfl rfl rfl rfl ?_
    | refine t_im tok rfl rfl rfl rfl ?_
    | refine t_ip tok rfl rfl rfl rfl ?_
    | refine t_pt tok rfl rfl rfl rfl ?_
    | refine t_agg tok rfl rfl rfl rfl ?_
    | refine t_tup tok rfl rfl rfl rfl ?_
    | refine t_fn tok rfl rfl rfl rfl ?_
    | refine AL.nil ?_
    | refine s_skip rfl rfl rfl ?_
    | refine s_cmpT rfl rfl rfl rfl rfl rfl rfl (by first | (simp only [cmpP]; omega) | exact rfl) ?_
    | refine s_cmpF rfl rfl rfl rfl rfl rfl rfl (by first | (simp only [cmpP]; omega) | exact rfl) ?_
    | refine s_arith rfl rfl rfl rfl rfl rfl rfl (by first | (exact IntWalk.i64_in _ (by omega)) | (exact IntWalk.u8_in _ (by omega))) ?_
    | refine s_arrIp tok rfl rfl rfl rfl rfl rfl rfl rfl (by decide) (by decide) ?_
    | refine s_conv tok rfl rfl rfl rfl rfl rfl rfl (IntWalk.i64_in _ (by omega)) ?_
    | refine a_condT rfl ?_
    | refine a_condF rfl ?_
    | refine a_skip ?_
    | refine a_exit ?_
    | refine a_ret ?_
    | refine a_block ?_)
      rw [le]
      have f3 := f1 _ rk
      have s9 := s6 (x4 % (t.edges.length : Int))
      have s10 := s7 (x4 % (t.edges.length : Int))
      generalize hk' : x4 % (t.edges.length : Int) = k at *
      generalize fitsR t k b d = p1 at *
      generalize fitsR t k a c = p2 at *
      refine s_rem rfl rfl rfl rfl rfl rfl (by omega) (by omega) ?_
      rw [hk']
      repeat' (first
    | refine a_seq ?_
    | refine a_reg ?_
    | refine a_regP mixed (by decide +kernel) ?_
    | refine t_lit tok rfl rfl rfl rfl ?_
    | refine t_im tok rfl rfl rfl rfl ?_
    | refine t_ip tok rfl rfl rfl rfl ?_
    | refine t_pt tok rfl rfl rfl rfl ?_
    | refine t_agg tok rfl rfl rfl rfl ?_
    | refine t_tup tok rfl rfl rfl rfl ?_
    | refine t_fn tok rfl rfl rfl rfl ?_
    | refine AL.nil ?_
    | refine s_skip rfl rfl rfl ?_
    | refine s_cmpT rfl rfl rfl rfl rfl rfl rfl (by first | (simp only [cmpP]; omega) | exact rfl) ?_
    | refine s_cmpF rfl rfl rfl rfl rfl rfl rfl (by first | (simp only [cmpP]; omega) | exact rfl) ?_
    | refine s_arith rfl rfl rfl rfl rfl rfl rfl (by first | (exact IntWalk.i64_in _ (by omega)) | (exact IntWalk.u8_in _ (by omega))) ?_
    | (refine s_callB rfl rfl rfl rfl rfl (s2) (SubL.of_eq rfl) (fun hb => ?_) (fun hb => ?_) <;> (first | replace hb := of_decide_eq_true hb | replace hb := of_decide_eq_false hb | skip))
    | (refine s_callB rfl rfl rfl rfl rfl (s3) (SubL.of_eq rfl) (fun hb => ?_) (fun hb => ?_) <;> (first | replace hb := of_decide_eq_true hb | replace hb := of_decide_eq_false hb | skip))
    | (refine s_callB rfl rfl rfl rfl rfl (s9) (SubL.of_eq rfl) (fun hb => ?_) (fun hb => ?_) <;> (first | replace hb := of_decide_eq_true hb | replace hb := of_decide_eq_false hb | skip))
    | (refine s_callB rfl rfl rfl rfl rfl (s10) (SubL.of_eq rfl) (fun hb => ?_) (fun hb => ?_) <;> (first | replace hb := of_decide_eq_true hb | replace hb := of_decide_eq_false hb | skip))
    | (refine s_cmp rfl rfl rfl rfl rfl rfl rfl (fun hb => ?_) (fun hb => ?_) <;> simp only [cmpP] at hb)
    | refine a_condT rfl ?_
    | refine a_condF rfl ?_
    | refine a_skip ?_
    | refine a_exit ?_
    | refine a_ret ?_
    | refine a_block ?_)
      all_goals first | ((first | refine fin (x := .lit _) (.inr rfl) rfl (Sub.refl _) ?_ (OSub.none _) | refine fin (x := .im _ _) (.inr rfl) rfl (Sub.refl _) ?_ (OSub.none _) | refine fin (x := .tup [.lit _, .lit _]) (.inr rfl) rfl (Sub.refl _) ?_ (OSub.none _) | refine fin (x := .tup [.im _ _, .lit _]) (.inr rfl) rfl (Sub.refl _) ?_ (OSub.none _) | refine fin (x := .tup [.lit _, .lit _, .lit _]) (.inr rfl) rfl (Sub.refl _) ?_ (OSub.none _) | refine fin (x := .agg _) (.inr rfl) rfl (Sub.refl _) ?_ (OSub.none _)); exact ⟨rfl, rfl⟩) | (exfalso; subst_vars; first | contradiction | exact absurd (f3 rfl rfl rfl) (by decide))
end Go.Proofs.Ytebmopjobmjhmaa
