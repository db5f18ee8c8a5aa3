/-
  Classes: the walks. Conditions: the rows are shorter than 2^40.
-/
import Derived.Test.YtjkgjlaockihaaaP12
namespace Go.Proofs.Ytjkgjlaockihaaa
open Go.Sj Go.Sj.Part
set_option linter.unusedVariables false
set_option maxHeartbeats 1000000

theorem obset_lit {E : Nat} {vs : List Value} {c : Nat} {u v : Value} (h : vs[c]? = some u) : obSet (.row E 1 (vs.map litR)) c 0 [.lit v] = .row E 1 ((vs.set c v).map litR) := by
  simp only [obSet, List.map_set]
  rw [List.getD_eq_getElem?_getD, List.getElem?_map, h]
  rfl

theorem Classes_spec (a : List Int) (ha : a.length ≤ 1099511627776) : Pure Try.prog 23 [ints a] (.tup [rowsA (clsR a).1, AI (clsR a).2]) := by
  have nil1 : Sub (.lit (.slice none 0 0)) (rowsA []) := Sub.nil 1
  refine a_enter Try.func23 (by kernel_rfl) rfl Try.ntmps23 rfl (by simp) ?_
  repeat (first
    | refine a_seq ?_
    | refine a_reg ?_
    | refine a_regP mixed (by decide +kernel) ?_
    | refine t_lit tok rfl rfl rfl rfl ?_
    | refine t_im tok rfl rfl rfl rfl ?_
    | refine t_ip tok rfl rfl rfl rfl ?_
    | refine t_pt tok rfl rfl rfl rfl ?_
    | refine t_agg tok rfl rfl rfl rfl ?_
    | refine t_tup tok rfl rfl rfl rfl ?_
    | refine t_fn tok rfl rfl rfl rfl ?_
    | refine AL.nil ?_
    | refine s_skip rfl rfl rfl ?_
    | refine s_cmpT rfl rfl rfl rfl rfl rfl rfl (by first | (simp only [cmpP]; omega) | exact rfl) ?_
    | refine s_cmpF rfl rfl rfl rfl rfl rfl rfl (by first | (simp only [cmpP]; omega) | exact rfl) ?_
    | refine s_arith rfl rfl rfl rfl rfl rfl rfl (by first | (exact IntWalk.i64_in _ (by omega)) | (exact IntWalk.u8_in _ (by omega))) ?_
    | refine a_condT rfl ?_
    | refine a_condF rfl ?_
    | refine a_skip ?_
    | refine a_exit ?_
    | refine a_ret ?_
    | refine a_block ?_)
  by_cases hz : oneE a = 0
  · obtain ⟨h80, hra⟩ := oneE_ok hz
    obtain ⟨ea, pa⟩ := Part.right_spec hra
    have lt : (toN a).length = a.length := by simp [toN]
    have hQ : Pure Try.prog 22 [ints a] (.tup [ints (nI (quoN (toN a))), AI (cnt (toN a) (toN a).length : Nat), AI 0]) := by
      have := Quotient_spec a ha
      rw [show quoR a = (nI (quoN (toN a)), ((cnt (toN a) (toN a).length : Nat) : Int), 0) by simp only [quoR, if_pos hz, lt]] at this
      exact this
    rw [show clsR a = (clsN (toN a), 0) by simp only [clsR, if_pos hz]]
    generalize hpa : toN a = p at *
    subst ea
    rw [nI_length] at h80
    have lq : (rowI (nI (quoN p))).length = p.length := by rw [List.length_map, nI_length, quoN_length]
    have hc := cnt_le p p.length
    refine s_callP rfl rfl rfl rfl rfl (hQ) (SubL.of_eq rfl) ?_
    repeat (first
    | refine a_seq ?_
    | refine a_reg ?_
    | refine a_regP mixed (by decide +kernel) ?_
    | refine t_lit tok rfl rfl rfl rfl ?_
    | refine t_im tok rfl rfl rfl rfl ?_
    | refine t_ip tok rfl rfl rfl rfl ?_
    | refine t_pt tok rfl rfl rfl rfl ?_
    | refine t_agg tok rfl rfl rfl rfl ?_
    | refine t_tup tok rfl rfl rfl rfl ?_
    | refine t_fn tok rfl rfl rfl rfl ?_
    | refine AL.nil ?_
    | refine s_skip rfl rfl rfl ?_
    | refine s_cmpT rfl rfl rfl rfl rfl rfl rfl (by first | (simp only [cmpP]; omega) | exact rfl) ?_
    | refine s_cmpF rfl rfl rfl rfl rfl rfl rfl (by first | (simp only [cmpP]; omega) | exact rfl) ?_
    | refine s_arith rfl rfl rfl rfl rfl rfl rfl (by first | (exact IntWalk.i64_in _ (by omega)) | (exact IntWalk.u8_in _ (by omega))) ?_
    | refine a_condT rfl ?_
    | refine a_condF rfl ?_
    | refine a_skip ?_
    | refine a_exit ?_
    | refine a_ret ?_
    | refine a_block ?_)
    refine s_make tok rfl rfl rfl rfl rfl rfl rfl rfl (by omega) (by omega) (by simp; omega) (by omega) (fun v => ?_)
    repeat (first
    | refine a_seq ?_
    | refine a_reg ?_
    | refine a_regP mixed (by decide +kernel) ?_
    | refine t_lit tok rfl rfl rfl rfl ?_
    | refine t_im tok rfl rfl rfl rfl ?_
    | refine t_ip tok rfl rfl rfl rfl ?_
    | refine t_pt tok rfl rfl rfl rfl ?_
    | refine t_agg tok rfl rfl rfl rfl ?_
    | refine t_tup tok rfl rfl rfl rfl ?_
    | refine t_fn tok rfl rfl rfl rfl ?_
    | refine AL.nil ?_
    | refine s_skip rfl rfl rfl ?_
    | refine s_cmpT rfl rfl rfl rfl rfl rfl rfl (by first | (simp only [cmpP]; omega) | exact rfl) ?_
    | refine s_cmpF rfl rfl rfl rfl rfl rfl rfl (by first | (simp only [cmpP]; omega) | exact rfl) ?_
    | refine s_arith rfl rfl rfl rfl rfl rfl rfl (by first | (exact IntWalk.i64_in _ (by omega)) | (exact IntWalk.u8_in _ (by omega))) ?_
    | refine a_condT rfl ?_
    | refine a_condF rfl ?_
    | refine a_skip ?_
    | refine a_exit ?_
    | refine a_ret ?_
    | refine a_block ?_)
    refine a_loop2 (fun (k : Nat) (vs : List Value) => [(0, ints (nI p)), (4, ints (nI (quoN p))), (5, AI (cnt p p.length : Nat)), (7, .lit v), (21, ints (nI (quoN p))), (22, AI p.length), (23, AI k)])
      (fun k vs => (v, .row 28 1 (vs.map litR)) :: manyO 3 vs ((gathTo p (cnt p p.length) k).map rowN)) (fun k vs => k ≤ p.length ∧ vs.length = cnt p p.length) (fun k vs => p.length - k) 0 (List.replicate (cnt p p.length) (.slice none 0 0)) ⟨Nat.zero_le _, by simp⟩ ?_ ?_ ?_
    · rw [lq]
      repeat (first | exact subs_nil | refine subs_cons (Sub.of_eq rfl) ?_ | refine subs_cons (Sub.nil _) ?_)
    · rw [gath_zero, Int.toNat_natCast, List.map_replicate, List.map_replicate]
      have := osub_many (E := 3) (L := []) (cnt p p.length)
      rw [List.append_nil] at this
      exact .keep this
    · rintro k vs ⟨hk, hvs⟩
      have lvs : (vs.map litR).length = cnt p p.length := by simp [hvs]
      repeat (first
    | refine a_seq ?_
    | refine a_reg ?_
    | refine a_regP mixed (by decide +kernel) ?_
    | refine t_lit tok rfl rfl rfl rfl ?_
    | refine t_im tok rfl rfl rfl rfl ?_
    | refine t_ip tok rfl rfl rfl rfl ?_
    | refine t_pt tok rfl rfl rfl rfl ?_
    | refine t_agg tok rfl rfl rfl rfl ?_
    | refine t_tup tok rfl rfl rfl rfl ?_
    | refine t_fn tok rfl rfl rfl rfl ?_
    | refine AL.nil ?_
    | refine s_skip rfl rfl rfl ?_
    | refine s_cmpT rfl rfl rfl rfl rfl rfl rfl (by first | (simp only [cmpP]; omega) | exact rfl) ?_
    | refine s_cmpF rfl rfl rfl rfl rfl rfl rfl (by first | (simp only [cmpP]; omega) | exact rfl) ?_
    | refine s_arith rfl rfl rfl rfl rfl rfl rfl (by first | (exact IntWalk.i64_in _ (by omega)) | (exact IntWalk.u8_in _ (by omega))) ?_
    | refine a_condT rfl ?_
    | refine a_condF rfl ?_
    | refine a_skip ?_
    | refine a_exit ?_
    | refine a_ret ?_
    | refine a_block ?_)
      refine s_cmp rfl rfl rfl rfl rfl rfl rfl (fun h1 => ?_) (fun h1 => ?_) <;> simp only [cmpP] at h1
      · have hk' : k < p.length := by omega
        have hpk := pa k hk'
        have xq : (rowI (nI (quoN p)))[(k : Int).toNat]? = some (cI (cnt p (p.getD k 0) : Nat)) := map_get (nI_get (by rw [Int.toNat_natCast]; exact quoN_get hk'))
        have hlt := cnt_lt (k := p.length) (show p.getD k 0 < p.length by omega) hpk.2
        have hgs := gath_succ hlt (p := p) (k := k)
        generalize hcc : cnt p (p.getD k 0) = c at *
        generalize hnn : cnt p p.length = n at *
        have hu := List.getElem?_eq_getElem (show c < vs.length by omega)
        generalize vs[c] = u at hu
        have hcls := List.getElem?_eq_getElem (show c < (gathTo p n k).length by rw [gathTo_length]; exact hlt)
        have hgd : (gathTo p n k).getD c [] = (gathTo p n k)[c]'(by rw [gathTo_length]; exact hlt) := by
          rw [List.getD_eq_getElem?_getD, hcls]; rfl
        have hlen : ((gathTo p n k)[c]'(by rw [gathTo_length]; exact hlt)).length ≤ 80 := by
          simp only [gathTo, List.getElem_map]
          exact Nat.le_trans (List.length_filter_le _ _) (by simp; omega)
        rw [hgd] at hgs
        generalize (gathTo p n k)[c]'(by rw [gathTo_length]; exact hlt) = cls at *
        have lcls : (rowN cls).length = cls.length := rowN_length cls
        have hobat : obAt (.row 28 1 (vs.map litR)) ((c : Int).toNat) 0 = some [.lit u] := by
          simp only [obAt, Int.toNat_natCast, List.getElem?_map, hu]; rfl
        have hget : ((v, OB.row 28 1 (vs.map litR)) :: manyO 3 vs ((gathTo p n k).map rowN))[c + 1]? = some (u, .row 3 1 (rowN cls)) := by
          rw [List.getElem?_cons_succ]
          exact manyO_get hu (by rw [List.getElem?_map, hcls]; rfl)
        have hcl : (c : Int) < ((vs.map litR).length : Nat) := by omega
        repeat (first
    | refine a_seq ?_
    | refine a_reg ?_
    | refine a_regP mixed (by decide +kernel) ?_
    | refine t_lit tok rfl rfl rfl rfl ?_
    | refine t_im tok rfl rfl rfl rfl ?_
    | refine t_ip tok rfl rfl rfl rfl ?_
    | refine t_pt tok rfl rfl rfl rfl ?_
    | refine t_agg tok rfl rfl rfl rfl ?_
    | refine t_tup tok rfl rfl rfl rfl ?_
    | refine t_fn tok rfl rfl rfl rfl ?_
    | refine AL.nil ?_
    | refine s_skip rfl rfl rfl ?_
    | refine s_cmpT rfl rfl rfl rfl rfl rfl rfl (by first | (simp only [cmpP]; omega) | exact rfl) ?_
    | refine s_cmpF rfl rfl rfl rfl rfl rfl rfl (by first | (simp only [cmpP]; omega) | exact rfl) ?_
    | refine s_arith rfl rfl rfl rfl rfl rfl rfl (by first | (exact IntWalk.i64_in _ (by omega)) | (exact IntWalk.u8_in _ (by omega))) ?_
    | refine s_index tok rfl rfl rfl rfl rfl rfl rfl rfl rfl (by omega) xq ?_
    | refine s_ownIndex tok 0 rfl rfl rfl rfl (by decide) rfl rfl rfl rfl rfl rfl (by omega) hcl ?_
    | refine s_ownLoad tok 0 rfl rfl rfl rfl (by decide) rfl rfl rfl rfl hobat rfl (List.cons_ne_nil _ _) ?_
    | refine a_condT rfl ?_
    | refine a_condF rfl ?_
    | refine a_skip ?_
    | refine a_exit ?_
    | refine a_ret ?_
    | refine a_block ?_)
        refine s_build1 tok rfl rfl rfl rfl rfl rfl rfl rfl (fun w => ?_)
        refine s_append1K tok (c + 1) rfl rfl rfl rfl rfl rfl (by decide) rfl hget rfl rfl (by omega) (by omega) (fun v' hv' => ?_)
        refine s_ownIndex tok 0 rfl rfl rfl rfl (by decide) rfl rfl rfl rfl rfl rfl (by omega) hcl ?_
        refine s_store tok 0 rfl rfl rfl rfl rfl rfl hv' rfl (by decide) rfl rfl hobat (Nat.le_refl _) ?_
        repeat (first
    | refine a_seq ?_
    | refine a_reg ?_
    | refine a_regP mixed (by decide +kernel) ?_
    | refine t_lit tok rfl rfl rfl rfl ?_
    | refine t_im tok rfl rfl rfl rfl ?_
    | refine t_ip tok rfl rfl rfl rfl ?_
    | refine t_pt tok rfl rfl rfl rfl ?_
    | refine t_agg tok rfl rfl rfl rfl ?_
    | refine t_tup tok rfl rfl rfl rfl ?_
    | refine t_fn tok rfl rfl rfl rfl ?_
    | refine AL.nil ?_
    | refine s_skip rfl rfl rfl ?_
    | refine s_cmpT rfl rfl rfl rfl rfl rfl rfl (by first | (simp only [cmpP]; omega) | exact rfl) ?_
    | refine s_cmpF rfl rfl rfl rfl rfl rfl rfl (by first | (simp only [cmpP]; omega) | exact rfl) ?_
    | refine s_arith rfl rfl rfl rfl rfl rfl rfl (by first | (exact IntWalk.i64_in _ (by omega)) | (exact IntWalk.u8_in _ (by omega))) ?_
    | refine a_condT rfl ?_
    | refine a_condF rfl ?_
    | refine a_skip ?_
    | refine a_exit ?_
    | refine a_ret ?_
    | refine a_block ?_)
        refine ⟨k + 1, vs.set c v', ⟨by omega, by simpa using hvs⟩, by omega, ?_, ?_⟩
        · repeat (first | exact subs_nil | refine subs_cons (Sub.of_eq rfl) ?_ | refine subs_cons (Sub.nil _) ?_)
        · have e1 : (gathTo p n (k + 1)).map rowN = ((gathTo p n k).map rowN).set c (rowN (cls ++ [k])) := by rw [hgs, List.map_set]
          rw [e1, ← manyO_set, ← obset_lit hu, rowN_snoc]
          exact OSub.refl _
      · obtain rfl : k = p.length := by omega
        rw [gath_all pa]
        repeat (first
    | refine a_seq ?_
    | refine a_reg ?_
    | refine a_regP mixed (by decide +kernel) ?_
    | refine t_lit tok rfl rfl rfl rfl ?_
    | refine t_im tok rfl rfl rfl rfl ?_
    | refine t_ip tok rfl rfl rfl rfl ?_
    | refine t_pt tok rfl rfl rfl rfl ?_
    | refine t_agg tok rfl rfl rfl rfl ?_
    | refine t_tup tok rfl rfl rfl rfl ?_
    | refine t_fn tok rfl rfl rfl rfl ?_
    | refine AL.nil ?_
    | refine s_skip rfl rfl rfl ?_
    | refine s_cmpT rfl rfl rfl rfl rfl rfl rfl (by first | (simp only [cmpP]; omega) | exact rfl) ?_
    | refine s_cmpF rfl rfl rfl rfl rfl rfl rfl (by first | (simp only [cmpP]; omega) | exact rfl) ?_
    | refine s_arith rfl rfl rfl rfl rfl rfl rfl (by first | (exact IntWalk.i64_in _ (by omega)) | (exact IntWalk.u8_in _ (by omega))) ?_
    | refine a_condT rfl ?_
    | refine a_condF rfl ?_
    | refine a_skip ?_
    | refine a_exit ?_
    | refine a_ret ?_
    | refine a_block ?_)
        refine finT (x := .tup [.lit v, .lit (.int .i64 0)]) (.inr rfl) rfl (Turn.trans (turn_many (done := []) ?_ ?_ (by simp)) (Turn.freeze 0 rfl (FZ.tup (m := [rowsA (clsN p), .lit (.int .i64 0)]) ⟨?_, FZ.refl _, trivial⟩))) ⟨rfl, rfl⟩
        · rw [hvs, List.length_map, ← gath_all pa, gathTo_length]
        · intro c hc' e he
          rw [List.mem_map] at hc'
          obtain ⟨q, _, rfl⟩ := hc'
          rw [List.mem_map] at he
          obtain ⟨z, _, rfl⟩ := he
          rfl
        · rw [show rowsA (clsN p) = .im 1 ([] ++ ((clsN p).map rowN).map imR) by rw [List.nil_append, List.map_map]; rfl]
          exact FZ.here
  · have hQ : Pure Try.prog 22 [ints a] (.tup [ints [], AI 0, AI (oneE a)]) := by
      have := Quotient_spec a ha
      rw [show quoR a = ([], 0, oneE a) by simp only [quoR, if_neg hz]] at this
      exact this
    rw [show clsR a = ([], oneE a) by simp only [clsR, if_neg hz]]
    refine s_callP rfl rfl rfl rfl rfl (hQ) (SubL.of_eq rfl) ?_
    repeat (first
    | refine a_seq ?_
    | refine a_reg ?_
    | refine a_regP mixed (by decide +kernel) ?_
    | refine t_lit tok rfl rfl rfl rfl ?_
    | refine t_im tok rfl rfl rfl rfl ?_
    | refine t_ip tok rfl rfl rfl rfl ?_
    | refine t_pt tok rfl rfl rfl rfl ?_
    | refine t_agg tok rfl rfl rfl rfl ?_
    | refine t_tup tok rfl rfl rfl rfl ?_
    | refine t_fn tok rfl rfl rfl rfl ?_
    | refine AL.nil ?_
    | refine s_skip rfl rfl rfl ?_
    | refine s_cmpT rfl rfl rfl rfl rfl rfl rfl (by first | (simp only [cmpP]; omega) | exact rfl) ?_
    | refine s_cmpF rfl rfl rfl rfl rfl rfl rfl (by first | (simp only [cmpP]; omega) | exact rfl) ?_
    | refine s_arith rfl rfl rfl rfl rfl rfl rfl (by first | (exact IntWalk.i64_in _ (by omega)) | (exact IntWalk.u8_in _ (by omega))) ?_
    | refine a_condT rfl ?_
    | refine a_condF rfl ?_
    | refine a_skip ?_
    | refine a_exit ?_
    | refine a_ret ?_
    | refine a_block ?_)
    refine fin (x := .tup [.lit _, .lit _]) (.inr rfl) rfl ?_ ⟨rfl, rfl⟩ (OSub.refl _)
    exact Sub.tup ⟨nil1, Sub.refl _, trivial⟩
end Go.Proofs.Ytjkgjlaockihaaa
