/-
  The law on quotients: the walk.
-/
import Derived.Test.YtjkgjlaockihaaaP16
import Derived.Test.YtjkgjlaockihaaaSjM11
namespace Go.Proofs.Ytjkgjlaockihaaa
open Go.Sj Go.Sj.Part
set_option linter.unusedVariables false
set_option maxHeartbeats 4000000

theorem PartitionQuotient_nat (x : List Nat) (hx : ∀ n ∈ x, n < 256) : Pure Try.prog 7 [u8N x] (AB true) := by
  have mA := (Made_spec x hx).pure
  have pa := madeN_part x
  have la := madeN_length x
  generalize madeN x = p at *
  have h80 : p.length ≤ 80 := by omega
  have s1 := Quotient_spec (nI p) (by rw [nI_length]; omega)
  have s2 := Classes_spec (nI p) (by rw [nI_length]; omega)
  rw [show quoR (nI p) = (nI (quoN p), ((cnt p p.length : Nat) : Int), 0) by simp only [quoR, if_pos (oneE_part pa h80), toN_nI, nI_length]] at s1
  rw [show clsR (nI p) = (clsN p, 0) by simp only [clsR, if_pos (oneE_part pa h80), toN_nI]] at s2
  simp only at s1 s2
  have hcf := fun i c h => cls_facts pa (i := i) (c := c) h
  have hcl := clsN_length p
  have hql := quoN_length p
  have hsum := count_all pa
  have hst := fun i c h => sumTo_succ (l := clsN p) (i := i) (c := c) h
  have hsl := sumTo_le (clsN p)
  rw [hsum] at hsl
  have hend : sumTo (clsN p) (clsN p).length = p.length := by rw [sumTo, List.take_length]; exact hsum
  rw [← hcl] at s1
  generalize clsN p = cl at *
  generalize quoN p = q at *
  have lq : (rowI (nI q)).length = p.length := by rw [List.length_map, nI_length, hql]
  have lp : (rowI (nI p)).length = p.length := by rw [List.length_map, nI_length]
  have lc : (cl.map cR).length = cl.length := by simp
  have lp2 : (rowN p).length = p.length := rowN_length p
  have hcn : cl.length ≤ 12 := by
    have := cnt_le p p.length
    omega
  refine a_enter Try.func7 (by kernel_rfl) rfl Try.ntmps7 rfl (by simp) ?_
  repeat (first
    | refine a_seq ?_
    | refine a_reg ?_
    | refine a_regP mixed (by decide +kernel) ?_
    | refine t_lit tok rfl rfl rfl rfl ?_
    | refine t_im tok rfl rfl rfl rfl ?_
    | refine t_ip tok rfl rfl rfl rfl ?_
    | refine t_pt tok rfl rfl rfl rfl ?_
    | refine t_agg tok rfl rfl rfl rfl ?_
    | refine t_tup tok rfl rfl rfl rfl ?_
    | refine t_fn tok rfl rfl rfl rfl ?_
    | refine AL.nil ?_
    | refine s_skip rfl rfl rfl ?_
    | refine s_cmpT rfl rfl rfl rfl rfl rfl rfl (by first | (simp only [cmpP]; omega) | exact rfl) ?_
    | refine s_cmpF rfl rfl rfl rfl rfl rfl rfl (by first | (simp only [cmpP]; omega) | exact rfl) ?_
    | refine s_arith rfl rfl rfl rfl rfl rfl rfl (by first | (exact IntWalk.i64_in _ (by omega)) | (exact IntWalk.u8_in _ (by omega))) ?_
    | refine s_callP rfl rfl rfl rfl rfl (awake_spec) (SubL.of_eq rfl) ?_
    | refine s_callP rfl rfl rfl rfl rfl (mA) (SubL.of_eq rfl) ?_
    | refine s_callP rfl rfl rfl rfl rfl (s1) (SubL.of_eq rfl) ?_
    | refine s_callP rfl rfl rfl rfl rfl (s2) (SubL.of_eq rfl) ?_
    | refine a_condT rfl ?_
    | refine a_condF rfl ?_
    | refine a_skip ?_
    | refine a_exit ?_
    | refine a_ret ?_
    | refine a_block ?_)
  rw [lc]
  refine a_loopX (fun i : Nat => [(3, ints (nI p)), (4, ints (nI q)), (9, AI (sumTo cl i : Nat)), (48, rowsA cl), (49, AI cl.length), (50, AI i)]) (fun _ => []) (fun i => i ≤ cl.length) (fun i => cl.length - i) 0 (Nat.zero_le _) ?_ (OSub.refl _) ?_
  · repeat (first | exact subs_nil | refine subs_cons (Sub.of_eq rfl) ?_ | refine subs_cons (Sub.nil _) ?_)
  · intro i hi
    rcases Nat.lt_or_ge i cl.length with h1 | h1
    · have hc := List.getElem?_eq_getElem h1
      generalize cl[i] = c at hc
      obtain ⟨r, hr, hk⟩ := hcf i c hc
      have hs := hst i c hc
      have hs2 := hsl (i + 1)
      have xi : (cl.map cR)[(i : Int).toNat]? = some [ints (nI c)] := map_get hc
      have x0 : (rowI (nI c))[(0 : Int).toNat]? = some [AI r] := map_get (nI_get hr)
      have lcc : (rowI (nI c)).length = c.length := by rw [List.length_map, nI_length]
      repeat (first
    | refine a_seq ?_
    | refine a_reg ?_
    | refine a_regP mixed (by decide +kernel) ?_
    | refine t_lit tok rfl rfl rfl rfl ?_
    | refine t_im tok rfl rfl rfl rfl ?_
    | refine t_ip tok rfl rfl rfl rfl ?_
    | refine t_pt tok rfl rfl rfl rfl ?_
    | refine t_agg tok rfl rfl rfl rfl ?_
    | refine t_tup tok rfl rfl rfl rfl ?_
    | refine t_fn tok rfl rfl rfl rfl ?_
    | refine AL.nil ?_
    | refine s_skip rfl rfl rfl ?_
    | refine s_cmpT rfl rfl rfl rfl rfl rfl rfl (by first | (simp only [cmpP]; omega) | exact rfl) ?_
    | refine s_cmpF rfl rfl rfl rfl rfl rfl rfl (by first | (simp only [cmpP]; omega) | exact rfl) ?_
    | refine s_arith rfl rfl rfl rfl rfl rfl rfl (by first | (exact IntWalk.i64_in _ (by omega)) | (exact IntWalk.u8_in _ (by omega))) ?_
    | refine s_index tok rfl rfl rfl rfl rfl rfl rfl rfl rfl (by omega) xi ?_
    | refine a_condT rfl ?_
    | refine a_condF rfl ?_
    | refine a_skip ?_
    | refine a_exit ?_
    | refine a_ret ?_
    | refine a_block ?_)
      refine a_loopX (fun j : Nat => [(3, ints (nI p)), (4, ints (nI q)), (9, AI (sumTo cl i + j : Nat)), (10, AI i), (11, ints (nI c)), (48, rowsA cl), (49, AI cl.length), (50, AI i), (55, ints (nI c)), (56, AI c.length), (57, AI j)]) (fun _ => []) (fun j => j ≤ c.length) (fun j => c.length - j) 0 (Nat.zero_le _) ?_ (OSub.refl _) ?_
      · rw [lcc]
        repeat (first | exact subs_nil | refine subs_cons (Sub.of_eq rfl) ?_ | refine subs_cons (Sub.nil _) ?_)
      · intro j hj
        rcases Nat.lt_or_ge j c.length with h2 | h2
        · have hcj := List.getElem?_eq_getElem h2
          generalize c[j] = k at hcj
          obtain ⟨k1, k2, k3⟩ := hk j k hcj
          have xj : (rowI (nI c))[(j : Int).toNat]? = some [AI k] := map_get (nI_get hcj)
          have xq : (rowI (nI q))[(k : Int).toNat]? = some [AI i] := map_get (nI_get k2)
          have xp : (rowI (nI p))[(k : Int).toNat]? = some [AI r] := by
            have := natAt k1
            rw [k3] at this
            exact this
          repeat (first
    | refine a_seq ?_
    | refine a_reg ?_
    | refine a_regP mixed (by decide +kernel) ?_
    | refine t_lit tok rfl rfl rfl rfl ?_
    | refine t_im tok rfl rfl rfl rfl ?_
    | refine t_ip tok rfl rfl rfl rfl ?_
    | refine t_pt tok rfl rfl rfl rfl ?_
    | refine t_agg tok rfl rfl rfl rfl ?_
    | refine t_tup tok rfl rfl rfl rfl ?_
    | refine t_fn tok rfl rfl rfl rfl ?_
    | refine AL.nil ?_
    | refine s_skip rfl rfl rfl ?_
    | refine s_cmpT rfl rfl rfl rfl rfl rfl rfl (by first | (simp only [cmpP]; omega) | exact rfl) ?_
    | refine s_cmpF rfl rfl rfl rfl rfl rfl rfl (by first | (simp only [cmpP]; omega) | exact rfl) ?_
    | refine s_arith rfl rfl rfl rfl rfl rfl rfl (by first | (exact IntWalk.i64_in _ (by omega)) | (exact IntWalk.u8_in _ (by omega))) ?_
    | refine s_index tok rfl rfl rfl rfl rfl rfl rfl rfl rfl (by omega) xj ?_
    | refine s_index tok rfl rfl rfl rfl rfl rfl rfl rfl rfl (by omega) xq ?_
    | refine s_index tok rfl rfl rfl rfl rfl rfl rfl rfl rfl (by omega) xp ?_
    | refine s_index tok rfl rfl rfl rfl rfl rfl rfl rfl rfl (by omega) x0 ?_
    | refine a_condT rfl ?_
    | refine a_condF rfl ?_
    | refine a_skip ?_
    | refine a_exit ?_
    | refine a_ret ?_
    | refine a_block ?_)
          refine ⟨j + 1, by omega, by omega, ?_, OSub.refl _⟩
          repeat (first | exact subs_nil | refine subs_cons (Sub.of_eq rfl) ?_ | refine subs_cons (Sub.nil _) ?_)
        · obtain rfl : j = c.length := by omega
          repeat (first
    | refine a_seq ?_
    | refine a_reg ?_
    | refine a_regP mixed (by decide +kernel) ?_
    | refine t_lit tok rfl rfl rfl rfl ?_
    | refine t_im tok rfl rfl rfl rfl ?_
    | refine t_ip tok rfl rfl rfl rfl ?_
    | refine t_pt tok rfl rfl rfl rfl ?_
    | refine t_agg tok rfl rfl rfl rfl ?_
    | refine t_tup tok rfl rfl rfl rfl ?_
    | refine t_fn tok rfl rfl rfl rfl ?_
    | refine AL.nil ?_
    | refine s_skip rfl rfl rfl ?_
    | refine s_cmpT rfl rfl rfl rfl rfl rfl rfl (by first | (simp only [cmpP]; omega) | exact rfl) ?_
    | refine s_cmpF rfl rfl rfl rfl rfl rfl rfl (by first | (simp only [cmpP]; omega) | exact rfl) ?_
    | refine s_arith rfl rfl rfl rfl rfl rfl rfl (by first | (exact IntWalk.i64_in _ (by omega)) | (exact IntWalk.u8_in _ (by omega))) ?_
    | refine a_condT rfl ?_
    | refine a_condF rfl ?_
    | refine a_skip ?_
    | refine a_exit ?_
    | refine a_ret ?_
    | refine a_block ?_)
          refine ⟨i + 1, by omega, by omega, ?_, OSub.refl _⟩
          rw [hs]
          repeat (first | exact subs_nil | refine subs_cons (Sub.of_eq rfl) ?_ | refine subs_cons (Sub.nil _) ?_)
    · obtain rfl : i = cl.length := by omega
      rw [hend]
      repeat (first
    | refine a_seq ?_
    | refine a_reg ?_
    | refine a_regP mixed (by decide +kernel) ?_
    | refine t_lit tok rfl rfl rfl rfl ?_
    | refine t_im tok rfl rfl rfl rfl ?_
    | refine t_ip tok rfl rfl rfl rfl ?_
    | refine t_pt tok rfl rfl rfl rfl ?_
    | refine t_agg tok rfl rfl rfl rfl ?_
    | refine t_tup tok rfl rfl rfl rfl ?_
    | refine t_fn tok rfl rfl rfl rfl ?_
    | refine AL.nil ?_
    | refine s_skip rfl rfl rfl ?_
    | refine s_cmpT rfl rfl rfl rfl rfl rfl rfl (by first | (simp only [cmpP]; omega) | exact rfl) ?_
    | refine s_cmpF rfl rfl rfl rfl rfl rfl rfl (by first | (simp only [cmpP]; omega) | exact rfl) ?_
    | refine s_arith rfl rfl rfl rfl rfl rfl rfl (by first | (exact IntWalk.i64_in _ (by omega)) | (exact IntWalk.u8_in _ (by omega))) ?_
    | refine a_condT rfl ?_
    | refine a_condF rfl ?_
    | refine a_skip ?_
    | refine a_exit ?_
    | refine a_ret ?_
    | refine a_block ?_)
      first | refine fin (x := .lit _) (.inr rfl) rfl (Sub.refl _) ?_ (OSub.refl _) | refine fin (x := .im _ _) (.inr rfl) rfl (Sub.refl _) ?_ (OSub.refl _) | refine fin (x := .tup [.lit _, .lit _]) (.inr rfl) rfl (Sub.refl _) ?_ (OSub.refl _) | refine fin (x := .tup [.im _ _, .lit _]) (.inr rfl) rfl (Sub.refl _) ?_ (OSub.refl _) | refine fin (x := .tup [.lit _, .lit _, .lit _]) (.inr rfl) rfl (Sub.refl _) ?_ (OSub.refl _) | refine fin (x := .agg _) (.inr rfl) rfl (Sub.refl _) ?_ (OSub.refl _)
      exact ⟨rfl, rfl⟩
theorem PartitionQuotient_spec (x : List Int) (hx : (∀ a ∈ x, (Lit.int .u8 a).wf = true) ∧ x.length ≤ maxLen) :
    Pure Try.prog 7 [.im 1 (x.map fun n => [.lit (.int .u8 n)])] (AB true) := by
  obtain ⟨a, ea, ha, _⟩ := u8_nat hx
  rw [ea]
  exact PartitionQuotient_nat a ha
end Go.Proofs.Ytjkgjlaockihaaa
