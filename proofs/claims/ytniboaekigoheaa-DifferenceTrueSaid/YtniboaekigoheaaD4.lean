/-
  The tables of the reference: the walks. Conditions: few variables, few arcs of small numbers.
-/
import Derived.Test.YtniboaekigoheaaD3
import Derived.Test.YtniboaekigoheaaSjN2
namespace Go.Proofs.Ytniboaekigoheaa
open Go.Sj Go.Sj.Dif
set_option linter.unusedVariables false
set_option maxHeartbeats 1000000

def sqF (off on : Int) : Nat → Nat → Int := fun i k => if i = k then on else off
def MatG (f : FuncId) (args : List AV) (N : Nat) (S : Nat → Nat → Int) : Prop := ACalls Try.prog f args [] fun y L => ∃ v vs, y = .lit v ∧ vs.length = N ∧ L = matO 3 36 v vs (mkM N S)
theorem MatG.pure {f : FuncId} {args : List AV} {N : Nat} {S : Nat → Nat → Int} (h : MatG f args N S) : Pure Try.prog f args (matA (mkM N S)) :=
  ACalls.weaken h fun x M ⟨v, vs, e1, e2, e3⟩ => ⟨_, [], ⟨rfl, rfl⟩, fun τ F w u a b => by
    subst e1
    subst e3
    exact (Turn.trans (turn_mat (by rw [e2, mkM_length])) (Turn.freeze 0 rfl FZ.here)) τ F w u a b⟩

theorem square_spec (n : Nat) (hn : n ≤ 1000) (off on : Int) : MatG 51 [AI n, AI off, AI on] (n + 1) (sqF off on) := by
  refine a_enter Try.func51 (by kernel_rfl) rfl Try.ntmps51 rfl (by simp) ?_
  repeat (first
    | refine a_seq ?_
    | refine a_reg ?_
    | refine a_regP mixed (by decide +kernel) ?_
    | refine t_lit tok rfl rfl rfl rfl ?_
    | refine t_im tok rfl rfl rfl rfl ?_
    | refine t_ip tok rfl rfl rfl rfl ?_
    | refine t_pt tok rfl rfl rfl rfl ?_
    | refine t_agg tok rfl rfl rfl rfl ?_
    | refine t_tup tok rfl rfl rfl rfl ?_
    | refine t_fn tok rfl rfl rfl rfl ?_
    | refine AL.nil ?_
    | refine s_skip rfl rfl rfl ?_
    | refine s_cmpT rfl rfl rfl rfl rfl rfl rfl (by first | (simp only [cmpP]; omega) | exact rfl) ?_
    | refine s_cmpF rfl rfl rfl rfl rfl rfl rfl (by first | (simp only [cmpP]; omega) | exact rfl) ?_
    | refine s_arith rfl rfl rfl rfl rfl rfl rfl (by first | (exact IntWalk.i64_in _ (by omega)) | (exact IntWalk.u8_in _ (by omega))) ?_
    | refine a_condT rfl ?_
    | refine a_condF rfl ?_
    | refine a_skip ?_
    | refine a_exit ?_
    | refine a_ret ?_
    | refine a_block ?_)
  refine a_loop3 (fun (i : Nat) (v : Value) (vs : List Value) => [(0, AI n), (1, AI off), (2, AI on), (7, .lit v), (8, AI i)]) (fun i v vs => (v, .row 36 1 (vs.map litR)) :: manyO 3 vs.reverse ((((mkM (n + 1) (sqF off on)).take i).map rowI).reverse)) (fun i v vs => i ≤ n + 1 ∧ vs.length = i) (fun i _ _ => n + 1 - i) 0 (.slice none 0 0) [] ⟨Nat.zero_le _, rfl⟩ ?_ (.free .nil) ?_
  · repeat (first | exact subs_nil | refine subs_cons (Sub.of_eq rfl) ?_ | refine subs_cons (Sub.nil _) ?_)
  · rintro i v vs ⟨hi, hvs⟩
    have lv : (vs.map litR).length = i := by simp [hvs]
    rcases Nat.lt_or_ge i (n + 1) with h1 | h1
    · have htk : (mkM (n + 1) (sqF off on)).take (i + 1) = (mkM (n + 1) (sqF off on)).take i ++ [mkR (n + 1) (sqF off on i)] := by
        have := mkM_get h1 (sqF off on)
        obtain ⟨h2, h3⟩ := List.getElem?_eq_some_iff.1 this
        rw [List.take_succ_eq_append_getElem h2, h3]
      repeat (first
    | refine a_seq ?_
    | refine a_reg ?_
    | refine a_regP mixed (by decide +kernel) ?_
    | refine t_lit tok rfl rfl rfl rfl ?_
    | refine t_im tok rfl rfl rfl rfl ?_
    | refine t_ip tok rfl rfl rfl rfl ?_
    | refine t_pt tok rfl rfl rfl rfl ?_
    | refine t_agg tok rfl rfl rfl rfl ?_
    | refine t_tup tok rfl rfl rfl rfl ?_
    | refine t_fn tok rfl rfl rfl rfl ?_
    | refine AL.nil ?_
    | refine s_skip rfl rfl rfl ?_
    | refine s_cmpT rfl rfl rfl rfl rfl rfl rfl (by first | (simp only [cmpP]; omega) | exact rfl) ?_
    | refine s_cmpF rfl rfl rfl rfl rfl rfl rfl (by first | (simp only [cmpP]; omega) | exact rfl) ?_
    | refine s_arith rfl rfl rfl rfl rfl rfl rfl (by first | (exact IntWalk.i64_in _ (by omega)) | (exact IntWalk.u8_in _ (by omega))) ?_
    | refine a_condT rfl ?_
    | refine a_condF rfl ?_
    | refine a_skip ?_
    | refine a_exit ?_
    | refine a_ret ?_
    | refine a_block ?_)
      refine a_loop2 (fun (k : Nat) (w : Value) => [(0, AI n), (1, AI off), (2, AI on), (7, .lit v), (8, AI i), (9, .lit w), (10, AI k)]) (fun k w => (v, .row 36 1 (vs.map litR)) :: (w, .row 3 1 (rowI (mkR k (sqF off on i)))) :: manyO 3 vs.reverse ((((mkM (n + 1) (sqF off on)).take i).map rowI).reverse)) (fun k w => k ≤ n + 1 ∧ w.oneCell' = true) (fun k _ => n + 1 - k) 0 (.slice none 0 0) ⟨Nat.zero_le _, rfl⟩ ?_ (.keep (.free (OSub.refl _))) ?_
      · repeat (first | exact subs_nil | refine subs_cons (Sub.of_eq rfl) ?_ | refine subs_cons (Sub.nil _) ?_)
      · rintro k w ⟨hk, hw⟩
        have lw : (rowI (mkR k (sqF off on i))).length = k := by simp [mkR_length]
        rcases Nat.lt_or_ge k (n + 1) with h2 | h2
        · have hs := mkR_succ k (sqF off on i)
          by_cases h3 : i = k
          · have e : sqF off on i k = on := by simp only [sqF, if_pos h3]
            rw [e] at hs
            repeat (first
    | refine a_seq ?_
    | refine a_reg ?_
    | refine a_regP mixed (by decide +kernel) ?_
    | refine t_lit tok rfl rfl rfl rfl ?_
    | refine t_im tok rfl rfl rfl rfl ?_
    | refine t_ip tok rfl rfl rfl rfl ?_
    | refine t_pt tok rfl rfl rfl rfl ?_
    | refine t_agg tok rfl rfl rfl rfl ?_
    | refine t_tup tok rfl rfl rfl rfl ?_
    | refine t_fn tok rfl rfl rfl rfl ?_
    | refine AL.nil ?_
    | refine s_skip rfl rfl rfl ?_
    | refine s_cmpT rfl rfl rfl rfl rfl rfl rfl (by first | (simp only [cmpP]; omega) | exact rfl) ?_
    | refine s_cmpF rfl rfl rfl rfl rfl rfl rfl (by first | (simp only [cmpP]; omega) | exact rfl) ?_
    | refine s_arith rfl rfl rfl rfl rfl rfl rfl (by first | (exact IntWalk.i64_in _ (by omega)) | (exact IntWalk.u8_in _ (by omega))) ?_
    | refine a_condT rfl ?_
    | refine a_condF rfl ?_
    | refine a_skip ?_
    | refine a_exit ?_
    | refine a_ret ?_
    | refine a_block ?_)
            (first | refine s_build1 tok rfl rfl rfl rfl rfl rfl rfl rfl (fun u => ?_) | refine s_build1M tok rfl rfl rfl rfl rfl rfl rfl (fun u => ?_) | refine s_build1A tok rfl rfl rfl rfl rfl rfl rfl rfl (by decide) (fun u => ?_)); refine s_append1K tok 1 rfl rfl rfl rfl rfl rfl (by decide) rfl rfl rfl rfl (by omega) (by omega) (fun w' hw' => ?_)
            repeat (first
    | refine a_seq ?_
    | refine a_reg ?_
    | refine a_regP mixed (by decide +kernel) ?_
    | refine t_lit tok rfl rfl rfl rfl ?_
    | refine t_im tok rfl rfl rfl rfl ?_
    | refine t_ip tok rfl rfl rfl rfl ?_
    | refine t_pt tok rfl rfl rfl rfl ?_
    | refine t_agg tok rfl rfl rfl rfl ?_
    | refine t_tup tok rfl rfl rfl rfl ?_
    | refine t_fn tok rfl rfl rfl rfl ?_
    | refine AL.nil ?_
    | refine s_skip rfl rfl rfl ?_
    | refine s_cmpT rfl rfl rfl rfl rfl rfl rfl (by first | (simp only [cmpP]; omega) | exact rfl) ?_
    | refine s_cmpF rfl rfl rfl rfl rfl rfl rfl (by first | (simp only [cmpP]; omega) | exact rfl) ?_
    | refine s_arith rfl rfl rfl rfl rfl rfl rfl (by first | (exact IntWalk.i64_in _ (by omega)) | (exact IntWalk.u8_in _ (by omega))) ?_
    | refine a_condT rfl ?_
    | refine a_condF rfl ?_
    | refine a_skip ?_
    | refine a_exit ?_
    | refine a_ret ?_
    | refine a_block ?_)
            refine ⟨k + 1, w', ⟨by omega, hw'⟩, by omega, ?_, ?_⟩
            · repeat (first | exact subs_nil | refine subs_cons (Sub.of_eq rfl) ?_ | refine subs_cons (Sub.nil _) ?_)
            · rw [hs, show rowI (mkR k (sqF off on i) ++ [on]) = rowI (mkR k (sqF off on i)) ++ [[AI on]] by simp [cI]]
              exact OSub.refl _
          · have e : sqF off on i k = off := by simp only [sqF, if_neg h3]
            rw [e] at hs
            repeat (first
    | refine a_seq ?_
    | refine a_reg ?_
    | refine a_regP mixed (by decide +kernel) ?_
    | refine t_lit tok rfl rfl rfl rfl ?_
    | refine t_im tok rfl rfl rfl rfl ?_
    | refine t_ip tok rfl rfl rfl rfl ?_
    | refine t_pt tok rfl rfl rfl rfl ?_
    | refine t_agg tok rfl rfl rfl rfl ?_
    | refine t_tup tok rfl rfl rfl rfl ?_
    | refine t_fn tok rfl rfl rfl rfl ?_
    | refine AL.nil ?_
    | refine s_skip rfl rfl rfl ?_
    | refine s_cmpT rfl rfl rfl rfl rfl rfl rfl (by first | (simp only [cmpP]; omega) | exact rfl) ?_
    | refine s_cmpF rfl rfl rfl rfl rfl rfl rfl (by first | (simp only [cmpP]; omega) | exact rfl) ?_
    | refine s_arith rfl rfl rfl rfl rfl rfl rfl (by first | (exact IntWalk.i64_in _ (by omega)) | (exact IntWalk.u8_in _ (by omega))) ?_
    | refine a_condT rfl ?_
    | refine a_condF rfl ?_
    | refine a_skip ?_
    | refine a_exit ?_
    | refine a_ret ?_
    | refine a_block ?_)
            (first | refine s_build1 tok rfl rfl rfl rfl rfl rfl rfl rfl (fun u => ?_) | refine s_build1M tok rfl rfl rfl rfl rfl rfl rfl (fun u => ?_) | refine s_build1A tok rfl rfl rfl rfl rfl rfl rfl rfl (by decide) (fun u => ?_)); refine s_append1K tok 1 rfl rfl rfl rfl rfl rfl (by decide) rfl rfl rfl rfl (by omega) (by omega) (fun w' hw' => ?_)
            repeat (first
    | refine a_seq ?_
    | refine a_reg ?_
    | refine a_regP mixed (by decide +kernel) ?_
    | refine t_lit tok rfl rfl rfl rfl ?_
    | refine t_im tok rfl rfl rfl rfl ?_
    | refine t_ip tok rfl rfl rfl rfl ?_
    | refine t_pt tok rfl rfl rfl rfl ?_
    | refine t_agg tok rfl rfl rfl rfl ?_
    | refine t_tup tok rfl rfl rfl rfl ?_
    | refine t_fn tok rfl rfl rfl rfl ?_
    | refine AL.nil ?_
    | refine s_skip rfl rfl rfl ?_
    | refine s_cmpT rfl rfl rfl rfl rfl rfl rfl (by first | (simp only [cmpP]; omega) | exact rfl) ?_
    | refine s_cmpF rfl rfl rfl rfl rfl rfl rfl (by first | (simp only [cmpP]; omega) | exact rfl) ?_
    | refine s_arith rfl rfl rfl rfl rfl rfl rfl (by first | (exact IntWalk.i64_in _ (by omega)) | (exact IntWalk.u8_in _ (by omega))) ?_
    | refine a_condT rfl ?_
    | refine a_condF rfl ?_
    | refine a_skip ?_
    | refine a_exit ?_
    | refine a_ret ?_
    | refine a_block ?_)
            refine ⟨k + 1, w', ⟨by omega, hw'⟩, by omega, ?_, ?_⟩
            · repeat (first | exact subs_nil | refine subs_cons (Sub.of_eq rfl) ?_ | refine subs_cons (Sub.nil _) ?_)
            · rw [hs, show rowI (mkR k (sqF off on i) ++ [off]) = rowI (mkR k (sqF off on i)) ++ [[AI off]] by simp [cI]]
              exact OSub.refl _
        · obtain rfl : k = n + 1 := by omega
          repeat (first
    | refine a_seq ?_
    | refine a_reg ?_
    | refine a_regP mixed (by decide +kernel) ?_
    | refine t_lit tok rfl rfl rfl rfl ?_
    | refine t_im tok rfl rfl rfl rfl ?_
    | refine t_ip tok rfl rfl rfl rfl ?_
    | refine t_pt tok rfl rfl rfl rfl ?_
    | refine t_agg tok rfl rfl rfl rfl ?_
    | refine t_tup tok rfl rfl rfl rfl ?_
    | refine t_fn tok rfl rfl rfl rfl ?_
    | refine AL.nil ?_
    | refine s_skip rfl rfl rfl ?_
    | refine s_cmpT rfl rfl rfl rfl rfl rfl rfl (by first | (simp only [cmpP]; omega) | exact rfl) ?_
    | refine s_cmpF rfl rfl rfl rfl rfl rfl rfl (by first | (simp only [cmpP]; omega) | exact rfl) ?_
    | refine s_arith rfl rfl rfl rfl rfl rfl rfl (by first | (exact IntWalk.i64_in _ (by omega)) | (exact IntWalk.u8_in _ (by omega))) ?_
    | refine a_condT rfl ?_
    | refine a_condF rfl ?_
    | refine a_skip ?_
    | refine a_exit ?_
    | refine a_ret ?_
    | refine a_block ?_)
          refine s_build1 tok rfl rfl rfl rfl rfl rfl rfl hw (fun u => ?_); refine s_append1 tok 0 rfl rfl rfl rfl rfl rfl (by decide) rfl rfl rfl (by simp [AV.cell, hw]) (by omega) (by omega) (fun v' => ?_)
          repeat (first
    | refine a_seq ?_
    | refine a_reg ?_
    | refine a_regP mixed (by decide +kernel) ?_
    | refine t_lit tok rfl rfl rfl rfl ?_
    | refine t_im tok rfl rfl rfl rfl ?_
    | refine t_ip tok rfl rfl rfl rfl ?_
    | refine t_pt tok rfl rfl rfl rfl ?_
    | refine t_agg tok rfl rfl rfl rfl ?_
    | refine t_tup tok rfl rfl rfl rfl ?_
    | refine t_fn tok rfl rfl rfl rfl ?_
    | refine AL.nil ?_
    | refine s_skip rfl rfl rfl ?_
    | refine s_cmpT rfl rfl rfl rfl rfl rfl rfl (by first | (simp only [cmpP]; omega) | exact rfl) ?_
    | refine s_cmpF rfl rfl rfl rfl rfl rfl rfl (by first | (simp only [cmpP]; omega) | exact rfl) ?_
    | refine s_arith rfl rfl rfl rfl rfl rfl rfl (by first | (exact IntWalk.i64_in _ (by omega)) | (exact IntWalk.u8_in _ (by omega))) ?_
    | refine a_condT rfl ?_
    | refine a_condF rfl ?_
    | refine a_skip ?_
    | refine a_exit ?_
    | refine a_ret ?_
    | refine a_block ?_)
          refine ⟨i + 1, v', vs ++ [w], ⟨by omega, by simp [hvs]⟩, by omega, ?_, ?_⟩
          · repeat (first | exact subs_nil | refine subs_cons (Sub.of_eq rfl) ?_ | refine subs_cons (Sub.nil _) ?_)
          · simp only [htk, List.map_append, List.reverse_append]
            exact OSub.refl _
    · obtain rfl : i = n + 1 := by omega
      have e : (mkM (n + 1) (sqF off on)).take (n + 1) = mkM (n + 1) (sqF off on) := List.take_of_length_le (by rw [mkM_length]; exact Nat.le_refl _)
      rw [e]
      repeat (first
    | refine a_seq ?_
    | refine a_reg ?_
    | refine a_regP mixed (by decide +kernel) ?_
    | refine t_lit tok rfl rfl rfl rfl ?_
    | refine t_im tok rfl rfl rfl rfl ?_
    | refine t_ip tok rfl rfl rfl rfl ?_
    | refine t_pt tok rfl rfl rfl rfl ?_
    | refine t_agg tok rfl rfl rfl rfl ?_
    | refine t_tup tok rfl rfl rfl rfl ?_
    | refine t_fn tok rfl rfl rfl rfl ?_
    | refine AL.nil ?_
    | refine s_skip rfl rfl rfl ?_
    | refine s_cmpT rfl rfl rfl rfl rfl rfl rfl (by first | (simp only [cmpP]; omega) | exact rfl) ?_
    | refine s_cmpF rfl rfl rfl rfl rfl rfl rfl (by first | (simp only [cmpP]; omega) | exact rfl) ?_
    | refine s_arith rfl rfl rfl rfl rfl rfl rfl (by first | (exact IntWalk.i64_in _ (by omega)) | (exact IntWalk.u8_in _ (by omega))) ?_
    | refine a_condT rfl ?_
    | refine a_condF rfl ?_
    | refine a_skip ?_
    | refine a_exit ?_
    | refine a_ret ?_
    | refine a_block ?_)
      refine finT (x := .lit _) (.inr rfl) rfl (Turn.perm (M := matO 3 36 v vs (mkM (n + 1) (sqF off on))) ?_) ⟨v, vs, rfl, hvs, rfl⟩
      rw [matO, manyO_reverse (by simp [mkM_length, hvs])]
      exact List.Perm.cons _ (List.reverse_perm _)

theorem obat_lit {E : Nat} {vs : List Value} {i : Nat} {u : Value} (h : vs[i]? = some u) : obAt (.row E 1 (vs.map litR)) ((i : Nat) : Int).toNat 0 = some [.lit u] := by
  simp only [obAt, Int.toNat_natCast, List.getElem?_map, h]; rfl

theorem further_spec (n : Nat) (hn : n ≤ 12) (l : List Ar) (hl : ∀ a ∈ l, AOk n a) (hlen : l.length ≤ 1000) (S : Nat → Nat → Int) (hS : ∀ i j, i < n + 1 → j < n + 1 → -2000000000 ≤ S i j ∧ S i j ≤ far) :
    Pure Try.prog 52 [AI n, arcsA l, matA (mkM (n + 1) S)] (matA (mkM (n + 1) (stM S (n + 1) l))) := by
  have ll : (l.map cA).length = l.length := by simp
  refine a_enter Try.func52 (by kernel_rfl) rfl Try.ntmps52 rfl (by simp) ?_
  repeat (first
    | refine a_seq ?_
    | refine a_reg ?_
    | refine a_regP mixed (by decide +kernel) ?_
    | refine t_lit tok rfl rfl rfl rfl ?_
    | refine t_im tok rfl rfl rfl rfl ?_
    | refine t_ip tok rfl rfl rfl rfl ?_
    | refine t_pt tok rfl rfl rfl rfl ?_
    | refine t_agg tok rfl rfl rfl rfl ?_
    | refine t_tup tok rfl rfl rfl rfl ?_
    | refine t_fn tok rfl rfl rfl rfl ?_
    | refine AL.nil ?_
    | refine s_skip rfl rfl rfl ?_
    | refine s_cmpT rfl rfl rfl rfl rfl rfl rfl (by first | (simp only [cmpP]; omega) | exact rfl) ?_
    | refine s_cmpF rfl rfl rfl rfl rfl rfl rfl (by first | (simp only [cmpP]; omega) | exact rfl) ?_
    | refine s_arith rfl rfl rfl rfl rfl rfl rfl (by first | (exact IntWalk.i64_in _ (by omega)) | (exact IntWalk.u8_in _ (by omega))) ?_
    | refine a_condT rfl ?_
    | refine a_condF rfl ?_
    | refine a_skip ?_
    | refine a_exit ?_
    | refine a_ret ?_
    | refine a_block ?_)
  refine s_call rfl rfl rfl rfl rfl (square_spec n (by omega) far far) (SubL.of_eq rfl) (Lr := []) (List.Perm.refl _) ?_
  rintro _ _ ⟨v, vs, rfl, hvs, rfl⟩
  rw [show mkM (n + 1) (sqF far far) = mkM (n + 1) (stL S (n + 1) (l.take 0) (fun _ _ => far)) from mkM_congr fun i j _ _ => by simp [sqF, stL], List.append_nil]
  repeat (first
    | refine a_seq ?_
    | refine a_reg ?_
    | refine a_regP mixed (by decide +kernel) ?_
    | refine t_lit tok rfl rfl rfl rfl ?_
    | refine t_im tok rfl rfl rfl rfl ?_
    | refine t_ip tok rfl rfl rfl rfl ?_
    | refine t_pt tok rfl rfl rfl rfl ?_
    | refine t_agg tok rfl rfl rfl rfl ?_
    | refine t_tup tok rfl rfl rfl rfl ?_
    | refine t_fn tok rfl rfl rfl rfl ?_
    | refine AL.nil ?_
    | refine s_skip rfl rfl rfl ?_
    | refine s_cmpT rfl rfl rfl rfl rfl rfl rfl (by first | (simp only [cmpP]; omega) | exact rfl) ?_
    | refine s_cmpF rfl rfl rfl rfl rfl rfl rfl (by first | (simp only [cmpP]; omega) | exact rfl) ?_
    | refine s_arith rfl rfl rfl rfl rfl rfl rfl (by first | (exact IntWalk.i64_in _ (by omega)) | (exact IntWalk.u8_in _ (by omega))) ?_
    | refine a_condT rfl ?_
    | refine a_condF rfl ?_
    | refine a_skip ?_
    | refine a_exit ?_
    | refine a_ret ?_
    | refine a_block ?_)
  refine a_loopX (fun i : Nat => [(0, AI n), (1, arcsA l), (2, matA (mkM (n + 1) S)), (7, .lit v), (8, AI i)]) (fun i => matO 3 36 v vs (mkM (n + 1) (stL S (n + 1) (l.take i) (fun _ _ => far)))) (fun i => i ≤ l.length) (fun i => l.length - i) 0 (Nat.zero_le _) ?_ (OSub.refl _) ?_
  · repeat (first | exact subs_nil | refine subs_cons (Sub.of_eq rfl) ?_ | refine subs_cons (Sub.nil _) ?_)
  · intro i hi
    have lv : (vs.map litR).length = n + 1 := by simp [hvs]
    rcases Nat.lt_or_ge i l.length with h1 | h1
    · have hx := List.getElem?_eq_getElem h1
      have hok := hl _ (List.getElem_mem h1)
      have hs : stL S (n + 1) (l.take (i + 1)) (fun _ _ => far) = stTo S l[i] (stL S (n + 1) (l.take i) (fun _ _ => far)) (n + 1) := by
        rw [List.take_succ_eq_append_getElem h1, stL_snoc]
      generalize stL S (n + 1) (l.take i) (fun _ _ => far) = O at *
      generalize l[i] = a at *
      obtain ⟨au, sg, f, t, c⟩ := a
      simp only [AOk] at hok
      obtain ⟨o1, o2, o3, o4⟩ := hok
      have xi : (l.map cA)[(i : Int).toNat]? = some [AI au, AI sg, AI f, AI t, AI c] := map_get hx
      have hu := List.getElem?_eq_getElem (show f < vs.length by omega)
      generalize vs[f] = uf at hu
      have hob := obat_lit (E := 36) hu
      have x1 := mat_row o2 S
      repeat (first
    | refine a_seq ?_
    | refine a_reg ?_
    | refine a_regP mixed (by decide +kernel) ?_
    | refine t_lit tok rfl rfl rfl rfl ?_
    | refine t_im tok rfl rfl rfl rfl ?_
    | refine t_ip tok rfl rfl rfl rfl ?_
    | refine t_pt tok rfl rfl rfl rfl ?_
    | refine t_agg tok rfl rfl rfl rfl ?_
    | refine t_tup tok rfl rfl rfl rfl ?_
    | refine t_fn tok rfl rfl rfl rfl ?_
    | refine AL.nil ?_
    | refine s_skip rfl rfl rfl ?_
    | refine s_cmpT rfl rfl rfl rfl rfl rfl rfl (by first | (simp only [cmpP]; omega) | exact rfl) ?_
    | refine s_cmpF rfl rfl rfl rfl rfl rfl rfl (by first | (simp only [cmpP]; omega) | exact rfl) ?_
    | refine s_arith rfl rfl rfl rfl rfl rfl rfl (by first | (exact IntWalk.i64_in _ (by omega)) | (exact IntWalk.u8_in _ (by omega))) ?_
    | refine s_alloc tok rfl rfl rfl rfl rfl (fun u => ?_)
    | refine s_store tok 0 rfl rfl rfl rfl rfl rfl rfl rfl (by decide) rfl rfl rfl (Nat.le_refl _) ?_
    | refine s_index tok rfl rfl rfl rfl rfl rfl rfl rfl rfl (by omega) xi ?_
    | refine a_condT rfl ?_
    | refine a_condF rfl ?_
    | refine a_skip ?_
    | refine a_exit ?_
    | refine a_ret ?_
    | refine a_block ?_)
      refine a_loopX (fun k : Nat => [(0, AI n), (1, arcsA l), (2, matA (mkM (n + 1) S)), (7, .lit v), (8, AI i), (9, .pt u 0 0 0), (10, AI k)]) (fun k => (u, .box [AI au, AI sg, AI f, AI t, AI c]) :: matO 3 36 v vs (mkM (n + 1) (stTo S ⟨au, sg, f, t, c⟩ O k))) (fun k => k ≤ n + 1) (fun k => n + 1 - k) 0 (Nat.zero_le _) ?_ (OSub.refl _) ?_
      · repeat (first | exact subs_nil | refine subs_cons (Sub.of_eq rfl) ?_ | refine subs_cons (Sub.nil _) ?_)
      · intro k hk
        rcases Nat.lt_or_ge k (n + 1) with h2 | h2
        · have x2 := row_at h2 (S t)
          have hb := hS t k o2 h2
          have hstep : stTo S ⟨au, sg, f, t, c⟩ O (k + 1) = if S t k < far then updF (stTo S ⟨au, sg, f, t, c⟩ O k) f k (min (stTo S ⟨au, sg, f, t, c⟩ O k f k) (c + S t k)) else stTo S ⟨au, sg, f, t, c⟩ O k := rfl
          generalize stTo S ⟨au, sg, f, t, c⟩ O k = O' at *
          have hg := mat_get (E := 3) (E' := 36) (v := v) (O := O') o1 hu
          have lr : (rowI (mkR (n + 1) (O' f))).length = n + 1 := by simp [mkR_length]
          have lr2 := mkR_length (n + 1) (O' f)
          have hld := row_get h2 (O' f)
          have hf1 : (f : Int) < ((vs.map litR).length : Nat) := by omega
          have hk1 : (k : Int) < ((rowI (mkR (n + 1) (O' f))).length : Nat) := by omega
          have hbu : S t k ≤ 1125899906842624 := hb.2
          generalize hSt : S t k = y at *
          by_cases h3 : y < far
          · rw [if_pos h3] at hstep
            have h3' : y < 1125899906842624 := h3
            repeat (first
    | refine a_seq ?_
    | refine a_reg ?_
    | refine a_regR mixed (by decide +kernel) ?_
    | refine t_lit tok rfl rfl rfl rfl ?_
    | refine t_im tok rfl rfl rfl rfl ?_
    | refine t_ip tok rfl rfl rfl rfl ?_
    | refine t_pt tok rfl rfl rfl rfl ?_
    | refine t_agg tok rfl rfl rfl rfl ?_
    | refine t_tup tok rfl rfl rfl rfl ?_
    | refine t_fn tok rfl rfl rfl rfl ?_
    | refine AL.nil ?_
    | refine s_skip rfl rfl rfl ?_
    | refine s_cmpT rfl rfl rfl rfl rfl rfl rfl (by first | (simp only [cmpP]; omega) | exact rfl) ?_
    | refine s_cmpF rfl rfl rfl rfl rfl rfl rfl (by first | (simp only [cmpP]; omega) | exact rfl) ?_
    | refine s_arith rfl rfl rfl rfl rfl rfl rfl (by first | (exact IntWalk.i64_in _ (by omega)) | (exact IntWalk.u8_in _ (by omega))) ?_
    | refine s_index tok rfl rfl rfl rfl rfl rfl rfl rfl rfl (by omega) x1 ?_
    | refine s_index tok rfl rfl rfl rfl rfl rfl rfl rfl rfl (by omega) x2 ?_
    | refine s_ownLoad tok 0 rfl rfl rfl rfl (by decide) rfl rfl rfl rfl rfl rfl (List.cons_ne_nil _ _) ?_
    | refine s_ownIndex tok 1 rfl rfl rfl rfl (by decide) rfl rfl rfl rfl rfl rfl (by omega) hf1 ?_
    | refine s_ownLoad tok 1 rfl rfl rfl rfl (by decide) rfl rfl rfl rfl hob rfl (List.cons_ne_nil _ _) ?_
    | refine s_ownIndex tok (f + 2) rfl rfl rfl rfl (by decide) rfl rfl rfl hg rfl rfl (by omega) hk1 ?_
    | refine s_loadI tok (f + 2) rfl rfl rfl rfl (by decide) rfl rfl rfl hg hld ?_
    | refine s_storeI tok (f + 2) rfl rfl rfl rfl rfl rfl rfl hg (by omega) ?_
    | refine a_condT rfl ?_
    | refine a_condF rfl ?_
    | refine a_skip ?_
    | refine a_exit ?_
    | refine a_ret ?_
    | refine a_block ?_)
            refine ⟨k + 1, by omega, by omega, ?_, ?_⟩
            · repeat (first | exact subs_nil | refine subs_cons (Sub.of_eq rfl) ?_ | refine subs_cons (Sub.nil _) ?_)
            · rw [hstep, ← mat_set hu]
              exact OSub.refl _
          · rw [if_neg h3] at hstep
            have h3' : ¬ y < 1125899906842624 := h3
            repeat (first
    | refine a_seq ?_
    | refine a_reg ?_
    | refine a_regR mixed (by decide +kernel) ?_
    | refine t_lit tok rfl rfl rfl rfl ?_
    | refine t_im tok rfl rfl rfl rfl ?_
    | refine t_ip tok rfl rfl rfl rfl ?_
    | refine t_pt tok rfl rfl rfl rfl ?_
    | refine t_agg tok rfl rfl rfl rfl ?_
    | refine t_tup tok rfl rfl rfl rfl ?_
    | refine t_fn tok rfl rfl rfl rfl ?_
    | refine AL.nil ?_
    | refine s_skip rfl rfl rfl ?_
    | refine s_cmpT rfl rfl rfl rfl rfl rfl rfl (by first | (simp only [cmpP]; omega) | exact rfl) ?_
    | refine s_cmpF rfl rfl rfl rfl rfl rfl rfl (by first | (simp only [cmpP]; omega) | exact rfl) ?_
    | refine s_arith rfl rfl rfl rfl rfl rfl rfl (by first | (exact IntWalk.i64_in _ (by omega)) | (exact IntWalk.u8_in _ (by omega))) ?_
    | refine s_index tok rfl rfl rfl rfl rfl rfl rfl rfl rfl (by omega) x1 ?_
    | refine s_index tok rfl rfl rfl rfl rfl rfl rfl rfl rfl (by omega) x2 ?_
    | refine s_ownLoad tok 0 rfl rfl rfl rfl (by decide) rfl rfl rfl rfl rfl rfl (List.cons_ne_nil _ _) ?_
    | refine a_condT rfl ?_
    | refine a_condF rfl ?_
    | refine a_skip ?_
    | refine a_exit ?_
    | refine a_ret ?_
    | refine a_block ?_)
            refine ⟨k + 1, by omega, by omega, ?_, ?_⟩
            · repeat (first | exact subs_nil | refine subs_cons (Sub.of_eq rfl) ?_ | refine subs_cons (Sub.nil _) ?_)
            · rw [hstep]
              exact OSub.refl _
        · obtain rfl : k = n + 1 := by omega
          repeat (first
    | refine a_seq ?_
    | refine a_reg ?_
    | refine a_regP mixed (by decide +kernel) ?_
    | refine t_lit tok rfl rfl rfl rfl ?_
    | refine t_im tok rfl rfl rfl rfl ?_
    | refine t_ip tok rfl rfl rfl rfl ?_
    | refine t_pt tok rfl rfl rfl rfl ?_
    | refine t_agg tok rfl rfl rfl rfl ?_
    | refine t_tup tok rfl rfl rfl rfl ?_
    | refine t_fn tok rfl rfl rfl rfl ?_
    | refine AL.nil ?_
    | refine s_skip rfl rfl rfl ?_
    | refine s_cmpT rfl rfl rfl rfl rfl rfl rfl (by first | (simp only [cmpP]; omega) | exact rfl) ?_
    | refine s_cmpF rfl rfl rfl rfl rfl rfl rfl (by first | (simp only [cmpP]; omega) | exact rfl) ?_
    | refine s_arith rfl rfl rfl rfl rfl rfl rfl (by first | (exact IntWalk.i64_in _ (by omega)) | (exact IntWalk.u8_in _ (by omega))) ?_
    | refine a_condT rfl ?_
    | refine a_condF rfl ?_
    | refine a_skip ?_
    | refine a_exit ?_
    | refine a_ret ?_
    | refine a_block ?_)
          refine ⟨i + 1, by omega, by omega, ?_, ?_⟩
          · repeat (first | exact subs_nil | refine subs_cons (Sub.of_eq rfl) ?_ | refine subs_cons (Sub.nil _) ?_)
          · rw [hs]
            exact .drop (OSub.refl _)
    · obtain rfl : i = l.length := by omega
      rw [List.take_length]
      repeat (first
    | refine a_seq ?_
    | refine a_reg ?_
    | refine a_regP mixed (by decide +kernel) ?_
    | refine t_lit tok rfl rfl rfl rfl ?_
    | refine t_im tok rfl rfl rfl rfl ?_
    | refine t_ip tok rfl rfl rfl rfl ?_
    | refine t_pt tok rfl rfl rfl rfl ?_
    | refine t_agg tok rfl rfl rfl rfl ?_
    | refine t_tup tok rfl rfl rfl rfl ?_
    | refine t_fn tok rfl rfl rfl rfl ?_
    | refine AL.nil ?_
    | refine s_skip rfl rfl rfl ?_
    | refine s_cmpT rfl rfl rfl rfl rfl rfl rfl (by first | (simp only [cmpP]; omega) | exact rfl) ?_
    | refine s_cmpF rfl rfl rfl rfl rfl rfl rfl (by first | (simp only [cmpP]; omega) | exact rfl) ?_
    | refine s_arith rfl rfl rfl rfl rfl rfl rfl (by first | (exact IntWalk.i64_in _ (by omega)) | (exact IntWalk.u8_in _ (by omega))) ?_
    | refine a_condT rfl ?_
    | refine a_condF rfl ?_
    | refine a_skip ?_
    | refine a_exit ?_
    | refine a_ret ?_
    | refine a_block ?_)
      exact finT (x := .lit _) (.inr rfl) rfl (Turn.trans (turn_mat (by rw [hvs, mkM_length])) (Turn.freeze 0 rfl FZ.here)) ⟨rfl, rfl⟩
end Go.Proofs.Ytniboaekigoheaa
