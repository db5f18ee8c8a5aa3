/-
  The tables of the program: the walks. Conditions: few variables, few arcs of small numbers.
-/
import Derived.Test.YtniboaekigoheaaD5
import Derived.Test.YtniboaekigoheaaD6
import Derived.Test.YtniboaekigoheaaSjL5
namespace Go.Proofs.Ytniboaekigoheaa
open Go.Sj Go.Sj.Dif
set_option linter.unusedVariables false
set_option maxHeartbeats 1000000

theorem cRow_one (l : List (List Int)) : ∀ a ∈ l.map cRow, a.length = 1 := fun a ha => by
  rw [List.mem_map] at ha
  obtain ⟨r, _, rfl⟩ := ha
  rfl
theorem Repeat_give (x : Int) (c : Nat) (hc : c ≤ 1000000) (v : Value) : ACalls Try.prog 66 [.lit v, AI c] [(v, .row 3 1 (rowI [x]))] (fun y L => ∃ w, w.oneCell' = true ∧ y = .lit w ∧ L = [(w, .row 3 1 (rowI (List.replicate c x)))]) :=
  (ACalls.cells (ACalls.give (L := []) (v := v) (E := 3) (sz := 1) (es := rowI [x]) (args' := [.lit v, AI c]) (Repeat_spec x c hc) trivial ⟨FZ.here, FZ.refl _, trivial⟩)).mono fun y L ⟨⟨w, e1, e2⟩, h⟩ => ⟨w, by subst e2; exact h _ (List.mem_singleton.2 rfl), e1, e2⟩
theorem rep_mkR (N : Nat) (x : Int) : List.replicate N x = mkR N (fun _ => x) := by
  apply List.ext_getElem?
  intro i
  by_cases h : i < N
  · rw [mkR_get h]; simp [h]
  · rw [List.getElem?_eq_none (by simp; omega), List.getElem?_eq_none (by rw [mkR_length]; omega)]

theorem fresh_spec (n : Nat) (hn : n ≤ 1000) : Pure Try.prog 47 [AI n] (matA (mkM (n + 1) unit0)) := by
  refine a_enter Try.func47 (by kernel_rfl) rfl Try.ntmps47 rfl (by simp) ?_
  repeat (first
    | refine a_seq ?_
    | refine a_reg ?_
    | refine a_regP mixed (by decide +kernel) ?_
    | refine t_lit tok rfl rfl rfl rfl ?_
    | refine t_im tok rfl rfl rfl rfl ?_
    | refine t_ip tok rfl rfl rfl rfl ?_
    | refine t_pt tok rfl rfl rfl rfl ?_
    | refine t_agg tok rfl rfl rfl rfl ?_
    | refine t_tup tok rfl rfl rfl rfl ?_
    | refine t_fn tok rfl rfl rfl rfl ?_
    | refine AL.nil ?_
    | refine s_skip rfl rfl rfl ?_
    | refine s_cmpT rfl rfl rfl rfl rfl rfl rfl (by first | (simp only [cmpP]; omega) | exact rfl) ?_
    | refine s_cmpF rfl rfl rfl rfl rfl rfl rfl (by first | (simp only [cmpP]; omega) | exact rfl) ?_
    | refine s_arith rfl rfl rfl rfl rfl rfl rfl (by first | (exact IntWalk.i64_in _ (by omega)) | (exact IntWalk.u8_in _ (by omega))) ?_
    | refine a_condT rfl ?_
    | refine a_condF rfl ?_
    | refine a_skip ?_
    | refine a_exit ?_
    | refine a_ret ?_
    | refine a_block ?_)
  refine a_loopG2 (fun (i : Nat) (v : Value) => [(0, AI n), (3, .lit v), (7, AI (n + 1 : Int)), (8, AI i)]) (fun i v => [(v, .row 36 1 (((mkM (n + 1) unit0).take i).map cRow))]) (fun i v => i ≤ n + 1) (fun i _ => n + 1 - i) 0 (.slice none 0 0) (Nat.zero_le _) (.sub ?_ (.free .nil)) ?_
  · repeat (first | exact subs_nil | refine subs_cons (Sub.of_eq rfl) ?_ | refine subs_cons (Sub.nil _) ?_)
  · intro i v hi
    have lv : (((mkM (n + 1) unit0).take i).map cRow).length = i := by rw [List.length_map, List.length_take, mkM_length]; omega
    rcases Nat.lt_or_ge i (n + 1) with h1 | h1
    · have htk : (mkM (n + 1) unit0).take (i + 1) = (mkM (n + 1) unit0).take i ++ [mkR (n + 1) (unit0 i)] := by
        have := mkM_get h1 unit0
        obtain ⟨h2, h3⟩ := List.getElem?_eq_some_iff.1 this
        rw [List.take_succ_eq_append_getElem h2, h3]
      have hset : (List.replicate (n + 1) far).set ((i : Int).toNat) 0 = mkR (n + 1) (unit0 i) := by
        rw [Int.toNat_natCast, rep_mkR, mkR_set]
        congr 1
        funext b
        simp only [unit0]
        by_cases e : b = i
        · rw [if_pos e, if_pos e.symm]
        · rw [if_neg e, if_neg (fun h => e h.symm)]
      have lrep : (rowI (List.replicate (n + 1) far)).length = n + 1 := by simp
      have hrg := Repeat_give far (n + 1) (by omega)
      repeat (first
    | refine a_seq ?_
    | refine a_reg ?_
    | refine a_regP mixed (by decide +kernel) ?_
    | refine t_lit tok rfl rfl rfl rfl ?_
    | refine t_im tok rfl rfl rfl rfl ?_
    | refine t_ip tok rfl rfl rfl rfl ?_
    | refine t_pt tok rfl rfl rfl rfl ?_
    | refine t_agg tok rfl rfl rfl rfl ?_
    | refine t_tup tok rfl rfl rfl rfl ?_
    | refine t_fn tok rfl rfl rfl rfl ?_
    | refine AL.nil ?_
    | refine s_skip rfl rfl rfl ?_
    | refine s_cmpT rfl rfl rfl rfl rfl rfl rfl (by first | (simp only [cmpP]; omega) | exact rfl) ?_
    | refine s_cmpF rfl rfl rfl rfl rfl rfl rfl (by first | (simp only [cmpP]; omega) | exact rfl) ?_
    | refine s_arith rfl rfl rfl rfl rfl rfl rfl (by first | (exact IntWalk.i64_in _ (by omega)) | (exact IntWalk.u8_in _ (by omega))) ?_
    | refine a_condT rfl ?_
    | refine a_condF rfl ?_
    | refine a_skip ?_
    | refine a_exit ?_
    | refine a_ret ?_
    | refine a_block ?_)
      refine s_build1 tok rfl rfl rfl rfl rfl rfl rfl rfl (fun t => ?_)
      repeat (first
    | refine a_seq ?_
    | refine a_reg ?_
    | refine a_regP mixed (by decide +kernel) ?_
    | refine t_lit tok rfl rfl rfl rfl ?_
    | refine t_im tok rfl rfl rfl rfl ?_
    | refine t_ip tok rfl rfl rfl rfl ?_
    | refine t_pt tok rfl rfl rfl rfl ?_
    | refine t_agg tok rfl rfl rfl rfl ?_
    | refine t_tup tok rfl rfl rfl rfl ?_
    | refine t_fn tok rfl rfl rfl rfl ?_
    | refine AL.nil ?_
    | refine s_skip rfl rfl rfl ?_
    | refine s_cmpT rfl rfl rfl rfl rfl rfl rfl (by first | (simp only [cmpP]; omega) | exact rfl) ?_
    | refine s_cmpF rfl rfl rfl rfl rfl rfl rfl (by first | (simp only [cmpP]; omega) | exact rfl) ?_
    | refine s_arith rfl rfl rfl rfl rfl rfl rfl (by first | (exact IntWalk.i64_in _ (by omega)) | (exact IntWalk.u8_in _ (by omega))) ?_
    | refine a_condT rfl ?_
    | refine a_condF rfl ?_
    | refine a_skip ?_
    | refine a_exit ?_
    | refine a_ret ?_
    | refine a_block ?_)
      refine s_callO 0 rfl rfl rfl rfl rfl rfl (hrg t) (SubL.of_eq rfl) ?_
      rintro _ _ ⟨w, hw, rfl, rfl⟩
      repeat (first
    | refine a_seq ?_
    | refine a_reg ?_
    | refine a_regP mixed (by decide +kernel) ?_
    | refine t_lit tok rfl rfl rfl rfl ?_
    | refine t_im tok rfl rfl rfl rfl ?_
    | refine t_ip tok rfl rfl rfl rfl ?_
    | refine t_pt tok rfl rfl rfl rfl ?_
    | refine t_agg tok rfl rfl rfl rfl ?_
    | refine t_tup tok rfl rfl rfl rfl ?_
    | refine t_fn tok rfl rfl rfl rfl ?_
    | refine AL.nil ?_
    | refine s_skip rfl rfl rfl ?_
    | refine s_cmpT rfl rfl rfl rfl rfl rfl rfl (by first | (simp only [cmpP]; omega) | exact rfl) ?_
    | refine s_cmpF rfl rfl rfl rfl rfl rfl rfl (by first | (simp only [cmpP]; omega) | exact rfl) ?_
    | refine s_arith rfl rfl rfl rfl rfl rfl rfl (by first | (exact IntWalk.i64_in _ (by omega)) | (exact IntWalk.u8_in _ (by omega))) ?_
    | refine s_ownIndex tok 0 rfl rfl rfl rfl (by decide) rfl rfl rfl rfl rfl rfl (by omega) (by omega) ?_
    | refine s_storeI tok 0 rfl rfl rfl rfl rfl rfl rfl rfl (by simp; omega) ?_
    | refine a_condT rfl ?_
    | refine a_condF rfl ?_
    | refine a_skip ?_
    | refine a_exit ?_
    | refine a_ret ?_
    | refine a_block ?_)
      refine s_build1 tok rfl rfl rfl rfl rfl rfl rfl hw (fun u => ?_); refine s_append1 tok 1 rfl rfl rfl rfl rfl rfl (by decide) rfl rfl rfl (by simp [AV.cell, hw]) (by omega) (by omega) (fun v' => ?_)
      repeat (first
    | refine a_seq ?_
    | refine a_reg ?_
    | refine a_regP mixed (by decide +kernel) ?_
    | refine t_lit tok rfl rfl rfl rfl ?_
    | refine t_im tok rfl rfl rfl rfl ?_
    | refine t_ip tok rfl rfl rfl rfl ?_
    | refine t_pt tok rfl rfl rfl rfl ?_
    | refine t_agg tok rfl rfl rfl rfl ?_
    | refine t_tup tok rfl rfl rfl rfl ?_
    | refine t_fn tok rfl rfl rfl rfl ?_
    | refine AL.nil ?_
    | refine s_skip rfl rfl rfl ?_
    | refine s_cmpT rfl rfl rfl rfl rfl rfl rfl (by first | (simp only [cmpP]; omega) | exact rfl) ?_
    | refine s_cmpF rfl rfl rfl rfl rfl rfl rfl (by first | (simp only [cmpP]; omega) | exact rfl) ?_
    | refine s_arith rfl rfl rfl rfl rfl rfl rfl (by first | (exact IntWalk.i64_in _ (by omega)) | (exact IntWalk.u8_in _ (by omega))) ?_
    | refine a_condT rfl ?_
    | refine a_condF rfl ?_
    | refine a_skip ?_
    | refine a_exit ?_
    | refine a_ret ?_
    | refine a_block ?_)
      refine ⟨i + 1, v', by omega, by omega, ?_⟩
      refine GoTo.trans (GoTo.freeze 0 rfl (FZS.refl _) [(v', .row 36 1 (((mkM (n + 1) unit0).take i).map cRow ++ [cRow (mkR (n + 1) (unit0 i))]))] (fzo_snoc (cRow_one _) ?_)) (.sub ?_ ?_)
      · rw [hset]; exact FZ.here
      · repeat (first | exact subs_nil | refine subs_cons (Sub.of_eq rfl) ?_ | refine subs_cons (Sub.nil _) ?_)
      · rw [htk, List.map_append]
        exact OSub.refl _
    · obtain rfl : i = n + 1 := by omega
      rw [List.take_of_length_le (by rw [mkM_length]; exact Nat.le_refl _)]
      repeat (first
    | refine a_seq ?_
    | refine a_reg ?_
    | refine a_regP mixed (by decide +kernel) ?_
    | refine t_lit tok rfl rfl rfl rfl ?_
    | refine t_im tok rfl rfl rfl rfl ?_
    | refine t_ip tok rfl rfl rfl rfl ?_
    | refine t_pt tok rfl rfl rfl rfl ?_
    | refine t_agg tok rfl rfl rfl rfl ?_
    | refine t_tup tok rfl rfl rfl rfl ?_
    | refine t_fn tok rfl rfl rfl rfl ?_
    | refine AL.nil ?_
    | refine s_skip rfl rfl rfl ?_
    | refine s_cmpT rfl rfl rfl rfl rfl rfl rfl (by first | (simp only [cmpP]; omega) | exact rfl) ?_
    | refine s_cmpF rfl rfl rfl rfl rfl rfl rfl (by first | (simp only [cmpP]; omega) | exact rfl) ?_
    | refine s_arith rfl rfl rfl rfl rfl rfl rfl (by first | (exact IntWalk.i64_in _ (by omega)) | (exact IntWalk.u8_in _ (by omega))) ?_
    | refine a_condT rfl ?_
    | refine a_condF rfl ?_
    | refine a_skip ?_
    | refine a_exit ?_
    | refine a_ret ?_
    | refine a_block ?_)
      exact finF 0 (x := .lit _) (.inr rfl) rfl rfl FZ.here ⟨rfl, rfl⟩

theorem closed_spec (N : Nat) (hN : N ≤ 1000) (S : Nat → Nat → Int) : Pure Try.prog 48 [matA (mkM N S)] (AB (!diagB N S)) := by
  have ll : ((mkM N S).map cRow).length = N := by rw [List.length_map, mkM_length]
  refine a_enter Try.func48 (by kernel_rfl) rfl Try.ntmps48 rfl (by simp) ?_
  repeat (first
    | refine a_seq ?_
    | refine a_reg ?_
    | refine a_regP mixed (by decide +kernel) ?_
    | refine t_lit tok rfl rfl rfl rfl ?_
    | refine t_im tok rfl rfl rfl rfl ?_
    | refine t_ip tok rfl rfl rfl rfl ?_
    | refine t_pt tok rfl rfl rfl rfl ?_
    | refine t_agg tok rfl rfl rfl rfl ?_
    | refine t_tup tok rfl rfl rfl rfl ?_
    | refine t_fn tok rfl rfl rfl rfl ?_
    | refine AL.nil ?_
    | refine s_skip rfl rfl rfl ?_
    | refine s_cmpT rfl rfl rfl rfl rfl rfl rfl (by first | (simp only [cmpP]; omega) | exact rfl) ?_
    | refine s_cmpF rfl rfl rfl rfl rfl rfl rfl (by first | (simp only [cmpP]; omega) | exact rfl) ?_
    | refine s_arith rfl rfl rfl rfl rfl rfl rfl (by first | (exact IntWalk.i64_in _ (by omega)) | (exact IntWalk.u8_in _ (by omega))) ?_
    | refine a_condT rfl ?_
    | refine a_condF rfl ?_
    | refine a_skip ?_
    | refine a_exit ?_
    | refine a_ret ?_
    | refine a_block ?_)
  refine a_loopX (fun i : Nat => [(0, matA (mkM N S)), (5, AI N), (6, AI i)]) (fun _ => []) (fun i => i ≤ N ∧ ∀ j, j < i → 0 ≤ S j j) (fun i => N - i) 0 ⟨Nat.zero_le _, by omega⟩ ?_ (OSub.refl _) ?_
  · rw [ll]
    repeat (first | exact subs_nil | refine subs_cons (Sub.of_eq rfl) ?_ | refine subs_cons (Sub.nil _) ?_)
  · rintro i ⟨hi, hd⟩
    rcases Nat.lt_or_ge i N with h1 | h1
    · have x1 := mat_row h1 S
      have x2 := row_at h1 (S i)
      by_cases h3 : S i i < 0
      · rw [diag_false h1 h3]
        repeat (first
    | refine a_seq ?_
    | refine a_reg ?_
    | refine a_regP mixed (by decide +kernel) ?_
    | refine t_lit tok rfl rfl rfl rfl ?_
    | refine t_im tok rfl rfl rfl rfl ?_
    | refine t_ip tok rfl rfl rfl rfl ?_
    | refine t_pt tok rfl rfl rfl rfl ?_
    | refine t_agg tok rfl rfl rfl rfl ?_
    | refine t_tup tok rfl rfl rfl rfl ?_
    | refine t_fn tok rfl rfl rfl rfl ?_
    | refine AL.nil ?_
    | refine s_skip rfl rfl rfl ?_
    | refine s_cmpT rfl rfl rfl rfl rfl rfl rfl (by first | (simp only [cmpP]; omega) | exact rfl) ?_
    | refine s_cmpF rfl rfl rfl rfl rfl rfl rfl (by first | (simp only [cmpP]; omega) | exact rfl) ?_
    | refine s_arith rfl rfl rfl rfl rfl rfl rfl (by first | (exact IntWalk.i64_in _ (by omega)) | (exact IntWalk.u8_in _ (by omega))) ?_
    | refine s_index tok rfl rfl rfl rfl rfl rfl rfl rfl rfl (by omega) x1 ?_
    | refine s_index tok rfl rfl rfl rfl rfl rfl rfl rfl rfl (by omega) x2 ?_
    | refine a_condT rfl ?_
    | refine a_condF rfl ?_
    | refine a_skip ?_
    | refine a_exit ?_
    | refine a_ret ?_
    | refine a_block ?_)
        first | refine fin (x := .lit _) (.inr rfl) rfl (Sub.refl _) ?_ (OSub.refl _) | refine fin (x := .im _ _) (.inr rfl) rfl (Sub.refl _) ?_ (OSub.refl _) | refine fin (x := .tup [.lit _, .lit _]) (.inr rfl) rfl (Sub.refl _) ?_ (OSub.refl _) | refine fin (x := .tup [.im _ _, .lit _]) (.inr rfl) rfl (Sub.refl _) ?_ (OSub.refl _) | refine fin (x := .tup [.lit _, .lit _, .lit _]) (.inr rfl) rfl (Sub.refl _) ?_ (OSub.refl _) | refine fin (x := .agg _) (.inr rfl) rfl (Sub.refl _) ?_ (OSub.refl _)
        exact ⟨rfl, rfl⟩
      · repeat (first
    | refine a_seq ?_
    | refine a_reg ?_
    | refine a_regP mixed (by decide +kernel) ?_
    | refine t_lit tok rfl rfl rfl rfl ?_
    | refine t_im tok rfl rfl rfl rfl ?_
    | refine t_ip tok rfl rfl rfl rfl ?_
    | refine t_pt tok rfl rfl rfl rfl ?_
    | refine t_agg tok rfl rfl rfl rfl ?_
    | refine t_tup tok rfl rfl rfl rfl ?_
    | refine t_fn tok rfl rfl rfl rfl ?_
    | refine AL.nil ?_
    | refine s_skip rfl rfl rfl ?_
    | refine s_cmpT rfl rfl rfl rfl rfl rfl rfl (by first | (simp only [cmpP]; omega) | exact rfl) ?_
    | refine s_cmpF rfl rfl rfl rfl rfl rfl rfl (by first | (simp only [cmpP]; omega) | exact rfl) ?_
    | refine s_arith rfl rfl rfl rfl rfl rfl rfl (by first | (exact IntWalk.i64_in _ (by omega)) | (exact IntWalk.u8_in _ (by omega))) ?_
    | refine s_index tok rfl rfl rfl rfl rfl rfl rfl rfl rfl (by omega) x1 ?_
    | refine s_index tok rfl rfl rfl rfl rfl rfl rfl rfl rfl (by omega) x2 ?_
    | refine a_condT rfl ?_
    | refine a_condF rfl ?_
    | refine a_skip ?_
    | refine a_exit ?_
    | refine a_ret ?_
    | refine a_block ?_)
        refine ⟨i + 1, ⟨by omega, fun j hj => ?_⟩, by omega, ?_, OSub.refl _⟩
        · by_cases e : j < i
          · exact hd j e
          · obtain rfl : j = i := by omega
            omega
        · repeat (first | exact subs_nil | refine subs_cons (Sub.of_eq rfl) ?_ | refine subs_cons (Sub.nil _) ?_)
    · obtain rfl : i = N := by omega
      rw [diag_true hd]
      repeat (first
    | refine a_seq ?_
    | refine a_reg ?_
    | refine a_regP mixed (by decide +kernel) ?_
    | refine t_lit tok rfl rfl rfl rfl ?_
    | refine t_im tok rfl rfl rfl rfl ?_
    | refine t_ip tok rfl rfl rfl rfl ?_
    | refine t_pt tok rfl rfl rfl rfl ?_
    | refine t_agg tok rfl rfl rfl rfl ?_
    | refine t_tup tok rfl rfl rfl rfl ?_
    | refine t_fn tok rfl rfl rfl rfl ?_
    | refine AL.nil ?_
    | refine s_skip rfl rfl rfl ?_
    | refine s_cmpT rfl rfl rfl rfl rfl rfl rfl (by first | (simp only [cmpP]; omega) | exact rfl) ?_
    | refine s_cmpF rfl rfl rfl rfl rfl rfl rfl (by first | (simp only [cmpP]; omega) | exact rfl) ?_
    | refine s_arith rfl rfl rfl rfl rfl rfl rfl (by first | (exact IntWalk.i64_in _ (by omega)) | (exact IntWalk.u8_in _ (by omega))) ?_
    | refine a_condT rfl ?_
    | refine a_condF rfl ?_
    | refine a_skip ?_
    | refine a_exit ?_
    | refine a_ret ?_
    | refine a_block ?_)
      first | refine fin (x := .lit _) (.inr rfl) rfl (Sub.refl _) ?_ (OSub.refl _) | refine fin (x := .im _ _) (.inr rfl) rfl (Sub.refl _) ?_ (OSub.refl _) | refine fin (x := .tup [.lit _, .lit _]) (.inr rfl) rfl (Sub.refl _) ?_ (OSub.refl _) | refine fin (x := .tup [.im _ _, .lit _]) (.inr rfl) rfl (Sub.refl _) ?_ (OSub.refl _) | refine fin (x := .tup [.lit _, .lit _, .lit _]) (.inr rfl) rfl (Sub.refl _) ?_ (OSub.refl _) | refine fin (x := .agg _) (.inr rfl) rfl (Sub.refl _) ?_ (OSub.refl _)
      exact ⟨rfl, rfl⟩

theorem longer_spec (n : Nat) (hn : n ≤ 12) (l : List Ar) (hl : ∀ a ∈ l, AOk n a) (hlen : l.length ≤ 1000) (S : Nat → Nat → Int) (hS : ∀ i j, i < n + 1 → j < n + 1 → -2000000000 ≤ S i j ∧ S i j ≤ far) :
    Pure Try.prog 49 [matA (mkM (n + 1) S), arcsA l] (matA (mkM (n + 1) (stM S (n + 1) l))) := by
  have ll : (l.map cA).length = l.length := by simp
  have lm : ((mkM (n + 1) S).map cRow).length = n + 1 := by rw [List.length_map, mkM_length]
  refine a_enter Try.func49 (by kernel_rfl) rfl Try.ntmps49 rfl (by simp) ?_
  repeat (first
    | refine a_seq ?_
    | refine a_reg ?_
    | refine a_regP mixed (by decide +kernel) ?_
    | refine t_lit tok rfl rfl rfl rfl ?_
    | refine t_im tok rfl rfl rfl rfl ?_
    | refine t_ip tok rfl rfl rfl rfl ?_
    | refine t_pt tok rfl rfl rfl rfl ?_
    | refine t_agg tok rfl rfl rfl rfl ?_
    | refine t_tup tok rfl rfl rfl rfl ?_
    | refine t_fn tok rfl rfl rfl rfl ?_
    | refine AL.nil ?_
    | refine s_skip rfl rfl rfl ?_
    | refine s_cmpT rfl rfl rfl rfl rfl rfl rfl (by first | (simp only [cmpP]; omega) | exact rfl) ?_
    | refine s_cmpF rfl rfl rfl rfl rfl rfl rfl (by first | (simp only [cmpP]; omega) | exact rfl) ?_
    | refine s_arith rfl rfl rfl rfl rfl rfl rfl (by first | (exact IntWalk.i64_in _ (by omega)) | (exact IntWalk.u8_in _ (by omega))) ?_
    | refine a_condT rfl ?_
    | refine a_condF rfl ?_
    | refine a_skip ?_
    | refine a_exit ?_
    | refine a_ret ?_
    | refine a_block ?_)
  rw [lm]
  refine a_loopG3 (fun (i : Nat) (v : Value) (vs : List Value) => [(0, matA (mkM (n + 1) S)), (1, arcsA l), (5, AI n), (6, .lit v), (14, AI (n + 1 : Nat)), (15, AI i)]) (fun i v vs => matO 3 36 v vs ((mkM (n + 1) (fun _ _ => far)).take i)) (fun i v vs => i ≤ n + 1 ∧ vs.length = i) (fun i _ _ => n + 1 - i) 0 (.slice none 0 0) [] ⟨Nat.zero_le _, rfl⟩ (.sub ?_ (.free .nil)) ?_
  · rw [show ((n + 1 : Nat) : Int) - 1 = (n : Int) by omega]
    repeat (first | exact subs_nil | refine subs_cons (Sub.of_eq rfl) ?_ | refine subs_cons (Sub.nil _) ?_)
  · rintro i v vs ⟨hi, hvs⟩
    have lv : (vs.map litR).length = i := by simp [hvs]
    rcases Nat.lt_or_ge i (n + 1) with h1 | h1
    · have htk : (mkM (n + 1) (fun _ _ => far)).take (i + 1) = (mkM (n + 1) (fun _ _ => far)).take i ++ [mkR (n + 1) (fun _ => far)] := by
        have := mkM_get h1 (fun _ _ => far)
        obtain ⟨h2, h3⟩ := List.getElem?_eq_some_iff.1 this
        rw [List.take_succ_eq_append_getElem h2, h3]
      have hrg := Repeat_give far (n + 1) (by omega)
      rw [rep_mkR] at hrg
      repeat (first
    | refine a_seq ?_
    | refine a_reg ?_
    | refine a_regP mixed (by decide +kernel) ?_
    | refine t_lit tok rfl rfl rfl rfl ?_
    | refine t_im tok rfl rfl rfl rfl ?_
    | refine t_ip tok rfl rfl rfl rfl ?_
    | refine t_pt tok rfl rfl rfl rfl ?_
    | refine t_agg tok rfl rfl rfl rfl ?_
    | refine t_tup tok rfl rfl rfl rfl ?_
    | refine t_fn tok rfl rfl rfl rfl ?_
    | refine AL.nil ?_
    | refine s_skip rfl rfl rfl ?_
    | refine s_cmpT rfl rfl rfl rfl rfl rfl rfl (by first | (simp only [cmpP]; omega) | exact rfl) ?_
    | refine s_cmpF rfl rfl rfl rfl rfl rfl rfl (by first | (simp only [cmpP]; omega) | exact rfl) ?_
    | refine s_arith rfl rfl rfl rfl rfl rfl rfl (by first | (exact IntWalk.i64_in _ (by omega)) | (exact IntWalk.u8_in _ (by omega))) ?_
    | refine a_condT rfl ?_
    | refine a_condF rfl ?_
    | refine a_skip ?_
    | refine a_exit ?_
    | refine a_ret ?_
    | refine a_block ?_)
      refine s_build1 tok rfl rfl rfl rfl rfl rfl rfl rfl (fun t => ?_)
      repeat (first
    | refine a_seq ?_
    | refine a_reg ?_
    | refine a_regP mixed (by decide +kernel) ?_
    | refine t_lit tok rfl rfl rfl rfl ?_
    | refine t_im tok rfl rfl rfl rfl ?_
    | refine t_ip tok rfl rfl rfl rfl ?_
    | refine t_pt tok rfl rfl rfl rfl ?_
    | refine t_agg tok rfl rfl rfl rfl ?_
    | refine t_tup tok rfl rfl rfl rfl ?_
    | refine t_fn tok rfl rfl rfl rfl ?_
    | refine AL.nil ?_
    | refine s_skip rfl rfl rfl ?_
    | refine s_cmpT rfl rfl rfl rfl rfl rfl rfl (by first | (simp only [cmpP]; omega) | exact rfl) ?_
    | refine s_cmpF rfl rfl rfl rfl rfl rfl rfl (by first | (simp only [cmpP]; omega) | exact rfl) ?_
    | refine s_arith rfl rfl rfl rfl rfl rfl rfl (by first | (exact IntWalk.i64_in _ (by omega)) | (exact IntWalk.u8_in _ (by omega))) ?_
    | refine a_condT rfl ?_
    | refine a_condF rfl ?_
    | refine a_skip ?_
    | refine a_exit ?_
    | refine a_ret ?_
    | refine a_block ?_)
      refine s_callO 0 rfl rfl rfl rfl rfl rfl (hrg t) (SubL.of_eq rfl) ?_
      rintro _ _ ⟨w, hw, rfl, rfl⟩
      refine s_build1 tok rfl rfl rfl rfl rfl rfl rfl hw (fun u => ?_); refine s_append1 tok 1 rfl rfl rfl rfl rfl rfl (by decide) rfl rfl rfl (by simp [AV.cell, hw]) (by omega) (by omega) (fun v' => ?_)
      repeat (first
    | refine a_seq ?_
    | refine a_reg ?_
    | refine a_regP mixed (by decide +kernel) ?_
    | refine t_lit tok rfl rfl rfl rfl ?_
    | refine t_im tok rfl rfl rfl rfl ?_
    | refine t_ip tok rfl rfl rfl rfl ?_
    | refine t_pt tok rfl rfl rfl rfl ?_
    | refine t_agg tok rfl rfl rfl rfl ?_
    | refine t_tup tok rfl rfl rfl rfl ?_
    | refine t_fn tok rfl rfl rfl rfl ?_
    | refine AL.nil ?_
    | refine s_skip rfl rfl rfl ?_
    | refine s_cmpT rfl rfl rfl rfl rfl rfl rfl (by first | (simp only [cmpP]; omega) | exact rfl) ?_
    | refine s_cmpF rfl rfl rfl rfl rfl rfl rfl (by first | (simp only [cmpP]; omega) | exact rfl) ?_
    | refine s_arith rfl rfl rfl rfl rfl rfl rfl (by first | (exact IntWalk.i64_in _ (by omega)) | (exact IntWalk.u8_in _ (by omega))) ?_
    | refine a_condT rfl ?_
    | refine a_condF rfl ?_
    | refine a_skip ?_
    | refine a_exit ?_
    | refine a_ret ?_
    | refine a_block ?_)
      refine ⟨i + 1, v', vs ++ [w], ⟨by omega, by simp [hvs]⟩, by omega, ?_⟩
      refine GoTo.trans (GoTo.perm (L' := matO 3 36 v' (vs ++ [w]) ((mkM (n + 1) (fun _ _ => far)).take (i + 1))) ?_) (.sub ?_ (OSub.refl _))
      · simp only [matO, htk, List.map_append, List.map_cons, List.map_nil]
        rw [manyO_append (by simp [hvs, mkM_length]; omega)]
        exact (List.Perm.swap _ _ _).trans (List.Perm.cons _ (List.perm_append_singleton _ _).symm)
      · repeat (first | exact subs_nil | refine subs_cons (Sub.of_eq rfl) ?_ | refine subs_cons (Sub.nil _) ?_)
    · obtain rfl : i = n + 1 := by omega
      rw [List.take_of_length_le (by rw [mkM_length]; exact Nat.le_refl _)]
      rw [show mkM (n + 1) (fun _ _ => far) = mkM (n + 1) (stL S (n + 1) (l.take 0) (fun _ _ => far)) from rfl]
      repeat (first
    | refine a_seq ?_
    | refine a_reg ?_
    | refine a_regP mixed (by decide +kernel) ?_
    | refine t_lit tok rfl rfl rfl rfl ?_
    | refine t_im tok rfl rfl rfl rfl ?_
    | refine t_ip tok rfl rfl rfl rfl ?_
    | refine t_pt tok rfl rfl rfl rfl ?_
    | refine t_agg tok rfl rfl rfl rfl ?_
    | refine t_tup tok rfl rfl rfl rfl ?_
    | refine t_fn tok rfl rfl rfl rfl ?_
    | refine AL.nil ?_
    | refine s_skip rfl rfl rfl ?_
    | refine s_cmpT rfl rfl rfl rfl rfl rfl rfl (by first | (simp only [cmpP]; omega) | exact rfl) ?_
    | refine s_cmpF rfl rfl rfl rfl rfl rfl rfl (by first | (simp only [cmpP]; omega) | exact rfl) ?_
    | refine s_arith rfl rfl rfl rfl rfl rfl rfl (by first | (exact IntWalk.i64_in _ (by omega)) | (exact IntWalk.u8_in _ (by omega))) ?_
    | refine a_condT rfl ?_
    | refine a_condF rfl ?_
    | refine a_skip ?_
    | refine a_exit ?_
    | refine a_ret ?_
    | refine a_block ?_)
      refine a_loopX (fun i : Nat => [(0, matA (mkM (n + 1) S)), (5, AI n), (6, .lit v), (25, arcsA l), (26, AI l.length), (27, AI i)]) (fun i => matO 3 36 v vs (mkM (n + 1) (stL S (n + 1) (l.take i) (fun _ _ => far)))) (fun i => i ≤ l.length) (fun i => l.length - i) 0 (Nat.zero_le _) ?_ (OSub.refl _) ?_
      · rw [ll]
        repeat (first | exact subs_nil | refine subs_cons (Sub.of_eq rfl) ?_ | refine subs_cons (Sub.nil _) ?_)
      · intro i hi
        rcases Nat.lt_or_ge i l.length with h1 | h1
        · have hx := List.getElem?_eq_getElem h1
          have hok := hl _ (List.getElem_mem h1)
          have hs : stL S (n + 1) (l.take (i + 1)) (fun _ _ => far) = stTo S l[i] (stL S (n + 1) (l.take i) (fun _ _ => far)) (n + 1) := by
            rw [List.take_succ_eq_append_getElem h1, stL_snoc]
          generalize stL S (n + 1) (l.take i) (fun _ _ => far) = O at *
          generalize l[i] = a at *
          obtain ⟨au, sg, f, t, c⟩ := a
          simp only [AOk] at hok
          obtain ⟨o1, o2, o3, o4⟩ := hok
          have xi : (l.map cA)[(i : Int).toNat]? = some [AI au, AI sg, AI f, AI t, AI c] := map_get hx
          have hu := List.getElem?_eq_getElem (show f < vs.length by omega)
          generalize vs[f] = uf at hu
          have hob := obat_lit (E := 36) hu
          have x1 := mat_row o2 S
          repeat (first
    | refine a_seq ?_
    | refine a_reg ?_
    | refine a_regP mixed (by decide +kernel) ?_
    | refine t_lit tok rfl rfl rfl rfl ?_
    | refine t_im tok rfl rfl rfl rfl ?_
    | refine t_ip tok rfl rfl rfl rfl ?_
    | refine t_pt tok rfl rfl rfl rfl ?_
    | refine t_agg tok rfl rfl rfl rfl ?_
    | refine t_tup tok rfl rfl rfl rfl ?_
    | refine t_fn tok rfl rfl rfl rfl ?_
    | refine AL.nil ?_
    | refine s_skip rfl rfl rfl ?_
    | refine s_cmpT rfl rfl rfl rfl rfl rfl rfl (by first | (simp only [cmpP]; omega) | exact rfl) ?_
    | refine s_cmpF rfl rfl rfl rfl rfl rfl rfl (by first | (simp only [cmpP]; omega) | exact rfl) ?_
    | refine s_arith rfl rfl rfl rfl rfl rfl rfl (by first | (exact IntWalk.i64_in _ (by omega)) | (exact IntWalk.u8_in _ (by omega))) ?_
    | refine s_alloc tok rfl rfl rfl rfl rfl (fun u => ?_)
    | refine s_store tok 0 rfl rfl rfl rfl rfl rfl rfl rfl (by decide) rfl rfl rfl (Nat.le_refl _) ?_
    | refine s_index tok rfl rfl rfl rfl rfl rfl rfl rfl rfl (by omega) xi ?_
    | refine a_condT rfl ?_
    | refine a_condF rfl ?_
    | refine a_skip ?_
    | refine a_exit ?_
    | refine a_ret ?_
    | refine a_block ?_)
          refine a_loopX (fun k : Nat => [(0, matA (mkM (n + 1) S)), (5, AI n), (6, .lit v), (8, .pt u 0 0 0), (25, arcsA l), (26, AI l.length), (27, AI i), (32, AI (n + 1 : Int)), (33, AI k)]) (fun k => (u, .box [AI au, AI sg, AI f, AI t, AI c]) :: matO 3 36 v vs (mkM (n + 1) (stTo S ⟨au, sg, f, t, c⟩ O k))) (fun k => k ≤ n + 1) (fun k => n + 1 - k) 0 (Nat.zero_le _) ?_ (OSub.refl _) ?_
          · repeat (first | exact subs_nil | refine subs_cons (Sub.of_eq rfl) ?_ | refine subs_cons (Sub.nil _) ?_)
          · intro k hk
            rcases Nat.lt_or_ge k (n + 1) with h2 | h2
            · have x2 := row_at h2 (S t)
              have hb := hS t k o2 h2
              have hstep : stTo S ⟨au, sg, f, t, c⟩ O (k + 1) = if S t k < far then updF (stTo S ⟨au, sg, f, t, c⟩ O k) f k (min (stTo S ⟨au, sg, f, t, c⟩ O k f k) (c + S t k)) else stTo S ⟨au, sg, f, t, c⟩ O k := rfl
              generalize stTo S ⟨au, sg, f, t, c⟩ O k = O' at *
              have hg := mat_get (E := 3) (E' := 36) (v := v) (O := O') o1 hu
              have lr : (rowI (mkR (n + 1) (O' f))).length = n + 1 := by simp [mkR_length]
              have lr2 := mkR_length (n + 1) (O' f)
              have hld := row_get h2 (O' f)
              have hf1 : (f : Int) < ((vs.map litR).length : Nat) := by omega
              have hk1 : (k : Int) < ((rowI (mkR (n + 1) (O' f))).length : Nat) := by omega
              have hbu : S t k ≤ 1125899906842624 := hb.2
              generalize hSt : S t k = y at *
              by_cases h3 : y < far
              · rw [if_pos h3] at hstep
                have h3' : y < 1125899906842624 := h3
                repeat (first
    | refine a_seq ?_
    | refine a_reg ?_
    | refine a_regR mixed (by decide +kernel) ?_
    | refine t_lit tok rfl rfl rfl rfl ?_
    | refine t_im tok rfl rfl rfl rfl ?_
    | refine t_ip tok rfl rfl rfl rfl ?_
    | refine t_pt tok rfl rfl rfl rfl ?_
    | refine t_agg tok rfl rfl rfl rfl ?_
    | refine t_tup tok rfl rfl rfl rfl ?_
    | refine t_fn tok rfl rfl rfl rfl ?_
    | refine AL.nil ?_
    | refine s_skip rfl rfl rfl ?_
    | refine s_cmpT rfl rfl rfl rfl rfl rfl rfl (by first | (simp only [cmpP]; omega) | exact rfl) ?_
    | refine s_cmpF rfl rfl rfl rfl rfl rfl rfl (by first | (simp only [cmpP]; omega) | exact rfl) ?_
    | refine s_arith rfl rfl rfl rfl rfl rfl rfl (by first | (exact IntWalk.i64_in _ (by omega)) | (exact IntWalk.u8_in _ (by omega))) ?_
    | refine s_index tok rfl rfl rfl rfl rfl rfl rfl rfl rfl (by omega) x1 ?_
    | refine s_index tok rfl rfl rfl rfl rfl rfl rfl rfl rfl (by omega) x2 ?_
    | refine s_ownLoad tok 0 rfl rfl rfl rfl (by decide) rfl rfl rfl rfl rfl rfl (List.cons_ne_nil _ _) ?_
    | refine s_ownIndex tok 1 rfl rfl rfl rfl (by decide) rfl rfl rfl rfl rfl rfl (by omega) hf1 ?_
    | refine s_ownLoad tok 1 rfl rfl rfl rfl (by decide) rfl rfl rfl rfl hob rfl (List.cons_ne_nil _ _) ?_
    | refine s_ownIndex tok (f + 2) rfl rfl rfl rfl (by decide) rfl rfl rfl hg rfl rfl (by omega) hk1 ?_
    | refine s_loadI tok (f + 2) rfl rfl rfl rfl (by decide) rfl rfl rfl hg hld ?_
    | refine s_storeI tok (f + 2) rfl rfl rfl rfl rfl rfl rfl hg (by omega) ?_
    | refine a_condT rfl ?_
    | refine a_condF rfl ?_
    | refine a_skip ?_
    | refine a_exit ?_
    | refine a_ret ?_
    | refine a_block ?_)
                refine ⟨k + 1, by omega, by omega, ?_, ?_⟩
                · repeat (first | exact subs_nil | refine subs_cons (Sub.of_eq rfl) ?_ | refine subs_cons (Sub.nil _) ?_)
                · rw [hstep, ← mat_set hu]
                  exact OSub.refl _
              · rw [if_neg h3] at hstep
                have h3' : ¬ y < 1125899906842624 := h3
                repeat (first
    | refine a_seq ?_
    | refine a_reg ?_
    | refine a_regR mixed (by decide +kernel) ?_
    | refine t_lit tok rfl rfl rfl rfl ?_
    | refine t_im tok rfl rfl rfl rfl ?_
    | refine t_ip tok rfl rfl rfl rfl ?_
    | refine t_pt tok rfl rfl rfl rfl ?_
    | refine t_agg tok rfl rfl rfl rfl ?_
    | refine t_tup tok rfl rfl rfl rfl ?_
    | refine t_fn tok rfl rfl rfl rfl ?_
    | refine AL.nil ?_
    | refine s_skip rfl rfl rfl ?_
    | refine s_cmpT rfl rfl rfl rfl rfl rfl rfl (by first | (simp only [cmpP]; omega) | exact rfl) ?_
    | refine s_cmpF rfl rfl rfl rfl rfl rfl rfl (by first | (simp only [cmpP]; omega) | exact rfl) ?_
    | refine s_arith rfl rfl rfl rfl rfl rfl rfl (by first | (exact IntWalk.i64_in _ (by omega)) | (exact IntWalk.u8_in _ (by omega))) ?_
    | refine s_index tok rfl rfl rfl rfl rfl rfl rfl rfl rfl (by omega) x1 ?_
    | refine s_index tok rfl rfl rfl rfl rfl rfl rfl rfl rfl (by omega) x2 ?_
    | refine s_ownLoad tok 0 rfl rfl rfl rfl (by decide) rfl rfl rfl rfl rfl rfl (List.cons_ne_nil _ _) ?_
    | refine a_condT rfl ?_
    | refine a_condF rfl ?_
    | refine a_skip ?_
    | refine a_exit ?_
    | refine a_ret ?_
    | refine a_block ?_)
                refine ⟨k + 1, by omega, by omega, ?_, ?_⟩
                · repeat (first | exact subs_nil | refine subs_cons (Sub.of_eq rfl) ?_ | refine subs_cons (Sub.nil _) ?_)
                · rw [hstep]
                  exact OSub.refl _
            · obtain rfl : k = n + 1 := by omega
              repeat (first
    | refine a_seq ?_
    | refine a_reg ?_
    | refine a_regP mixed (by decide +kernel) ?_
    | refine t_lit tok rfl rfl rfl rfl ?_
    | refine t_im tok rfl rfl rfl rfl ?_
    | refine t_ip tok rfl rfl rfl rfl ?_
    | refine t_pt tok rfl rfl rfl rfl ?_
    | refine t_agg tok rfl rfl rfl rfl ?_
    | refine t_tup tok rfl rfl rfl rfl ?_
    | refine t_fn tok rfl rfl rfl rfl ?_
    | refine AL.nil ?_
    | refine s_skip rfl rfl rfl ?_
    | refine s_cmpT rfl rfl rfl rfl rfl rfl rfl (by first | (simp only [cmpP]; omega) | exact rfl) ?_
    | refine s_cmpF rfl rfl rfl rfl rfl rfl rfl (by first | (simp only [cmpP]; omega) | exact rfl) ?_
    | refine s_arith rfl rfl rfl rfl rfl rfl rfl (by first | (exact IntWalk.i64_in _ (by omega)) | (exact IntWalk.u8_in _ (by omega))) ?_
    | refine a_condT rfl ?_
    | refine a_condF rfl ?_
    | refine a_skip ?_
    | refine a_exit ?_
    | refine a_ret ?_
    | refine a_block ?_)
              refine ⟨i + 1, by omega, by omega, ?_, ?_⟩
              · repeat (first | exact subs_nil | refine subs_cons (Sub.of_eq rfl) ?_ | refine subs_cons (Sub.nil _) ?_)
              · rw [hs]
                exact .drop (OSub.refl _)
        · obtain rfl : i = l.length := by omega
          rw [List.take_length]
          repeat (first
    | refine a_seq ?_
    | refine a_reg ?_
    | refine a_regP mixed (by decide +kernel) ?_
    | refine t_lit tok rfl rfl rfl rfl ?_
    | refine t_im tok rfl rfl rfl rfl ?_
    | refine t_ip tok rfl rfl rfl rfl ?_
    | refine t_pt tok rfl rfl rfl rfl ?_
    | refine t_agg tok rfl rfl rfl rfl ?_
    | refine t_tup tok rfl rfl rfl rfl ?_
    | refine t_fn tok rfl rfl rfl rfl ?_
    | refine AL.nil ?_
    | refine s_skip rfl rfl rfl ?_
    | refine s_cmpT rfl rfl rfl rfl rfl rfl rfl (by first | (simp only [cmpP]; omega) | exact rfl) ?_
    | refine s_cmpF rfl rfl rfl rfl rfl rfl rfl (by first | (simp only [cmpP]; omega) | exact rfl) ?_
    | refine s_arith rfl rfl rfl rfl rfl rfl rfl (by first | (exact IntWalk.i64_in _ (by omega)) | (exact IntWalk.u8_in _ (by omega))) ?_
    | refine a_condT rfl ?_
    | refine a_condF rfl ?_
    | refine a_skip ?_
    | refine a_exit ?_
    | refine a_ret ?_
    | refine a_block ?_)
          exact finT (x := .lit _) (.inr rfl) rfl (Turn.trans (turn_mat (by rw [hvs, mkM_length])) (Turn.freeze 0 rfl FZ.here)) ⟨rfl, rfl⟩
end Go.Proofs.Ytniboaekigoheaa
