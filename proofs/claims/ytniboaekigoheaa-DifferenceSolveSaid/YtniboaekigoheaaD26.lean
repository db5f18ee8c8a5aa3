/-
  The law on solutions: the walk.
-/
import Derived.Test.YtniboaekigoheaaD20
import Derived.Test.YtniboaekigoheaaD23
import Derived.Test.YtniboaekigoheaaSjM12
namespace Go.Proofs.Ytniboaekigoheaa
open Go.Sj Go.Sj.Dif
set_option linter.unusedVariables false
set_option maxHeartbeats 4000000

theorem valO_sol {d : List Int} {m : Nat} {v a : Int} (h1 : -1 ≤ v) (h2 : v < m) : valO (solR d m) v a = some (gd d (v + 1).toNat - gd d 0 + a) := by
  by_cases h : v = -1
  · subst h
    simp [valO]
  · have hl := solR_length d m
    obtain ⟨k, rfl⟩ : ∃ k : Nat, v = k := ⟨v.toNat, by omega⟩
    have hk : k < m := by omega
    simp only [valO, if_neg h]
    rw [if_neg (by omega)]
    have : (solR d m).getD k 0 = gd d (k + 1) - gd d 0 := by
      rw [List.getD_eq_getElem?_getD]
      simp [solR, hk]
    rw [show (k : Int).toNat = k by omega, show ((k : Int) + 1).toNat = k + 1 by omega, this]
theorem solve_holds {m : Nat} {l : List Tst} (h0 : validT (m : Int) l = 0) (hb : (distR m (arcsOf l)).2 = true) : ∀ x ∈ l, holdsR x (solR (distR m (arcsOf l)).1 m) = true := by
  obtain ⟨⟨n0, n12⟩, hlen, hl⟩ := validT_zero.1 h0
  have hok := arcsOf_ok hl
  obtain ⟨f1, f2⟩ := distR_facts (aok_inr hok)
  obtain ⟨g1, g2⟩ := f2 hb
  have hs := sol_arcs.1 (isMin_sol (aok_inr hok) g2)
  intro x hx
  have h1 := hs x hx
  have hxo := hl x hx
  generalize (distR m (arcsOf l)).1 = d at *
  obtain ⟨k, lv, la, rv, ra⟩ := x
  obtain ⟨hk, hL, hR⟩ := hxo
  simp only at hk hL hR
  simp only [holdsR]
  rw [valO_sol (by omega) (by omega), valO_sol (by omega) (by omega)]
  simp only
  have e1 := h1 (arcAt 0 ⟨k, lv, la, rv, ra⟩) (by simp [arcsAt])
  simp only [arcAt] at e1
  split
  · exact decide_eq_true (by omega)
  · have k2 : k = 2 := by omega
    have e2 := h1 (opAt 0 ⟨k, lv, la, rv, ra⟩) (by simp [arcsAt, k2])
    simp only [opAt] at e2
    rw [if_pos k2]
    exact decide_eq_true (by omega)

theorem notHolds_spec (x : Tst) (V : List Int) (h1 : InW x.la) (h2 : InW x.ra) (hV : ∀ y ∈ V, InW y) : Pure Try.prog 34 [.agg (cT x), .ip [ints V]] (AB (!holdsR x V)) := by
  have s1 := Holds_spec x V h1 h2 hV
  generalize holdsR x V = R at *
  obtain ⟨k, lv, la, rv, ra⟩ := x
  rw [show cT ⟨k, lv, la, rv, ra⟩ = [AI k, AI lv, AI la, AI rv, AI ra] from rfl] at s1 ⊢
  refine a_enter Try.func34 (by kernel_rfl) rfl Try.ntmps34 rfl (by simp) ?_
  refine a_seq ?_
  refine a_reg ?_
  repeat (first
    | refine a_seq ?_
    | refine t_lit tok rfl rfl rfl rfl ?_
    | refine t_im tok rfl rfl rfl rfl ?_
    | refine t_ip tok rfl rfl rfl rfl ?_
    | refine t_pt tok rfl rfl rfl rfl ?_
    | refine t_agg tok rfl rfl rfl rfl ?_
    | refine t_tup tok rfl rfl rfl rfl ?_
    | refine t_fn tok rfl rfl rfl rfl ?_
    | refine AL.nil ?_
    | refine s_skip rfl rfl rfl ?_
    | refine s_cmpT rfl rfl rfl rfl rfl rfl rfl (by first | (simp only [cmpP]; omega) | exact rfl) ?_
    | refine s_cmpF rfl rfl rfl rfl rfl rfl rfl (by first | (simp only [cmpP]; omega) | exact rfl) ?_
    | refine s_arith rfl rfl rfl rfl rfl rfl rfl (by first | (exact IntWalk.i64_in _ (by omega)) | (exact IntWalk.u8_in _ (by omega))) ?_
    | refine s_box rfl rfl rfl rfl rfl rfl (fun u => ?_)
    | refine a_condT rfl ?_
    | refine a_condF rfl ?_
    | refine a_skip ?_
    | refine a_exit ?_
    | refine a_ret ?_
    | refine a_block ?_)
  refine a_frzBox 0 2 rfl rfl ?_
  repeat (first
    | refine a_seq ?_
    | refine a_reg ?_
    | refine a_regP mixed (by decide +kernel) ?_
    | refine t_lit tok rfl rfl rfl rfl ?_
    | refine t_im tok rfl rfl rfl rfl ?_
    | refine t_ip tok rfl rfl rfl rfl ?_
    | refine t_pt tok rfl rfl rfl rfl ?_
    | refine t_agg tok rfl rfl rfl rfl ?_
    | refine t_tup tok rfl rfl rfl rfl ?_
    | refine t_fn tok rfl rfl rfl rfl ?_
    | refine AL.nil ?_
    | refine s_skip rfl rfl rfl ?_
    | refine s_cmpT rfl rfl rfl rfl rfl rfl rfl (by first | (simp only [cmpP]; omega) | exact rfl) ?_
    | refine s_cmpF rfl rfl rfl rfl rfl rfl rfl (by first | (simp only [cmpP]; omega) | exact rfl) ?_
    | refine s_arith rfl rfl rfl rfl rfl rfl rfl (by first | (exact IntWalk.i64_in _ (by omega)) | (exact IntWalk.u8_in _ (by omega))) ?_
    | refine s_callP rfl rfl rfl rfl rfl (s1) (SubL.of_eq rfl) ?_
    | refine a_condT rfl ?_
    | refine a_condF rfl ?_
    | refine a_skip ?_
    | refine a_exit ?_
    | refine a_ret ?_
    | refine a_block ?_)
  first | refine fin (x := .lit _) (.inr rfl) rfl (Sub.refl _) ?_ (OSub.none _) | refine fin (x := .im _ _) (.inr rfl) rfl (Sub.refl _) ?_ (OSub.none _) | refine fin (x := .tup [.lit _, .lit _]) (.inr rfl) rfl (Sub.refl _) ?_ (OSub.none _) | refine fin (x := .tup [.im _ _, .lit _]) (.inr rfl) rfl (Sub.refl _) ?_ (OSub.none _) | refine fin (x := .tup [.lit _, .lit _, .lit _]) (.inr rfl) rfl (Sub.refl _) ?_ (OSub.none _) | refine fin (x := .agg _) (.inr rfl) rfl (Sub.refl _) ?_ (OSub.none _)
  exact ⟨rfl, rfl⟩
/-- No test is found. -/
theorem IndexFuncT_spec (A : List Tst) (hA : A.length ≤ 1000) (g : FuncId) (caps : List AV) (hg : ∀ a ∈ A, Pure Try.prog g (.agg (cT a) :: caps) (AB false)) :
    Pure Try.prog 60 [testsA A, .fn (.func g) [] caps] (AI (-1)) := by
  have la : (A.map cT).length = A.length := by simp
  refine a_enter Try.func60 (by kernel_rfl) rfl Try.ntmps60 rfl (by simp) ?_
  repeat (first
    | refine a_seq ?_
    | refine a_reg ?_
    | refine a_regP mixed (by decide +kernel) ?_
    | refine t_lit tok rfl rfl rfl rfl ?_
    | refine t_im tok rfl rfl rfl rfl ?_
    | refine t_ip tok rfl rfl rfl rfl ?_
    | refine t_pt tok rfl rfl rfl rfl ?_
    | refine t_agg tok rfl rfl rfl rfl ?_
    | refine t_tup tok rfl rfl rfl rfl ?_
    | refine t_fn tok rfl rfl rfl rfl ?_
    | refine AL.nil ?_
    | refine s_skip rfl rfl rfl ?_
    | refine s_cmpT rfl rfl rfl rfl rfl rfl rfl (by first | (simp only [cmpP]; omega) | exact rfl) ?_
    | refine s_cmpF rfl rfl rfl rfl rfl rfl rfl (by first | (simp only [cmpP]; omega) | exact rfl) ?_
    | refine s_arith rfl rfl rfl rfl rfl rfl rfl (by first | (exact IntWalk.i64_in _ (by omega)) | (exact IntWalk.u8_in _ (by omega))) ?_
    | refine a_condT rfl ?_
    | refine a_condF rfl ?_
    | refine a_skip ?_
    | refine a_exit ?_
    | refine a_ret ?_
    | refine a_block ?_)
  rw [la]
  refine a_loopX (fun k : Nat => [(0, testsA A), (1, .fn (.func g) [] caps), (7, AI A.length), (8, AI k)]) (fun _ => []) (fun k => k ≤ A.length) (fun k => A.length - k) 0 (Nat.zero_le _) ?_ (OSub.refl _) ?_
  · repeat (first | exact subs_nil | refine subs_cons (Sub.of_eq rfl) ?_ | refine subs_cons (Sub.nil _) ?_)
  · intro k hk
    rcases Nat.lt_or_ge k A.length with h | h
    · have hx := List.getElem?_eq_getElem h
      have hc := hg _ (List.getElem_mem h)
      generalize A[k] = a at hx hc
      have xk : (A.map cT)[(k : Int).toNat]? = some (cT a) := map_get hx
      repeat (first
    | refine a_seq ?_
    | refine a_reg ?_
    | refine a_regP mixed (by decide +kernel) ?_
    | refine t_lit tok rfl rfl rfl rfl ?_
    | refine t_im tok rfl rfl rfl rfl ?_
    | refine t_ip tok rfl rfl rfl rfl ?_
    | refine t_pt tok rfl rfl rfl rfl ?_
    | refine t_agg tok rfl rfl rfl rfl ?_
    | refine t_tup tok rfl rfl rfl rfl ?_
    | refine t_fn tok rfl rfl rfl rfl ?_
    | refine AL.nil ?_
    | refine s_skip rfl rfl rfl ?_
    | refine s_cmpT rfl rfl rfl rfl rfl rfl rfl (by first | (simp only [cmpP]; omega) | exact rfl) ?_
    | refine s_cmpF rfl rfl rfl rfl rfl rfl rfl (by first | (simp only [cmpP]; omega) | exact rfl) ?_
    | refine s_arith rfl rfl rfl rfl rfl rfl rfl (by first | (exact IntWalk.i64_in _ (by omega)) | (exact IntWalk.u8_in _ (by omega))) ?_
    | refine s_index tok rfl rfl rfl rfl rfl rfl rfl rfl rfl (by omega) xk ?_
    | refine s_callP rfl rfl rfl rfl rfl (hc) (SubL.of_eq rfl) ?_
    | refine a_condT rfl ?_
    | refine a_condF rfl ?_
    | refine a_skip ?_
    | refine a_exit ?_
    | refine a_ret ?_
    | refine a_block ?_)
      refine ⟨k + 1, by omega, by omega, ?_, OSub.none _⟩
      repeat (first | exact subs_nil | refine subs_cons (Sub.of_eq rfl) ?_ | refine subs_cons (Sub.nil _) ?_)
    · obtain rfl : k = A.length := by omega
      repeat (first
    | refine a_seq ?_
    | refine a_reg ?_
    | refine a_regP mixed (by decide +kernel) ?_
    | refine t_lit tok rfl rfl rfl rfl ?_
    | refine t_im tok rfl rfl rfl rfl ?_
    | refine t_ip tok rfl rfl rfl rfl ?_
    | refine t_pt tok rfl rfl rfl rfl ?_
    | refine t_agg tok rfl rfl rfl rfl ?_
    | refine t_tup tok rfl rfl rfl rfl ?_
    | refine t_fn tok rfl rfl rfl rfl ?_
    | refine AL.nil ?_
    | refine s_skip rfl rfl rfl ?_
    | refine s_cmpT rfl rfl rfl rfl rfl rfl rfl (by first | (simp only [cmpP]; omega) | exact rfl) ?_
    | refine s_cmpF rfl rfl rfl rfl rfl rfl rfl (by first | (simp only [cmpP]; omega) | exact rfl) ?_
    | refine s_arith rfl rfl rfl rfl rfl rfl rfl (by first | (exact IntWalk.i64_in _ (by omega)) | (exact IntWalk.u8_in _ (by omega))) ?_
    | refine a_condT rfl ?_
    | refine a_condF rfl ?_
    | refine a_skip ?_
    | refine a_exit ?_
    | refine a_ret ?_
    | refine a_block ?_)
      first | refine fin (x := .lit _) (.inr rfl) rfl (Sub.refl _) ?_ (OSub.refl _) | refine fin (x := .im _ _) (.inr rfl) rfl (Sub.refl _) ?_ (OSub.refl _) | refine fin (x := .tup [.lit _, .lit _]) (.inr rfl) rfl (Sub.refl _) ?_ (OSub.refl _) | refine fin (x := .tup [.im _ _, .lit _]) (.inr rfl) rfl (Sub.refl _) ?_ (OSub.refl _) | refine fin (x := .tup [.lit _, .lit _, .lit _]) (.inr rfl) rfl (Sub.refl _) ?_ (OSub.refl _) | refine fin (x := .agg _) (.inr rfl) rfl (Sub.refl _) ?_ (OSub.refl _)
      exact ⟨rfl, rfl⟩
theorem ContainsFuncT_spec (A : List Tst) (hA : A.length ≤ 1000) (g : FuncId) (caps : List AV) (hg : ∀ a ∈ A, Pure Try.prog g (.agg (cT a) :: caps) (AB false)) :
    Pure Try.prog 33 [testsA A, .fn (.func g) [] caps] (AB false) := by
  have h := IndexFuncT_spec A hA g caps hg
  refine a_enter Try.func33 (by kernel_rfl) rfl Try.ntmps33 rfl (by simp) ?_
  repeat (first
    | refine a_seq ?_
    | refine a_reg ?_
    | refine a_regP mixed (by decide +kernel) ?_
    | refine t_lit tok rfl rfl rfl rfl ?_
    | refine t_im tok rfl rfl rfl rfl ?_
    | refine t_ip tok rfl rfl rfl rfl ?_
    | refine t_pt tok rfl rfl rfl rfl ?_
    | refine t_agg tok rfl rfl rfl rfl ?_
    | refine t_tup tok rfl rfl rfl rfl ?_
    | refine t_fn tok rfl rfl rfl rfl ?_
    | refine AL.nil ?_
    | refine s_skip rfl rfl rfl ?_
    | refine s_cmpT rfl rfl rfl rfl rfl rfl rfl (by first | (simp only [cmpP]; omega) | exact rfl) ?_
    | refine s_cmpF rfl rfl rfl rfl rfl rfl rfl (by first | (simp only [cmpP]; omega) | exact rfl) ?_
    | refine s_arith rfl rfl rfl rfl rfl rfl rfl (by first | (exact IntWalk.i64_in _ (by omega)) | (exact IntWalk.u8_in _ (by omega))) ?_
    | refine s_callP rfl rfl rfl rfl rfl (h) (SubL.of_eq rfl) ?_
    | refine a_condT rfl ?_
    | refine a_condF rfl ?_
    | refine a_skip ?_
    | refine a_exit ?_
    | refine a_ret ?_
    | refine a_block ?_)
  first | refine fin (x := .lit _) (.inr rfl) rfl (Sub.refl _) ?_ (OSub.none _) | refine fin (x := .im _ _) (.inr rfl) rfl (Sub.refl _) ?_ (OSub.none _) | refine fin (x := .tup [.lit _, .lit _]) (.inr rfl) rfl (Sub.refl _) ?_ (OSub.none _) | refine fin (x := .tup [.im _ _, .lit _]) (.inr rfl) rfl (Sub.refl _) ?_ (OSub.none _) | refine fin (x := .tup [.lit _, .lit _, .lit _]) (.inr rfl) rfl (Sub.refl _) ?_ (OSub.none _) | refine fin (x := .agg _) (.inr rfl) rfl (Sub.refl _) ?_ (OSub.none _)
  exact ⟨rfl, rfl⟩
theorem solR_small {m : Nat} {l : List Tst} (h0 : validT (m : Int) l = 0) (hb : (distR m (arcsOf l)).2 = true) : ∀ y ∈ solR (distR m (arcsOf l)).1 m, InW y := by
  obtain ⟨⟨n0, n12⟩, hlen, hl⟩ := validT_zero.1 h0
  have hok := arcsOf_ok hl
  obtain ⟨f1, f2⟩ := distR_facts (aok_inr hok)
  obtain ⟨g1, g2⟩ := f2 hb
  have g3 := fun i hi => isMin_bound (by omega) hok (f1.1 hb) g2 (i := i) hi
  intro y hy
  simp only [solR, List.mem_map, List.mem_range] at hy
  obtain ⟨i, hi, rfl⟩ := hy
  have b1 := g3 0 (by omega)
  have b2 := g3 (i + 1) (by omega)
  exact ⟨by omega, by omega⟩
theorem solve_cases (n : Int) (l : List Tst) : (solveR n l).1.length ≤ 1000 ∧ ((solveR n l).2 = 0 → (∀ x ∈ l, InW x.la ∧ InW x.ra ∧ holdsR x (solveR n l).1 = true) ∧ ∀ y ∈ (solveR n l).1, InW y) := by
  by_cases h0 : validT n l = 0
  · obtain ⟨⟨n0, n12⟩, hlen, hl⟩ := validT_zero.1 h0
    obtain ⟨m, rfl⟩ : ∃ m : Nat, n = m := ⟨n.toNat, by omega⟩
    rw [show solveR (m : Int) l = if (distR m (arcsOf l)).2 = true then (solR (distR m (arcsOf l)).1 m, 0) else ([], 10) by simp only [solveR, h0, ne_eq, not_true_eq_false, if_false, Int.toNat_natCast]]
    by_cases hb : (distR m (arcsOf l)).2 = true
    · rw [if_pos hb]
      refine ⟨by simp only [solR_length]; omega, fun _ => ⟨fun x hx => ?_, solR_small h0 hb⟩⟩
      obtain ⟨hk, hL, hR⟩ := hl x hx
      exact ⟨⟨by omega, by omega⟩, ⟨by omega, by omega⟩, solve_holds h0 hb x hx⟩
    · rw [if_neg hb]
      exact ⟨by simp, fun h => by simp at h⟩
  · rw [show solveR n l = ([], validT n l) by simp only [solveR, if_pos h0]]
    exact ⟨by simp, fun h => absurd h h0⟩
theorem DifferenceSolve_spec (n : Int) (l : List Tst) : Pure Try.prog 10 [AI n, testsA l] (AB true) := by
  have ll : (l.map cT).length = l.length := by simp
  by_cases h : 45 < l.length
  · refine a_enter Try.func10 (by kernel_rfl) rfl Try.ntmps10 rfl (by simp) ?_
    repeat (first
    | refine a_seq ?_
    | refine a_reg ?_
    | refine a_regP mixed (by decide +kernel) ?_
    | refine t_lit tok rfl rfl rfl rfl ?_
    | refine t_im tok rfl rfl rfl rfl ?_
    | refine t_ip tok rfl rfl rfl rfl ?_
    | refine t_pt tok rfl rfl rfl rfl ?_
    | refine t_agg tok rfl rfl rfl rfl ?_
    | refine t_tup tok rfl rfl rfl rfl ?_
    | refine t_fn tok rfl rfl rfl rfl ?_
    | refine AL.nil ?_
    | refine s_skip rfl rfl rfl ?_
    | refine s_cmpT rfl rfl rfl rfl rfl rfl rfl (by first | (simp only [cmpP]; omega) | exact rfl) ?_
    | refine s_cmpF rfl rfl rfl rfl rfl rfl rfl (by first | (simp only [cmpP]; omega) | exact rfl) ?_
    | refine s_arith rfl rfl rfl rfl rfl rfl rfl (by first | (exact IntWalk.i64_in _ (by omega)) | (exact IntWalk.u8_in _ (by omega))) ?_
    | refine s_callP rfl rfl rfl rfl rfl (awake_spec) (SubL.of_eq rfl) ?_
    | refine a_condT rfl ?_
    | refine a_condF rfl ?_
    | refine a_skip ?_
    | refine a_exit ?_
    | refine a_ret ?_
    | refine a_block ?_)
    first | refine fin (x := .lit _) (.inr rfl) rfl (Sub.refl _) ?_ (OSub.none _) | refine fin (x := .im _ _) (.inr rfl) rfl (Sub.refl _) ?_ (OSub.none _) | refine fin (x := .tup [.lit _, .lit _]) (.inr rfl) rfl (Sub.refl _) ?_ (OSub.none _) | refine fin (x := .tup [.im _ _, .lit _]) (.inr rfl) rfl (Sub.refl _) ?_ (OSub.none _) | refine fin (x := .tup [.lit _, .lit _, .lit _]) (.inr rfl) rfl (Sub.refl _) ?_ (OSub.none _) | refine fin (x := .agg _) (.inr rfl) rfl (Sub.refl _) ?_ (OSub.none _)
    exact ⟨rfl, rfl⟩
  · have s1 := (CloneT_spec l (by omega)).pure
    have s2 := Solve_spec n l
    have s3 := refSolve_spec n l
    have s4 := Valid_spec n l
    have s5 := refValid_spec n l
    obtain ⟨c1, c2⟩ := solve_cases n l
    generalize validT n l = e0 at *
    by_cases h0 : (solveR n l).2 = 0
    · obtain ⟨c3, c4⟩ := c2 h0
      rw [h0] at s2 s3
      generalize (solveR n l).1 = V at *
      have s6 := Equal_spec V V (by omega) (by omega)
      rw [show decide (V = V) = true by simp] at s6
      have s7 := ContainsFuncT_spec l (by omega) 34 [.ip [ints V]] (fun x hx => by
        obtain ⟨a1, a2, a3⟩ := c3 x hx
        have := notHolds_spec x V a1 a2 c4
        rw [a3] at this
        exact this)
      refine a_enter Try.func10 (by kernel_rfl) rfl Try.ntmps10 rfl (by simp) ?_
      repeat (first
    | refine a_seq ?_
    | refine a_reg ?_
    | refine a_regP mixed (by decide +kernel) ?_
    | refine t_lit tok rfl rfl rfl rfl ?_
    | refine t_im tok rfl rfl rfl rfl ?_
    | refine t_ip tok rfl rfl rfl rfl ?_
    | refine t_pt tok rfl rfl rfl rfl ?_
    | refine t_agg tok rfl rfl rfl rfl ?_
    | refine t_tup tok rfl rfl rfl rfl ?_
    | refine t_fn tok rfl rfl rfl rfl ?_
    | refine AL.nil ?_
    | refine s_skip rfl rfl rfl ?_
    | refine s_cmpT rfl rfl rfl rfl rfl rfl rfl (by first | (simp only [cmpP]; omega) | exact rfl) ?_
    | refine s_cmpF rfl rfl rfl rfl rfl rfl rfl (by first | (simp only [cmpP]; omega) | exact rfl) ?_
    | refine s_arith rfl rfl rfl rfl rfl rfl rfl (by first | (exact IntWalk.i64_in _ (by omega)) | (exact IntWalk.u8_in _ (by omega))) ?_
    | refine s_callP rfl rfl rfl rfl rfl (awake_spec) (SubL.of_eq rfl) ?_
    | refine a_condT rfl ?_
    | refine a_condF rfl ?_
    | refine a_skip ?_
    | refine a_exit ?_
    | refine a_ret ?_
    | refine a_block ?_)
      repeat (first
    | refine a_seq ?_
    | refine t_lit tok rfl rfl rfl rfl ?_
    | refine t_im tok rfl rfl rfl rfl ?_
    | refine t_ip tok rfl rfl rfl rfl ?_
    | refine t_pt tok rfl rfl rfl rfl ?_
    | refine t_agg tok rfl rfl rfl rfl ?_
    | refine t_tup tok rfl rfl rfl rfl ?_
    | refine t_fn tok rfl rfl rfl rfl ?_
    | refine AL.nil ?_
    | refine s_skip rfl rfl rfl ?_
    | refine s_cmpT rfl rfl rfl rfl rfl rfl rfl (by first | (simp only [cmpP]; omega) | exact rfl) ?_
    | refine s_cmpF rfl rfl rfl rfl rfl rfl rfl (by first | (simp only [cmpP]; omega) | exact rfl) ?_
    | refine s_arith rfl rfl rfl rfl rfl rfl rfl (by first | (exact IntWalk.i64_in _ (by omega)) | (exact IntWalk.u8_in _ (by omega))) ?_
    | refine s_callP rfl rfl rfl rfl rfl (s1) (SubL.of_eq rfl) ?_
    | refine s_callP rfl rfl rfl rfl rfl (s2) (SubL.of_eq rfl) ?_
    | refine s_alloc tok rfl rfl rfl rfl rfl (fun u => ?_)
    | refine s_store tok 0 rfl rfl rfl rfl rfl rfl rfl rfl (by decide) rfl rfl rfl (Nat.le_refl _) ?_
    | refine a_condT rfl ?_
    | refine a_condF rfl ?_
    | refine a_skip ?_
    | refine a_exit ?_
    | refine a_ret ?_
    | refine a_block ?_)
      refine a_frzBox 0 5 rfl rfl ?_
      repeat (first
    | refine a_seq ?_
    | refine a_reg ?_
    | refine a_regP mixed (by decide +kernel) ?_
    | refine t_lit tok rfl rfl rfl rfl ?_
    | refine t_im tok rfl rfl rfl rfl ?_
    | refine t_ip tok rfl rfl rfl rfl ?_
    | refine t_pt tok rfl rfl rfl rfl ?_
    | refine t_agg tok rfl rfl rfl rfl ?_
    | refine t_tup tok rfl rfl rfl rfl ?_
    | refine t_fn tok rfl rfl rfl rfl ?_
    | refine AL.nil ?_
    | refine s_skip rfl rfl rfl ?_
    | refine s_cmpT rfl rfl rfl rfl rfl rfl rfl (by first | (simp only [cmpP]; omega) | exact rfl) ?_
    | refine s_cmpF rfl rfl rfl rfl rfl rfl rfl (by first | (simp only [cmpP]; omega) | exact rfl) ?_
    | refine s_arith rfl rfl rfl rfl rfl rfl rfl (by first | (exact IntWalk.i64_in _ (by omega)) | (exact IntWalk.u8_in _ (by omega))) ?_
    | refine s_callP rfl rfl rfl rfl rfl (s1) (SubL.of_eq rfl) ?_
    | refine s_callP rfl rfl rfl rfl rfl (s3) (SubL.of_eq rfl) ?_
    | refine s_callP rfl rfl rfl rfl rfl (s4) (SubL.of_eq rfl) ?_
    | refine s_callP rfl rfl rfl rfl rfl (s5) (SubL.of_eq rfl) ?_
    | refine s_callP rfl rfl rfl rfl rfl (s6) (SubL.of_eq rfl) ?_
    | refine s_callP rfl rfl rfl rfl rfl (s7) (SubL.of_eq rfl) ?_
    | refine a_condT rfl ?_
    | refine a_condF rfl ?_
    | refine a_skip ?_
    | refine a_exit ?_
    | refine a_ret ?_
    | refine a_block ?_)
      first | refine fin (x := .lit _) (.inr rfl) rfl (Sub.refl _) ?_ (OSub.none _) | refine fin (x := .im _ _) (.inr rfl) rfl (Sub.refl _) ?_ (OSub.none _) | refine fin (x := .tup [.lit _, .lit _]) (.inr rfl) rfl (Sub.refl _) ?_ (OSub.none _) | refine fin (x := .tup [.im _ _, .lit _]) (.inr rfl) rfl (Sub.refl _) ?_ (OSub.none _) | refine fin (x := .tup [.lit _, .lit _, .lit _]) (.inr rfl) rfl (Sub.refl _) ?_ (OSub.none _) | refine fin (x := .agg _) (.inr rfl) rfl (Sub.refl _) ?_ (OSub.none _)
      exact ⟨rfl, rfl⟩
    · generalize (solveR n l).1 = V at *
      generalize (solveR n l).2 = e at *
      have s6 := Equal_spec V V (by omega) (by omega)
      rw [show decide (V = V) = true by simp] at s6
      refine a_enter Try.func10 (by kernel_rfl) rfl Try.ntmps10 rfl (by simp) ?_
      repeat (first
    | refine a_seq ?_
    | refine a_reg ?_
    | refine a_regP mixed (by decide +kernel) ?_
    | refine t_lit tok rfl rfl rfl rfl ?_
    | refine t_im tok rfl rfl rfl rfl ?_
    | refine t_ip tok rfl rfl rfl rfl ?_
    | refine t_pt tok rfl rfl rfl rfl ?_
    | refine t_agg tok rfl rfl rfl rfl ?_
    | refine t_tup tok rfl rfl rfl rfl ?_
    | refine t_fn tok rfl rfl rfl rfl ?_
    | refine AL.nil ?_
    | refine s_skip rfl rfl rfl ?_
    | refine s_cmpT rfl rfl rfl rfl rfl rfl rfl (by first | (simp only [cmpP]; omega) | exact rfl) ?_
    | refine s_cmpF rfl rfl rfl rfl rfl rfl rfl (by first | (simp only [cmpP]; omega) | exact rfl) ?_
    | refine s_arith rfl rfl rfl rfl rfl rfl rfl (by first | (exact IntWalk.i64_in _ (by omega)) | (exact IntWalk.u8_in _ (by omega))) ?_
    | refine s_callP rfl rfl rfl rfl rfl (awake_spec) (SubL.of_eq rfl) ?_
    | refine a_condT rfl ?_
    | refine a_condF rfl ?_
    | refine a_skip ?_
    | refine a_exit ?_
    | refine a_ret ?_
    | refine a_block ?_)
      repeat (first
    | refine a_seq ?_
    | refine t_lit tok rfl rfl rfl rfl ?_
    | refine t_im tok rfl rfl rfl rfl ?_
    | refine t_ip tok rfl rfl rfl rfl ?_
    | refine t_pt tok rfl rfl rfl rfl ?_
    | refine t_agg tok rfl rfl rfl rfl ?_
    | refine t_tup tok rfl rfl rfl rfl ?_
    | refine t_fn tok rfl rfl rfl rfl ?_
    | refine AL.nil ?_
    | refine s_skip rfl rfl rfl ?_
    | refine s_cmpT rfl rfl rfl rfl rfl rfl rfl (by first | (simp only [cmpP]; omega) | exact rfl) ?_
    | refine s_cmpF rfl rfl rfl rfl rfl rfl rfl (by first | (simp only [cmpP]; omega) | exact rfl) ?_
    | refine s_arith rfl rfl rfl rfl rfl rfl rfl (by first | (exact IntWalk.i64_in _ (by omega)) | (exact IntWalk.u8_in _ (by omega))) ?_
    | refine s_callP rfl rfl rfl rfl rfl (s1) (SubL.of_eq rfl) ?_
    | refine s_callP rfl rfl rfl rfl rfl (s2) (SubL.of_eq rfl) ?_
    | refine s_alloc tok rfl rfl rfl rfl rfl (fun u => ?_)
    | refine s_store tok 0 rfl rfl rfl rfl rfl rfl rfl rfl (by decide) rfl rfl rfl (Nat.le_refl _) ?_
    | refine a_condT rfl ?_
    | refine a_condF rfl ?_
    | refine a_skip ?_
    | refine a_exit ?_
    | refine a_ret ?_
    | refine a_block ?_)
      refine a_frzBox 0 5 rfl rfl ?_
      repeat (first
    | refine a_seq ?_
    | refine a_reg ?_
    | refine a_regP mixed (by decide +kernel) ?_
    | refine t_lit tok rfl rfl rfl rfl ?_
    | refine t_im tok rfl rfl rfl rfl ?_
    | refine t_ip tok rfl rfl rfl rfl ?_
    | refine t_pt tok rfl rfl rfl rfl ?_
    | refine t_agg tok rfl rfl rfl rfl ?_
    | refine t_tup tok rfl rfl rfl rfl ?_
    | refine t_fn tok rfl rfl rfl rfl ?_
    | refine AL.nil ?_
    | refine s_skip rfl rfl rfl ?_
    | refine s_cmpT rfl rfl rfl rfl rfl rfl rfl (by first | (simp only [cmpP]; omega) | exact rfl) ?_
    | refine s_cmpF rfl rfl rfl rfl rfl rfl rfl (by first | (simp only [cmpP]; omega) | exact rfl) ?_
    | refine s_arith rfl rfl rfl rfl rfl rfl rfl (by first | (exact IntWalk.i64_in _ (by omega)) | (exact IntWalk.u8_in _ (by omega))) ?_
    | refine s_callP rfl rfl rfl rfl rfl (s1) (SubL.of_eq rfl) ?_
    | refine s_callP rfl rfl rfl rfl rfl (s3) (SubL.of_eq rfl) ?_
    | refine s_callP rfl rfl rfl rfl rfl (s4) (SubL.of_eq rfl) ?_
    | refine s_callP rfl rfl rfl rfl rfl (s5) (SubL.of_eq rfl) ?_
    | refine s_callP rfl rfl rfl rfl rfl (s6) (SubL.of_eq rfl) ?_
    | refine a_condT rfl ?_
    | refine a_condF rfl ?_
    | refine a_skip ?_
    | refine a_exit ?_
    | refine a_ret ?_
    | refine a_block ?_)
      first | refine fin (x := .lit _) (.inr rfl) rfl (Sub.refl _) ?_ (OSub.none _) | refine fin (x := .im _ _) (.inr rfl) rfl (Sub.refl _) ?_ (OSub.none _) | refine fin (x := .tup [.lit _, .lit _]) (.inr rfl) rfl (Sub.refl _) ?_ (OSub.none _) | refine fin (x := .tup [.im _ _, .lit _]) (.inr rfl) rfl (Sub.refl _) ?_ (OSub.none _) | refine fin (x := .tup [.lit _, .lit _, .lit _]) (.inr rfl) rfl (Sub.refl _) ?_ (OSub.none _) | refine fin (x := .agg _) (.inr rfl) rfl (Sub.refl _) ?_ (OSub.none _)
      exact ⟨rfl, rfl⟩
end Go.Proofs.Ytniboaekigoheaa
