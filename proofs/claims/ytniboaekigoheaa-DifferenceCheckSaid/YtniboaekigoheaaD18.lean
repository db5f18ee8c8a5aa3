/-
  Refutations that are checked, by the reference; the law on these checks: the walk.
-/
import Derived.Test.YtniboaekigoheaaD17
namespace Go.Proofs.Ytniboaekigoheaa
open Go.Sj Go.Sj.Dif
set_option linter.unusedVariables false
set_option maxHeartbeats 4000000

theorem lst_app {A : List Ar} {s : List (Int × Int)} : ∀ {r : List (Int × Int)} {L M : List Ar}, lstU A r = some L → lstU A (r ++ s) = some M → ∃ K, M = L ++ K
  | [], L, M, h, _ => by simp only [lstU, Option.some.injEq] at h; subst h; exact ⟨M, rfl⟩
  | u :: r, L, M, h, h2 => by
    simp only [List.cons_append, lstU] at h h2
    split at h
    · rename_i a L' e1 e2
      rw [e1] at h2
      split at h2
      · rename_i a' M' e3 e4
        simp only [Option.some.injEq] at h h2 e3
        obtain ⟨K, hK⟩ := lst_app e2 e4
        subst h h2 e3 hK
        exact ⟨K, rfl⟩
      · cases h2
    · cases h
theorem cyc_pre {K : List Ar} : ∀ {L : List Ar} {p : Nat}, cycB p (L ++ K) = true → cycB p L = true
  | [], _, _ => rfl
  | a :: L, p, h => by
    simp only [List.cons_append, cycB, Bool.and_eq_true] at h ⊢
    exact ⟨h.1, cyc_pre h.2⟩
theorem cyc_from {L : List Ar} {p q : Nat} (h : L ≠ []) (e : cycB p L = true) : cycB (stP L) L = true := by
  cases L with
  | nil => rfl
  | cons b w =>
    simp only [cycB, stP, Bool.and_eq_true, decide_eq_true_eq] at e ⊢
    exact ⟨trivial, e.2⟩
/-- A chain that is broken early is no cycle. -/
theorem chk_broken {A : List Ar} {r s : List (Int × Int)} {L : List Ar} (h : lstU A r = some L) (hne : L ≠ []) (hb : cycB (stP L) L = false) : chkL (lstU A (r ++ s)) = false := by
  cases e : lstU A (r ++ s) with
  | none => rfl
  | some M =>
    obtain ⟨K, rfl⟩ := lst_app h e
    simp only [chkL]
    cases e2 : cycB (enP (L ++ K)) (L ++ K) with
    | false => rfl
    | true => rw [cyc_from (q := 0) hne (cyc_pre e2)] at hb; cases hb
theorem chk_end {L : List Ar} (hne : L ≠ []) (hc : cycB (stP L) L = true) : chkL (some L) = (decide ((enP L : Int) = (stP L : Int)) && decide (wt L < 0)) := by
  simp only [chkL]
  cases L with
  | nil => exact absurd rfl hne
  | cons b w =>
    generalize enP (b :: w) = p
    simp only [cycB, stP, decide_true, Bool.true_and] at hc ⊢
    rw [hc, Bool.and_true]
    congr 1
    exact decide_eq_decide.2 ⟨fun h => by omega, fun h => by omega⟩
theorem stP_two (b : Ar) (w K : List Ar) : stP (b :: w ++ K) = b.f := rfl
def fdB : List Ar → Option Ar → Bool
  | _, none => false
  | [], some _ => true
  | b :: w, some a => decide (a.f = enP (b :: w))

theorem refCheckRefute_spec (n : Int) (l : List Tst) (r : List (Int × Int)) : Pure Try.prog 27 [AI n, testsA l, usesQ r] (AB (checkR n l r)) := by
  have hV := refValid_spec n l
  have lr : (r.map cQ).length = r.length := by simp
  by_cases h0 : validT n l = 0
  · rw [h0] at hV
    by_cases h1 : r.length = 0
    · rw [show checkR n l r = false by simp only [checkR]; rw [decide_eq_false (by omega)]; rfl]
      refine a_enter Try.func27 (by kernel_rfl) rfl Try.ntmps27 rfl (by simp) ?_
      repeat (first
    | refine a_seq ?_
    | refine a_reg ?_
    | refine a_regP mixed (by decide +kernel) ?_
    | refine t_lit tok rfl rfl rfl rfl ?_
    | refine t_im tok rfl rfl rfl rfl ?_
    | refine t_ip tok rfl rfl rfl rfl ?_
    | refine t_pt tok rfl rfl rfl rfl ?_
    | refine t_agg tok rfl rfl rfl rfl ?_
    | refine t_tup tok rfl rfl rfl rfl ?_
    | refine t_fn tok rfl rfl rfl rfl ?_
    | refine AL.nil ?_
    | refine s_skip rfl rfl rfl ?_
    | refine s_cmpT rfl rfl rfl rfl rfl rfl rfl (by first | (simp only [cmpP]; omega) | exact rfl) ?_
    | refine s_cmpF rfl rfl rfl rfl rfl rfl rfl (by first | (simp only [cmpP]; omega) | exact rfl) ?_
    | refine s_arith rfl rfl rfl rfl rfl rfl rfl (by first | (exact IntWalk.i64_in _ (by omega)) | (exact IntWalk.u8_in _ (by omega))) ?_
    | refine s_callP rfl rfl rfl rfl rfl (hV) (SubL.of_eq rfl) ?_
    | refine a_condT rfl ?_
    | refine a_condF rfl ?_
    | refine a_skip ?_
    | refine a_exit ?_
    | refine a_ret ?_
    | refine a_block ?_)
      first | refine fin (x := .lit _) (.inr rfl) rfl (Sub.refl _) ?_ (OSub.refl _) | refine fin (x := .im _ _) (.inr rfl) rfl (Sub.refl _) ?_ (OSub.refl _) | refine fin (x := .tup [.lit _, .lit _]) (.inr rfl) rfl (Sub.refl _) ?_ (OSub.refl _) | refine fin (x := .tup [.im _ _, .lit _]) (.inr rfl) rfl (Sub.refl _) ?_ (OSub.refl _) | refine fin (x := .tup [.lit _, .lit _, .lit _]) (.inr rfl) rfl (Sub.refl _) ?_ (OSub.refl _) | refine fin (x := .agg _) (.inr rfl) rfl (Sub.refl _) ?_ (OSub.refl _)
      exact ⟨rfl, rfl⟩
    · by_cases h2 : 40 < r.length
      · rw [show checkR n l r = false by simp only [checkR]; rw [decide_eq_false (by omega)]; rfl]
        refine a_enter Try.func27 (by kernel_rfl) rfl Try.ntmps27 rfl (by simp) ?_
        repeat (first
    | refine a_seq ?_
    | refine a_reg ?_
    | refine a_regP mixed (by decide +kernel) ?_
    | refine t_lit tok rfl rfl rfl rfl ?_
    | refine t_im tok rfl rfl rfl rfl ?_
    | refine t_ip tok rfl rfl rfl rfl ?_
    | refine t_pt tok rfl rfl rfl rfl ?_
    | refine t_agg tok rfl rfl rfl rfl ?_
    | refine t_tup tok rfl rfl rfl rfl ?_
    | refine t_fn tok rfl rfl rfl rfl ?_
    | refine AL.nil ?_
    | refine s_skip rfl rfl rfl ?_
    | refine s_cmpT rfl rfl rfl rfl rfl rfl rfl (by first | (simp only [cmpP]; omega) | exact rfl) ?_
    | refine s_cmpF rfl rfl rfl rfl rfl rfl rfl (by first | (simp only [cmpP]; omega) | exact rfl) ?_
    | refine s_arith rfl rfl rfl rfl rfl rfl rfl (by first | (exact IntWalk.i64_in _ (by omega)) | (exact IntWalk.u8_in _ (by omega))) ?_
    | refine s_callP rfl rfl rfl rfl rfl (hV) (SubL.of_eq rfl) ?_
    | refine a_condT rfl ?_
    | refine a_condF rfl ?_
    | refine a_skip ?_
    | refine a_exit ?_
    | refine a_ret ?_
    | refine a_block ?_)
        first | refine fin (x := .lit _) (.inr rfl) rfl (Sub.refl _) ?_ (OSub.refl _) | refine fin (x := .im _ _) (.inr rfl) rfl (Sub.refl _) ?_ (OSub.refl _) | refine fin (x := .tup [.lit _, .lit _]) (.inr rfl) rfl (Sub.refl _) ?_ (OSub.refl _) | refine fin (x := .tup [.im _ _, .lit _]) (.inr rfl) rfl (Sub.refl _) ?_ (OSub.refl _) | refine fin (x := .tup [.lit _, .lit _, .lit _]) (.inr rfl) rfl (Sub.refl _) ?_ (OSub.refl _) | refine fin (x := .agg _) (.inr rfl) rfl (Sub.refl _) ?_ (OSub.refl _)
        exact ⟨rfl, rfl⟩
      · obtain ⟨⟨n0, n12⟩, hlen, hl⟩ := validT_zero.1 h0
        obtain ⟨m, rfl⟩ : ∃ m : Nat, n = m := ⟨n.toNat, by omega⟩
        have hA := (refArcs_spec n12 l hl (by omega)).pure
        have hok := arcsOf_ok hl
        have hal : (arcsOf l).length ≤ 80 := by
          have := arcsF_length 0 l
          simp only [arcsOf]; omega
        have hR : checkR (m : Int) l r = chkL (lstU (arcsOf l) r) := by
          simp only [checkR]; rw [decide_eq_true ⟨h0, by omega, by omega⟩, Bool.true_and]
          cases lstU (arcsOf l) r <;> rfl
        rw [hR]
        clear hR
        have huq := uq_of l
        generalize arcsOf l = A at *
        have la : (A.map cA).length = A.length := by simp
        refine a_enter Try.func27 (by kernel_rfl) rfl Try.ntmps27 rfl (by simp) ?_
        repeat (first
    | refine a_seq ?_
    | refine a_reg ?_
    | refine a_regP mixed (by decide +kernel) ?_
    | refine t_lit tok rfl rfl rfl rfl ?_
    | refine t_im tok rfl rfl rfl rfl ?_
    | refine t_ip tok rfl rfl rfl rfl ?_
    | refine t_pt tok rfl rfl rfl rfl ?_
    | refine t_agg tok rfl rfl rfl rfl ?_
    | refine t_tup tok rfl rfl rfl rfl ?_
    | refine t_fn tok rfl rfl rfl rfl ?_
    | refine AL.nil ?_
    | refine s_skip rfl rfl rfl ?_
    | refine s_cmpT rfl rfl rfl rfl rfl rfl rfl (by first | (simp only [cmpP]; omega) | exact rfl) ?_
    | refine s_cmpF rfl rfl rfl rfl rfl rfl rfl (by first | (simp only [cmpP]; omega) | exact rfl) ?_
    | refine s_arith rfl rfl rfl rfl rfl rfl rfl (by first | (exact IntWalk.i64_in _ (by omega)) | (exact IntWalk.u8_in _ (by omega))) ?_
    | refine s_callP rfl rfl rfl rfl rfl (hV) (SubL.of_eq rfl) ?_
    | refine s_callP rfl rfl rfl rfl rfl (hA) (SubL.of_eq rfl) ?_
    | refine a_condT rfl ?_
    | refine a_condF rfl ?_
    | refine a_skip ?_
    | refine a_exit ?_
    | refine a_ret ?_
    | refine a_block ?_)
        refine a_loop2 (fun (i : Nat) (L : List Ar) => [(2, usesQ r), (7, arcsA A), (8, AI (stP L)), (9, AI (enP L)), (10, AI (wt L)), (11, AI i)]) (fun i L => []) (fun i L => i ≤ r.length ∧ lstU A (r.take i) = some L ∧ cycB (stP L) L = true) (fun i _ => r.length - i) 0 [] ⟨Nat.zero_le _, rfl, rfl⟩ ?_ (OSub.refl _) ?_
        · repeat (first | exact subs_nil | refine subs_cons (Sub.of_eq rfl) ?_ | refine subs_cons (Sub.nil _) ?_)
        · rintro i L ⟨hi, hL, hcy⟩
          obtain ⟨m1, m2⟩ := lst_mem hL
          rw [List.length_take, Nat.min_eq_left hi] at m2
          have hLo : ∀ b ∈ L, AOk m b := fun b hb => hok b (m1 b hb)
          have hw := wt_all (n := m) (ps := L) hLo
          rcases Nat.lt_or_ge i r.length with h3 | h3
          · have hx := List.getElem?_eq_getElem h3
            have htk : r.take (i + 1) = r.take i ++ [r[i]] := List.take_succ_eq_append_getElem h3
            have hdr : r = r.take i ++ r[i] :: r.drop (i + 1) := by rw [← List.drop_eq_getElem_cons h3, List.take_append_drop]
            have hdr2 : r = r.take (i + 1) ++ r.drop (i + 1) := (List.take_append_drop _ _).symm
            generalize r[i] = u at hx htk hdr
            have hsn := lst_snoc (A := A) (u := u) (r := r.take i)
            rw [hL, ← htk] at hsn
            obtain ⟨u1, u2⟩ := u
            have xi : (r.map cQ)[(i : Int).toNat]? = some (cIs [u1, u2]) := map_get hx
            repeat (first
    | refine a_seq ?_
    | refine a_reg ?_
    | refine a_regP mixed (by decide +kernel) ?_
    | refine t_lit tok rfl rfl rfl rfl ?_
    | refine t_im tok rfl rfl rfl rfl ?_
    | refine t_ip tok rfl rfl rfl rfl ?_
    | refine t_pt tok rfl rfl rfl rfl ?_
    | refine t_agg tok rfl rfl rfl rfl ?_
    | refine t_tup tok rfl rfl rfl rfl ?_
    | refine t_fn tok rfl rfl rfl rfl ?_
    | refine AL.nil ?_
    | refine s_skip rfl rfl rfl ?_
    | refine s_cmpT rfl rfl rfl rfl rfl rfl rfl (by first | (simp only [cmpP]; omega) | exact rfl) ?_
    | refine s_cmpF rfl rfl rfl rfl rfl rfl rfl (by first | (simp only [cmpP]; omega) | exact rfl) ?_
    | refine s_arith rfl rfl rfl rfl rfl rfl rfl (by first | (exact IntWalk.i64_in _ (by omega)) | (exact IntWalk.u8_in _ (by omega))) ?_
    | refine a_condT rfl ?_
    | refine a_condF rfl ?_
    | refine a_skip ?_
    | refine a_exit ?_
    | refine a_ret ?_
    | refine a_block ?_)
            refine a_loop2 (fun (k : Nat) (o : Option Ar) => [(2, usesQ r), (7, arcsA A), (8, AI (stP (L ++ o.toList))), (9, AI (enP (L ++ o.toList))), (10, AI (wt (L ++ o.toList))), (11, AI i), (12, AB (fdB L o)), (13, AI k)]) (fun k o => []) (fun k o => k ≤ A.length ∧ (o = none → ∀ a ∈ A.take k, isU (u1, u2) a = false) ∧ ∀ a, o = some a → A.find? (isU (u1, u2)) = some a ∧ ∃ j, j < k ∧ A[j]? = some a) (fun k _ => A.length - k) 0 none ⟨Nat.zero_le _, by simp, by simp⟩ ?_ (OSub.refl _) ?_
            · rw [show L ++ (none : Option Ar).toList = L by simp, show fdB L none = false by cases L <;> rfl]
              repeat (first | exact subs_nil | refine subs_cons (Sub.of_eq rfl) ?_ | refine subs_cons (Sub.nil _) ?_)
            · rintro k o ⟨hk, hn, hs⟩
              cases hfd : fdB L o with
              | true =>
                cases o with
                | none => cases L <;> cases hfd
                | some a =>
                  obtain ⟨g1, g2⟩ := hs a rfl
                  rw [g1] at hsn
                  simp only at hsn
                  rcases Nat.lt_or_ge k A.length with h4 | h4
                  · repeat (first
    | refine a_seq ?_
    | refine a_reg ?_
    | refine a_regP mixed (by decide +kernel) ?_
    | refine t_lit tok rfl rfl rfl rfl ?_
    | refine t_im tok rfl rfl rfl rfl ?_
    | refine t_ip tok rfl rfl rfl rfl ?_
    | refine t_pt tok rfl rfl rfl rfl ?_
    | refine t_agg tok rfl rfl rfl rfl ?_
    | refine t_tup tok rfl rfl rfl rfl ?_
    | refine t_fn tok rfl rfl rfl rfl ?_
    | refine AL.nil ?_
    | refine s_skip rfl rfl rfl ?_
    | refine s_cmpT rfl rfl rfl rfl rfl rfl rfl (by first | (simp only [cmpP]; omega) | exact rfl) ?_
    | refine s_cmpF rfl rfl rfl rfl rfl rfl rfl (by first | (simp only [cmpP]; omega) | exact rfl) ?_
    | refine s_arith rfl rfl rfl rfl rfl rfl rfl (by first | (exact IntWalk.i64_in _ (by omega)) | (exact IntWalk.u8_in _ (by omega))) ?_
    | refine a_condT rfl ?_
    | refine a_condF rfl ?_
    | refine a_skip ?_
    | refine a_exit ?_
    | refine a_ret ?_
    | refine a_block ?_)
                    refine ⟨i + 1, L ++ [a], ⟨by omega, hsn, ?_⟩, by omega, ?_, OSub.refl _⟩
                    · cases L with
                      | nil => simp [cycB, stP]
                      | cons b w =>
                        rw [cyc_snoc (by simp), show stP (b :: w ++ [a]) = stP (b :: w) from rfl, hcy, Bool.true_and]
                        exact hfd
                    · rw [show L ++ (some a).toList = L ++ [a] from rfl]
                      repeat (first | exact subs_nil | refine subs_cons (Sub.of_eq rfl) ?_ | refine subs_cons (Sub.nil _) ?_)
                  · obtain rfl : k = A.length := by omega
                    repeat (first
    | refine a_seq ?_
    | refine a_reg ?_
    | refine a_regP mixed (by decide +kernel) ?_
    | refine t_lit tok rfl rfl rfl rfl ?_
    | refine t_im tok rfl rfl rfl rfl ?_
    | refine t_ip tok rfl rfl rfl rfl ?_
    | refine t_pt tok rfl rfl rfl rfl ?_
    | refine t_agg tok rfl rfl rfl rfl ?_
    | refine t_tup tok rfl rfl rfl rfl ?_
    | refine t_fn tok rfl rfl rfl rfl ?_
    | refine AL.nil ?_
    | refine s_skip rfl rfl rfl ?_
    | refine s_cmpT rfl rfl rfl rfl rfl rfl rfl (by first | (simp only [cmpP]; omega) | exact rfl) ?_
    | refine s_cmpF rfl rfl rfl rfl rfl rfl rfl (by first | (simp only [cmpP]; omega) | exact rfl) ?_
    | refine s_arith rfl rfl rfl rfl rfl rfl rfl (by first | (exact IntWalk.i64_in _ (by omega)) | (exact IntWalk.u8_in _ (by omega))) ?_
    | refine a_condT rfl ?_
    | refine a_condF rfl ?_
    | refine a_skip ?_
    | refine a_exit ?_
    | refine a_ret ?_
    | refine a_block ?_)
                    refine ⟨i + 1, L ++ [a], ⟨by omega, hsn, ?_⟩, by omega, ?_, OSub.refl _⟩
                    · cases L with
                      | nil => simp [cycB, stP]
                      | cons b w =>
                        rw [cyc_snoc (by simp), show stP (b :: w ++ [a]) = stP (b :: w) from rfl, hcy, Bool.true_and]
                        exact hfd
                    · rw [show L ++ (some a).toList = L ++ [a] from rfl]
                      repeat (first | exact subs_nil | refine subs_cons (Sub.of_eq rfl) ?_ | refine subs_cons (Sub.nil _) ?_)
              | false =>
                rcases Nat.lt_or_ge k A.length with h4 | h4
                · have ha := List.getElem?_eq_getElem h4
                  have hao := hok _ (List.getElem_mem h4)
                  generalize A[k] = a at ha hao
                  obtain ⟨o1, o2, o3, o4⟩ := hao
                  have xk : (A.map cA)[(k : Int).toNat]? = some [AI a.u, AI a.s, AI a.f, AI a.t, AI a.c] := map_get ha
                  by_cases h5 : isU (u1, u2) a = true
                  · have h5' : a.u = u1 ∧ a.s = u2 := of_decide_eq_true h5
                    cases o with
                    | some b =>
                      obtain ⟨g1, j, g2, g3⟩ := hs b rfl
                      have g4 : isU (u1, u2) b = true := List.find?_some g1
                      have g4' : b.u = u1 ∧ b.s = u2 := of_decide_eq_true g4
                      have := uq_get huq ha g3 ⟨by rw [h5'.1, g4'.1], by rw [h5'.2, g4'.2]⟩
                      omega
                    | none =>
                      have hf := find_at (p := isU (u1, u2)) (hn rfl) ha h5
                      have hso : ∀ x, some a = some x → A.find? (isU (u1, u2)) = some x ∧ ∃ j, j < k + 1 ∧ A[j]? = some x := fun x hx => by
                        simp only [Option.some.injEq] at hx
                        subst hx
                        exact ⟨hf, k, by omega, ha⟩
                      obtain ⟨uu, ss, ff, tt, cc⟩ := a
                      obtain ⟨rfl, rfl⟩ := h5'
                      simp only at o1 o2 o3 o4 xk
                      rw [show L ++ (none : Option Ar).toList = L by simp]
                      cases L with
                      | nil =>
                        have hi0 : i = 0 := by simpa using m2.symm
                        subst hi0
                        rw [show stP ([] : List Ar) = 0 from rfl, show enP ([] : List Ar) = 0 from rfl, show wt ([] : List Ar) = 0 from rfl]
                        repeat (first
    | refine a_seq ?_
    | refine a_reg ?_
    | refine a_regP mixed (by decide +kernel) ?_
    | refine t_lit tok rfl rfl rfl rfl ?_
    | refine t_im tok rfl rfl rfl rfl ?_
    | refine t_ip tok rfl rfl rfl rfl ?_
    | refine t_pt tok rfl rfl rfl rfl ?_
    | refine t_agg tok rfl rfl rfl rfl ?_
    | refine t_tup tok rfl rfl rfl rfl ?_
    | refine t_fn tok rfl rfl rfl rfl ?_
    | refine AL.nil ?_
    | refine s_skip rfl rfl rfl ?_
    | refine s_cmpT rfl rfl rfl rfl rfl rfl rfl (by first | (simp only [cmpP]; omega) | exact rfl) ?_
    | refine s_cmpF rfl rfl rfl rfl rfl rfl rfl (by first | (simp only [cmpP]; omega) | exact rfl) ?_
    | refine s_arith rfl rfl rfl rfl rfl rfl rfl (by first | (exact IntWalk.i64_in _ (by omega)) | (exact IntWalk.u8_in _ (by omega))) ?_
    | refine s_index tok rfl rfl rfl rfl rfl rfl rfl rfl rfl (by omega) xk ?_
    | refine s_index tok rfl rfl rfl rfl rfl rfl rfl rfl rfl (by omega) xi ?_
    | refine s_sne (b := false) (xs := [uu, ss]) (ys := [uu, ss]) se_use rfl rfl rfl rfl rfl rfl rfl rfl (by simp) ?_
    | refine a_condT rfl ?_
    | refine a_condF rfl ?_
    | refine a_skip ?_
    | refine a_exit ?_
    | refine a_ret ?_
    | refine a_block ?_)
                        refine ⟨k + 1, some ⟨uu, ss, ff, tt, cc⟩, ⟨by omega, by simp, hso⟩, by omega, ?_, OSub.refl _⟩
                        rw [show ([] : List Ar) ++ (some (⟨uu, ss, ff, tt, cc⟩ : Ar)).toList = [⟨uu, ss, ff, tt, cc⟩] from rfl, show stP [(⟨uu, ss, ff, tt, cc⟩ : Ar)] = ff from rfl, show enP [(⟨uu, ss, ff, tt, cc⟩ : Ar)] = tt from rfl, show wt [(⟨uu, ss, ff, tt, cc⟩ : Ar)] = 0 + cc by simp [wt], show fdB [] (some (⟨uu, ss, ff, tt, cc⟩ : Ar)) = true from rfl]
                        repeat (first | exact subs_nil | refine subs_cons (Sub.of_eq rfl) ?_ | refine subs_cons (Sub.nil _) ?_)
                      | cons b w =>
                        have hi0 : i ≠ 0 := by simp at m2; omega
                        have hen := enP_lt hLo
                        have e1 : stP (b :: w ++ [(⟨uu, ss, ff, tt, cc⟩ : Ar)]) = stP (b :: w) := rfl
                        have e2 := enP_snoc ⟨uu, ss, ff, tt, cc⟩ (b :: w)
                        have e3 : wt (b :: w ++ [(⟨uu, ss, ff, tt, cc⟩ : Ar)]) = wt (b :: w) + cc := by rw [wt_append]; simp [wt]
                        have e4 : fdB (b :: w) (some (⟨uu, ss, ff, tt, cc⟩ : Ar)) = decide (ff = enP (b :: w)) := rfl
                        have hbo : stP (b :: w) < m + 1 := (hLo b (by simp)).1
                        have hwl : (b :: w).length ≤ 40 := by omega
                        generalize hLL : b :: w = LL at *
                        generalize wt LL = W at *
                        generalize enP LL = En at *
                        generalize stP LL = St at *
                        by_cases h6 : ff = En
                        · rw [decide_eq_true h6] at e4
                          subst h6
                          repeat (first
    | refine a_seq ?_
    | refine a_reg ?_
    | refine a_regP mixed (by decide +kernel) ?_
    | refine t_lit tok rfl rfl rfl rfl ?_
    | refine t_im tok rfl rfl rfl rfl ?_
    | refine t_ip tok rfl rfl rfl rfl ?_
    | refine t_pt tok rfl rfl rfl rfl ?_
    | refine t_agg tok rfl rfl rfl rfl ?_
    | refine t_tup tok rfl rfl rfl rfl ?_
    | refine t_fn tok rfl rfl rfl rfl ?_
    | refine AL.nil ?_
    | refine s_skip rfl rfl rfl ?_
    | refine s_cmpT rfl rfl rfl rfl rfl rfl rfl (by first | (simp only [cmpP]; omega) | exact rfl) ?_
    | refine s_cmpF rfl rfl rfl rfl rfl rfl rfl (by first | (simp only [cmpP]; omega) | exact rfl) ?_
    | refine s_arith rfl rfl rfl rfl rfl rfl rfl (by first | (exact IntWalk.i64_in _ (by omega)) | (exact IntWalk.u8_in _ (by omega))) ?_
    | refine s_index tok rfl rfl rfl rfl rfl rfl rfl rfl rfl (by omega) xk ?_
    | refine s_index tok rfl rfl rfl rfl rfl rfl rfl rfl rfl (by omega) xi ?_
    | refine s_sne (b := false) (xs := [uu, ss]) (ys := [uu, ss]) se_use rfl rfl rfl rfl rfl rfl rfl rfl (by simp) ?_
    | refine a_condT rfl ?_
    | refine a_condF rfl ?_
    | refine a_skip ?_
    | refine a_exit ?_
    | refine a_ret ?_
    | refine a_block ?_)
                          refine ⟨k + 1, some ⟨uu, ss, ff, tt, cc⟩, ⟨by omega, by simp, hso⟩, by omega, ?_, OSub.refl _⟩
                          rw [show LL ++ (some (⟨uu, ss, ff, tt, cc⟩ : Ar)).toList = LL ++ [⟨uu, ss, ff, tt, cc⟩] from rfl, e1, e2, e3, e4]
                          repeat (first | exact subs_nil | refine subs_cons (Sub.of_eq rfl) ?_ | refine subs_cons (Sub.nil _) ?_)
                        · rw [decide_eq_false h6] at e4
                          have h6' : ¬ (ff : Int) = (En : Int) := by omega
                          repeat (first
    | refine a_seq ?_
    | refine a_reg ?_
    | refine a_regP mixed (by decide +kernel) ?_
    | refine t_lit tok rfl rfl rfl rfl ?_
    | refine t_im tok rfl rfl rfl rfl ?_
    | refine t_ip tok rfl rfl rfl rfl ?_
    | refine t_pt tok rfl rfl rfl rfl ?_
    | refine t_agg tok rfl rfl rfl rfl ?_
    | refine t_tup tok rfl rfl rfl rfl ?_
    | refine t_fn tok rfl rfl rfl rfl ?_
    | refine AL.nil ?_
    | refine s_skip rfl rfl rfl ?_
    | refine s_cmpT rfl rfl rfl rfl rfl rfl rfl (by first | (simp only [cmpP]; omega) | exact rfl) ?_
    | refine s_cmpF rfl rfl rfl rfl rfl rfl rfl (by first | (simp only [cmpP]; omega) | exact rfl) ?_
    | refine s_arith rfl rfl rfl rfl rfl rfl rfl (by first | (exact IntWalk.i64_in _ (by omega)) | (exact IntWalk.u8_in _ (by omega))) ?_
    | refine s_index tok rfl rfl rfl rfl rfl rfl rfl rfl rfl (by omega) xk ?_
    | refine s_index tok rfl rfl rfl rfl rfl rfl rfl rfl rfl (by omega) xi ?_
    | refine s_sne (b := false) (xs := [uu, ss]) (ys := [uu, ss]) se_use rfl rfl rfl rfl rfl rfl rfl rfl (by simp) ?_
    | refine a_condT rfl ?_
    | refine a_condF rfl ?_
    | refine a_skip ?_
    | refine a_exit ?_
    | refine a_ret ?_
    | refine a_block ?_)
                          refine ⟨k + 1, some ⟨uu, ss, ff, tt, cc⟩, ⟨by omega, by simp, hso⟩, by omega, ?_, OSub.refl _⟩
                          rw [show LL ++ (some (⟨uu, ss, ff, tt, cc⟩ : Ar)).toList = LL ++ [⟨uu, ss, ff, tt, cc⟩] from rfl, e1, e2, e3, e4]
                          repeat (first | exact subs_nil | refine subs_cons (Sub.of_eq rfl) ?_ | refine subs_cons (Sub.nil _) ?_)
                  · have h5f : isU (u1, u2) a = false := by simpa using h5
                    have h5' : ¬ (a.u = u1 ∧ a.s = u2) := of_decide_eq_false h5f
                    have hne : ¬ [a.u, a.s] = [u1, u2] := fun h => h5' (by simpa using h)
                    have hn2 : o = none → ∀ x ∈ A.take (k + 1), isU (u1, u2) x = false := fun h => none_take (p := isU (u1, u2)) (hn h) ha h5f
                    have hs2 : ∀ x, o = some x → A.find? (isU (u1, u2)) = some x ∧ ∃ j, j < k + 1 ∧ A[j]? = some x := fun x hx => by
                      obtain ⟨g1, j, g2, g3⟩ := hs x hx
                      exact ⟨g1, j, by omega, g3⟩
                    repeat (first
    | refine a_seq ?_
    | refine a_reg ?_
    | refine a_regP mixed (by decide +kernel) ?_
    | refine t_lit tok rfl rfl rfl rfl ?_
    | refine t_im tok rfl rfl rfl rfl ?_
    | refine t_ip tok rfl rfl rfl rfl ?_
    | refine t_pt tok rfl rfl rfl rfl ?_
    | refine t_agg tok rfl rfl rfl rfl ?_
    | refine t_tup tok rfl rfl rfl rfl ?_
    | refine t_fn tok rfl rfl rfl rfl ?_
    | refine AL.nil ?_
    | refine s_skip rfl rfl rfl ?_
    | refine s_cmpT rfl rfl rfl rfl rfl rfl rfl (by first | (simp only [cmpP]; omega) | exact rfl) ?_
    | refine s_cmpF rfl rfl rfl rfl rfl rfl rfl (by first | (simp only [cmpP]; omega) | exact rfl) ?_
    | refine s_arith rfl rfl rfl rfl rfl rfl rfl (by first | (exact IntWalk.i64_in _ (by omega)) | (exact IntWalk.u8_in _ (by omega))) ?_
    | refine s_index tok rfl rfl rfl rfl rfl rfl rfl rfl rfl (by omega) xk ?_
    | refine s_index tok rfl rfl rfl rfl rfl rfl rfl rfl rfl (by omega) xi ?_
    | refine s_sne (b := true) (xs := [a.u, a.s]) (ys := [u1, u2]) se_use rfl rfl rfl rfl rfl rfl rfl rfl (by rw [decide_eq_false hne]; rfl) ?_
    | refine a_condT rfl ?_
    | refine a_condF rfl ?_
    | refine a_skip ?_
    | refine a_exit ?_
    | refine a_ret ?_
    | refine a_block ?_)
                    refine ⟨k + 1, o, ⟨by omega, hn2, hs2⟩, by omega, ?_, OSub.refl _⟩
                    rw [hfd]
                    repeat (first | exact subs_nil | refine subs_cons (Sub.of_eq rfl) ?_ | refine subs_cons (Sub.nil _) ?_)
                · obtain rfl : k = A.length := by omega
                  have hres : chkL (lstU A r) = false := by
                    cases o with
                    | none =>
                      have hn := hn rfl
                      rw [List.take_length] at hn
                      rw [List.find?_eq_none.2 (fun x hx => by simp [hn x hx])] at hsn
                      rw [hdr, lst_none (by rw [← htk]; exact hsn)]
                      rfl
                    | some a =>
                      obtain ⟨g1, g2⟩ := hs a rfl
                      rw [g1] at hsn
                      simp only at hsn
                      rw [hdr2]
                      refine chk_broken hsn (by simp) ?_
                      cases L with
                      | nil => cases hfd
                      | cons b w =>
                        rw [cyc_snoc (by simp), show stP (b :: w ++ [a]) = stP (b :: w) from rfl, hcy, Bool.true_and]
                        exact hfd
                  rw [hres]
                  repeat (first
    | refine a_seq ?_
    | refine a_reg ?_
    | refine a_regP mixed (by decide +kernel) ?_
    | refine t_lit tok rfl rfl rfl rfl ?_
    | refine t_im tok rfl rfl rfl rfl ?_
    | refine t_ip tok rfl rfl rfl rfl ?_
    | refine t_pt tok rfl rfl rfl rfl ?_
    | refine t_agg tok rfl rfl rfl rfl ?_
    | refine t_tup tok rfl rfl rfl rfl ?_
    | refine t_fn tok rfl rfl rfl rfl ?_
    | refine AL.nil ?_
    | refine s_skip rfl rfl rfl ?_
    | refine s_cmpT rfl rfl rfl rfl rfl rfl rfl (by first | (simp only [cmpP]; omega) | exact rfl) ?_
    | refine s_cmpF rfl rfl rfl rfl rfl rfl rfl (by first | (simp only [cmpP]; omega) | exact rfl) ?_
    | refine s_arith rfl rfl rfl rfl rfl rfl rfl (by first | (exact IntWalk.i64_in _ (by omega)) | (exact IntWalk.u8_in _ (by omega))) ?_
    | refine a_condT rfl ?_
    | refine a_condF rfl ?_
    | refine a_skip ?_
    | refine a_exit ?_
    | refine a_ret ?_
    | refine a_block ?_)
                  first | refine fin (x := .lit _) (.inr rfl) rfl (Sub.refl _) ?_ (OSub.refl _) | refine fin (x := .im _ _) (.inr rfl) rfl (Sub.refl _) ?_ (OSub.refl _) | refine fin (x := .tup [.lit _, .lit _]) (.inr rfl) rfl (Sub.refl _) ?_ (OSub.refl _) | refine fin (x := .tup [.im _ _, .lit _]) (.inr rfl) rfl (Sub.refl _) ?_ (OSub.refl _) | refine fin (x := .tup [.lit _, .lit _, .lit _]) (.inr rfl) rfl (Sub.refl _) ?_ (OSub.refl _) | refine fin (x := .agg _) (.inr rfl) rfl (Sub.refl _) ?_ (OSub.refl _)
                  exact ⟨rfl, rfl⟩
          · obtain rfl : i = r.length := by omega
            rw [List.take_length] at hL
            have hne : L ≠ [] := fun h => by rw [h] at m2; simp at m2; omega
            rw [hL, chk_end hne hcy]
            have hen := enP_lt hLo
            generalize wt L = W at *
            generalize enP L = En at *
            generalize stP L = St at *
            by_cases h6 : (En : Int) = (St : Int)
            · have h6' : En = St := by omega
              subst h6'
              rw [decide_eq_true rfl, Bool.true_and]
              by_cases h7 : W < 0
              · rw [decide_eq_true h7]
                repeat (first
    | refine a_seq ?_
    | refine a_reg ?_
    | refine a_regP mixed (by decide +kernel) ?_
    | refine t_lit tok rfl rfl rfl rfl ?_
    | refine t_im tok rfl rfl rfl rfl ?_
    | refine t_ip tok rfl rfl rfl rfl ?_
    | refine t_pt tok rfl rfl rfl rfl ?_
    | refine t_agg tok rfl rfl rfl rfl ?_
    | refine t_tup tok rfl rfl rfl rfl ?_
    | refine t_fn tok rfl rfl rfl rfl ?_
    | refine AL.nil ?_
    | refine s_skip rfl rfl rfl ?_
    | refine s_cmpT rfl rfl rfl rfl rfl rfl rfl (by first | (simp only [cmpP]; omega) | exact rfl) ?_
    | refine s_cmpF rfl rfl rfl rfl rfl rfl rfl (by first | (simp only [cmpP]; omega) | exact rfl) ?_
    | refine s_arith rfl rfl rfl rfl rfl rfl rfl (by first | (exact IntWalk.i64_in _ (by omega)) | (exact IntWalk.u8_in _ (by omega))) ?_
    | refine a_condT rfl ?_
    | refine a_condF rfl ?_
    | refine a_skip ?_
    | refine a_exit ?_
    | refine a_ret ?_
    | refine a_block ?_)
                first | refine fin (x := .lit _) (.inr rfl) rfl (Sub.refl _) ?_ (OSub.refl _) | refine fin (x := .im _ _) (.inr rfl) rfl (Sub.refl _) ?_ (OSub.refl _) | refine fin (x := .tup [.lit _, .lit _]) (.inr rfl) rfl (Sub.refl _) ?_ (OSub.refl _) | refine fin (x := .tup [.im _ _, .lit _]) (.inr rfl) rfl (Sub.refl _) ?_ (OSub.refl _) | refine fin (x := .tup [.lit _, .lit _, .lit _]) (.inr rfl) rfl (Sub.refl _) ?_ (OSub.refl _) | refine fin (x := .agg _) (.inr rfl) rfl (Sub.refl _) ?_ (OSub.refl _)
                exact ⟨rfl, rfl⟩
              · rw [decide_eq_false h7]
                repeat (first
    | refine a_seq ?_
    | refine a_reg ?_
    | refine a_regP mixed (by decide +kernel) ?_
    | refine t_lit tok rfl rfl rfl rfl ?_
    | refine t_im tok rfl rfl rfl rfl ?_
    | refine t_ip tok rfl rfl rfl rfl ?_
    | refine t_pt tok rfl rfl rfl rfl ?_
    | refine t_agg tok rfl rfl rfl rfl ?_
    | refine t_tup tok rfl rfl rfl rfl ?_
    | refine t_fn tok rfl rfl rfl rfl ?_
    | refine AL.nil ?_
    | refine s_skip rfl rfl rfl ?_
    | refine s_cmpT rfl rfl rfl rfl rfl rfl rfl (by first | (simp only [cmpP]; omega) | exact rfl) ?_
    | refine s_cmpF rfl rfl rfl rfl rfl rfl rfl (by first | (simp only [cmpP]; omega) | exact rfl) ?_
    | refine s_arith rfl rfl rfl rfl rfl rfl rfl (by first | (exact IntWalk.i64_in _ (by omega)) | (exact IntWalk.u8_in _ (by omega))) ?_
    | refine a_condT rfl ?_
    | refine a_condF rfl ?_
    | refine a_skip ?_
    | refine a_exit ?_
    | refine a_ret ?_
    | refine a_block ?_)
                first | refine fin (x := .lit _) (.inr rfl) rfl (Sub.refl _) ?_ (OSub.refl _) | refine fin (x := .im _ _) (.inr rfl) rfl (Sub.refl _) ?_ (OSub.refl _) | refine fin (x := .tup [.lit _, .lit _]) (.inr rfl) rfl (Sub.refl _) ?_ (OSub.refl _) | refine fin (x := .tup [.im _ _, .lit _]) (.inr rfl) rfl (Sub.refl _) ?_ (OSub.refl _) | refine fin (x := .tup [.lit _, .lit _, .lit _]) (.inr rfl) rfl (Sub.refl _) ?_ (OSub.refl _) | refine fin (x := .agg _) (.inr rfl) rfl (Sub.refl _) ?_ (OSub.refl _)
                exact ⟨rfl, rfl⟩
            · rw [decide_eq_false h6, Bool.false_and]
              repeat (first
    | refine a_seq ?_
    | refine a_reg ?_
    | refine a_regP mixed (by decide +kernel) ?_
    | refine t_lit tok rfl rfl rfl rfl ?_
    | refine t_im tok rfl rfl rfl rfl ?_
    | refine t_ip tok rfl rfl rfl rfl ?_
    | refine t_pt tok rfl rfl rfl rfl ?_
    | refine t_agg tok rfl rfl rfl rfl ?_
    | refine t_tup tok rfl rfl rfl rfl ?_
    | refine t_fn tok rfl rfl rfl rfl ?_
    | refine AL.nil ?_
    | refine s_skip rfl rfl rfl ?_
    | refine s_cmpT rfl rfl rfl rfl rfl rfl rfl (by first | (simp only [cmpP]; omega) | exact rfl) ?_
    | refine s_cmpF rfl rfl rfl rfl rfl rfl rfl (by first | (simp only [cmpP]; omega) | exact rfl) ?_
    | refine s_arith rfl rfl rfl rfl rfl rfl rfl (by first | (exact IntWalk.i64_in _ (by omega)) | (exact IntWalk.u8_in _ (by omega))) ?_
    | refine a_condT rfl ?_
    | refine a_condF rfl ?_
    | refine a_skip ?_
    | refine a_exit ?_
    | refine a_ret ?_
    | refine a_block ?_)
              first | refine fin (x := .lit _) (.inr rfl) rfl (Sub.refl _) ?_ (OSub.refl _) | refine fin (x := .im _ _) (.inr rfl) rfl (Sub.refl _) ?_ (OSub.refl _) | refine fin (x := .tup [.lit _, .lit _]) (.inr rfl) rfl (Sub.refl _) ?_ (OSub.refl _) | refine fin (x := .tup [.im _ _, .lit _]) (.inr rfl) rfl (Sub.refl _) ?_ (OSub.refl _) | refine fin (x := .tup [.lit _, .lit _, .lit _]) (.inr rfl) rfl (Sub.refl _) ?_ (OSub.refl _) | refine fin (x := .agg _) (.inr rfl) rfl (Sub.refl _) ?_ (OSub.refl _)
              exact ⟨rfl, rfl⟩
  · rw [show checkR n l r = false by simp only [checkR]; rw [decide_eq_false (by omega)]; rfl]
    have hb := h0
    generalize validT n l = e at *
    refine a_enter Try.func27 (by kernel_rfl) rfl Try.ntmps27 rfl (by simp) ?_
    repeat (first
    | refine a_seq ?_
    | refine a_reg ?_
    | refine a_regP mixed (by decide +kernel) ?_
    | refine t_lit tok rfl rfl rfl rfl ?_
    | refine t_im tok rfl rfl rfl rfl ?_
    | refine t_ip tok rfl rfl rfl rfl ?_
    | refine t_pt tok rfl rfl rfl rfl ?_
    | refine t_agg tok rfl rfl rfl rfl ?_
    | refine t_tup tok rfl rfl rfl rfl ?_
    | refine t_fn tok rfl rfl rfl rfl ?_
    | refine AL.nil ?_
    | refine s_skip rfl rfl rfl ?_
    | refine s_cmpT rfl rfl rfl rfl rfl rfl rfl (by first | (simp only [cmpP]; omega) | exact rfl) ?_
    | refine s_cmpF rfl rfl rfl rfl rfl rfl rfl (by first | (simp only [cmpP]; omega) | exact rfl) ?_
    | refine s_arith rfl rfl rfl rfl rfl rfl rfl (by first | (exact IntWalk.i64_in _ (by omega)) | (exact IntWalk.u8_in _ (by omega))) ?_
    | refine s_callP rfl rfl rfl rfl rfl (hV) (SubL.of_eq rfl) ?_
    | refine a_condT rfl ?_
    | refine a_condF rfl ?_
    | refine a_skip ?_
    | refine a_exit ?_
    | refine a_ret ?_
    | refine a_block ?_)
    first | refine fin (x := .lit _) (.inr rfl) rfl (Sub.refl _) ?_ (OSub.refl _) | refine fin (x := .im _ _) (.inr rfl) rfl (Sub.refl _) ?_ (OSub.refl _) | refine fin (x := .tup [.lit _, .lit _]) (.inr rfl) rfl (Sub.refl _) ?_ (OSub.refl _) | refine fin (x := .tup [.im _ _, .lit _]) (.inr rfl) rfl (Sub.refl _) ?_ (OSub.refl _) | refine fin (x := .tup [.lit _, .lit _, .lit _]) (.inr rfl) rfl (Sub.refl _) ?_ (OSub.refl _) | refine fin (x := .agg _) (.inr rfl) rfl (Sub.refl _) ?_ (OSub.refl _)
    exact ⟨rfl, rfl⟩
end Go.Proofs.Ytniboaekigoheaa
