/-
  Refutations of the program: the walk.
-/
import Derived.Test.YtniboaekigoheaaD10
import Derived.Test.YtniboaekigoheaaSjM10
namespace Go.Proofs.Ytniboaekigoheaa
open Go.Sj Go.Sj.Dif
set_option linter.unusedVariables false
set_option maxHeartbeats 4000000

def cUs (a : Ar) : List AV := [AI a.u, AI a.s]
abbrev usesA (ps : List Ar) : AV := .im 2 (ps.map cUs)
def tabsL (N : Nat) (A : List Ar) (m : Nat) : List (List AV) := (List.range (m + 1)).map fun j => [matA (mkM N (tab N A j))]
theorem tabsL_length (N : Nat) (A : List Ar) (m : Nat) : (tabsL N A m).length = m + 1 := by simp [tabsL]
theorem tabsL_succ (N : Nat) (A : List Ar) (m : Nat) : tabsL N A (m + 1) = tabsL N A m ++ [[matA (mkM N (tab N A (m + 1)))]] := by
  simp only [tabsL]
  rw [List.range_succ (n := m + 1), List.map_append]
  rfl
theorem tabsL_get {N : Nat} {A : List Ar} {m j : Nat} (h : j < m + 1) : (tabsL N A m)[j]? = some [matA (mkM N (tab N A j))] := by
  simp [tabsL, h]
theorem find_at {α : Type} {p : α → Bool} {l : List α} {j : Nat} {a : α} (h : ∀ x ∈ l.take j, p x = false) (ha : l[j]? = some a) (hp : p a = true) : l.find? p = some a := by
  obtain ⟨hj, rfl⟩ := List.getElem?_eq_some_iff.1 ha
  have e := List.take_append_drop j l
  rw [List.drop_eq_getElem_cons hj] at e
  have h1 : (l.take j ++ l[j] :: l.drop (j + 1)).find? p = some l[j] := by
    rw [List.find?_append, List.find?_eq_none.2 (fun x hx => by simp [h x hx]), List.find?_cons, hp]
    rfl
  rw [e] at h1
  exact h1
theorem none_take {α : Type} {p : α → Bool} {l : List α} {j : Nat} {a : α} (h : ∀ x ∈ l.take j, p x = false) (ha : l[j]? = some a) (hp : p a = false) : ∀ x ∈ l.take (j + 1), p x = false := by
  obtain ⟨hj, rfl⟩ := List.getElem?_eq_some_iff.1 ha
  rw [List.take_succ_eq_append_getElem hj]
  intro x hx
  rcases List.mem_append.1 hx with hx | hx
  · exact h x hx
  · simp at hx; subst hx; exact hp
theorem stepP_some {T : Nat → Nat → Int} {A ps : List Ar} {a : Ar} (h : A.find? (pickB T ps) = some a) : stepP T A ps = ps ++ [a] := by rw [stepP, h]
def stI : List Ar → Int
  | [] => -1
  | b :: _ => b.f
theorem wt_all {n : Nat} : ∀ {ps : List Ar}, (∀ b ∈ ps, AOk n b) → -2000000 * (ps.length : Int) ≤ wt ps ∧ wt ps ≤ 2000000 * (ps.length : Int)
  | [], _ => by simp [wt]
  | a :: w, h => by
    have := wt_all (ps := w) fun b hb => h b (by simp [hb])
    have h4 := h a (by simp)
    simp only [AOk] at h4
    simp only [wt, List.length_cons]
    omega
theorem enP_lt {n : Nat} : ∀ {ps : List Ar}, (∀ b ∈ ps, AOk n b) → enP ps < n + 1
  | [], _ => by simp [enP]
  | [b], h => (h b (by simp)).2.1
  | b :: c :: w, h => by
    simp only [enP]
    exact enP_lt fun x hx => h x (List.mem_cons_of_mem _ hx)

theorem Refute_spec (n : Int) (l : List Tst) : Pure Try.prog 18 [AI n, testsA l] (.tup [usesA (refuteR n l).1, AI (refuteR n l).2]) := by
  have nil2 : Sub (.lit (.slice none 0 0)) (usesA []) := Sub.nil 2
  have hV := Valid_spec n l
  by_cases h0 : validT n l = 0
  · obtain ⟨⟨n0, n12⟩, hlen, hl⟩ := validT_zero.1 h0
    obtain ⟨m, rfl⟩ : ∃ m : Nat, n = m := ⟨n.toNat, by omega⟩
    rw [show refuteR (m : Int) l = if (distR m (arcsOf l)).2 = true then ([], 10) else (runP (m + 1) (arcsOf l) (fstN (m + 1) (arcsOf l)) [], 0) by simp only [refuteR, h0, ne_eq, not_true_eq_false, if_false, Int.toNat_natCast]]
    rw [h0] at hV
    have hA := (arcs_spec n12 l hl (by omega)).pure
    have hok := arcsOf_ok hl
    have hal : (arcsOf l).length ≤ 80 := by
      have := arcsF_length 0 l
      simp only [arcsOf]; omega
    have hD := distances_spec m (by omega) (arcsOf l) (aok_asm hok) (by omega)
    obtain ⟨f1, f2⟩ := distR_facts (aok_inr hok)
    cases hb : (distR m (arcsOf l)).2 with
    | true =>
      rw [hb] at hD
      rw [if_pos rfl]
      refine a_enter Try.func18 (by kernel_rfl) rfl Try.ntmps18 rfl (by simp) ?_
      repeat (first
    | refine a_seq ?_
    | refine a_reg ?_
    | refine a_regP mixed (by decide +kernel) ?_
    | refine t_lit tok rfl rfl rfl rfl ?_
    | refine t_im tok rfl rfl rfl rfl ?_
    | refine t_ip tok rfl rfl rfl rfl ?_
    | refine t_pt tok rfl rfl rfl rfl ?_
    | refine t_agg tok rfl rfl rfl rfl ?_
    | refine t_tup tok rfl rfl rfl rfl ?_
    | refine t_fn tok rfl rfl rfl rfl ?_
    | refine AL.nil ?_
    | refine s_skip rfl rfl rfl ?_
    | refine s_cmpT rfl rfl rfl rfl rfl rfl rfl (by first | (simp only [cmpP]; omega) | exact rfl) ?_
    | refine s_cmpF rfl rfl rfl rfl rfl rfl rfl (by first | (simp only [cmpP]; omega) | exact rfl) ?_
    | refine s_arith rfl rfl rfl rfl rfl rfl rfl (by first | (exact IntWalk.i64_in _ (by omega)) | (exact IntWalk.u8_in _ (by omega))) ?_
    | refine s_callP rfl rfl rfl rfl rfl (hV) (SubL.of_eq rfl) ?_
    | refine s_callP rfl rfl rfl rfl rfl (hA) (SubL.of_eq rfl) ?_
    | refine s_callP rfl rfl rfl rfl rfl (hD) (SubL.of_eq rfl) ?_
    | refine a_condT rfl ?_
    | refine a_condF rfl ?_
    | refine a_skip ?_
    | refine a_exit ?_
    | refine a_ret ?_
    | refine a_block ?_)
      refine fin (x := .tup [.lit _, .lit _]) (.inr rfl) rfl ?_ ⟨rfl, rfl⟩ (OSub.refl _)
      exact Sub.tup ⟨nil2, Sub.refl _, trivial⟩
    | false =>
      rw [hb] at hD
      rw [if_neg (by simp)]
      have hs : ¬ Sat (arcsOf l) := fun k => by rw [f1.2 k] at hb; cases hb
      obtain ⟨g1, g2, g3, g4⟩ := fstN_spec hok (by omega) hs
      have hF := fresh_spec m (by omega)
      rw [show mkM (m + 1) unit0 = mkM (m + 1) (tab (m + 1) (arcsOf l) 0) from rfl] at hF
      have hlow := fun k hk i j => tab_low (n := m) hok k hk i j
      generalize arcsOf l = A at *
      have hLo := fun k (hk : k ≤ 1000) => longer_spec m (by omega) A hok (by omega) (tab (m + 1) A k) (fun i j hi hj => hlow k hk i j hi hj)
      have hC := fun k => closed_spec (m + 1) (by omega) (tab (m + 1) A k)
      have la : (A.map cA).length = A.length := by simp
      generalize fstN (m + 1) A = M at *
      obtain ⟨R0, hR0⟩ : ∃ R0, R0 = runP (m + 1) A M [] := ⟨_, rfl⟩
      rw [← hR0]
      refine a_enter Try.func18 (by kernel_rfl) rfl Try.ntmps18 rfl (by simp) ?_
      repeat (first
    | refine a_seq ?_
    | refine a_reg ?_
    | refine a_regP mixed (by decide +kernel) ?_
    | refine t_lit tok rfl rfl rfl rfl ?_
    | refine t_im tok rfl rfl rfl rfl ?_
    | refine t_ip tok rfl rfl rfl rfl ?_
    | refine t_pt tok rfl rfl rfl rfl ?_
    | refine t_agg tok rfl rfl rfl rfl ?_
    | refine t_tup tok rfl rfl rfl rfl ?_
    | refine t_fn tok rfl rfl rfl rfl ?_
    | refine AL.nil ?_
    | refine s_skip rfl rfl rfl ?_
    | refine s_cmpT rfl rfl rfl rfl rfl rfl rfl (by first | (simp only [cmpP]; omega) | exact rfl) ?_
    | refine s_cmpF rfl rfl rfl rfl rfl rfl rfl (by first | (simp only [cmpP]; omega) | exact rfl) ?_
    | refine s_arith rfl rfl rfl rfl rfl rfl rfl (by first | (exact IntWalk.i64_in _ (by omega)) | (exact IntWalk.u8_in _ (by omega))) ?_
    | refine s_callP rfl rfl rfl rfl rfl (hV) (SubL.of_eq rfl) ?_
    | refine s_callP rfl rfl rfl rfl rfl (hA) (SubL.of_eq rfl) ?_
    | refine s_callP rfl rfl rfl rfl rfl (hD) (SubL.of_eq rfl) ?_
    | refine s_callP rfl rfl rfl rfl rfl (hF) (SubL.of_eq rfl) ?_
    | refine a_condT rfl ?_
    | refine a_condF rfl ?_
    | refine a_skip ?_
    | refine a_exit ?_
    | refine a_ret ?_
    | refine a_block ?_)
      refine s_build1M tok rfl rfl rfl rfl rfl rfl rfl (fun v => ?_)
      repeat (first
    | refine a_seq ?_
    | refine a_reg ?_
    | refine a_regP mixed (by decide +kernel) ?_
    | refine t_lit tok rfl rfl rfl rfl ?_
    | refine t_im tok rfl rfl rfl rfl ?_
    | refine t_ip tok rfl rfl rfl rfl ?_
    | refine t_pt tok rfl rfl rfl rfl ?_
    | refine t_agg tok rfl rfl rfl rfl ?_
    | refine t_tup tok rfl rfl rfl rfl ?_
    | refine t_fn tok rfl rfl rfl rfl ?_
    | refine AL.nil ?_
    | refine s_skip rfl rfl rfl ?_
    | refine s_cmpT rfl rfl rfl rfl rfl rfl rfl (by first | (simp only [cmpP]; omega) | exact rfl) ?_
    | refine s_cmpF rfl rfl rfl rfl rfl rfl rfl (by first | (simp only [cmpP]; omega) | exact rfl) ?_
    | refine s_arith rfl rfl rfl rfl rfl rfl rfl (by first | (exact IntWalk.i64_in _ (by omega)) | (exact IntWalk.u8_in _ (by omega))) ?_
    | refine a_condT rfl ?_
    | refine a_condF rfl ?_
    | refine a_skip ?_
    | refine a_exit ?_
    | refine a_ret ?_
    | refine a_block ?_)
      refine a_loop2 (fun (k : Nat) (v : Value) => [(7, arcsA A), (10, .lit v)]) (fun k v => [(v, .row 82 1 (tabsL (m + 1) A k))]) (fun k _ => k ≤ M) (fun k _ => M - k) 0 v (Nat.zero_le _) ?_ (OSub.refl _) ?_
      · repeat (first | exact subs_nil | refine subs_cons (Sub.of_eq rfl) ?_ | refine subs_cons (Sub.nil _) ?_)
      · intro k v hk
        have lt := tabsL_length (m + 1) A k
        have hc := hC k
        rcases Nat.lt_or_ge k M with h1 | h1
        · rw [g4 k h1] at hc
          have hlo := hLo k (by omega)
          have hs1 := tabsL_succ (m + 1) A k
          have hob : obAt (.row 82 1 (tabsL (m + 1) A k)) ((((tabsL (m + 1) A k).length : Nat) : Int) - 1).toNat 0 = some [matA (mkM (m + 1) (tab (m + 1) A k))] := by
            rw [lt, show (((k + 1 : Nat) : Int) - 1).toNat = k by omega]
            simp only [obAt, tabsL_get (Nat.lt_succ_self k)]
            rfl
          change Pure Try.prog _ _ (matA (mkM (m + 1) (tab (m + 1) A (k + 1)))) at hlo
          generalize tab (m + 1) A k = T at *
          generalize tab (m + 1) A (k + 1) = T1 at *
          generalize tabsL (m + 1) A k = TL at *
          repeat (first
    | refine a_seq ?_
    | refine a_reg ?_
    | refine a_regP mixed (by decide +kernel) ?_
    | refine t_lit tok rfl rfl rfl rfl ?_
    | refine t_im tok rfl rfl rfl rfl ?_
    | refine t_ip tok rfl rfl rfl rfl ?_
    | refine t_pt tok rfl rfl rfl rfl ?_
    | refine t_agg tok rfl rfl rfl rfl ?_
    | refine t_tup tok rfl rfl rfl rfl ?_
    | refine t_fn tok rfl rfl rfl rfl ?_
    | refine AL.nil ?_
    | refine s_skip rfl rfl rfl ?_
    | refine s_cmpT rfl rfl rfl rfl rfl rfl rfl (by first | (simp only [cmpP]; omega) | exact rfl) ?_
    | refine s_cmpF rfl rfl rfl rfl rfl rfl rfl (by first | (simp only [cmpP]; omega) | exact rfl) ?_
    | refine s_arith rfl rfl rfl rfl rfl rfl rfl (by first | (exact IntWalk.i64_in _ (by omega)) | (exact IntWalk.u8_in _ (by omega))) ?_
    | refine s_callP rfl rfl rfl rfl rfl (hc) (SubL.of_eq rfl) ?_
    | refine s_callP rfl rfl rfl rfl rfl (hlo) (SubL.of_eq rfl) ?_
    | refine s_ownLen tok 0 rfl rfl rfl rfl (by decide) rfl rfl rfl ?_
    | refine s_ownIndex tok 0 rfl rfl rfl rfl (by decide) rfl rfl rfl rfl rfl rfl (by omega) (by omega) ?_
    | refine s_ownLoad tok 0 rfl rfl rfl rfl (by decide) rfl rfl rfl rfl hob rfl (List.cons_ne_nil _ _) ?_
    | refine a_condT rfl ?_
    | refine a_condF rfl ?_
    | refine a_skip ?_
    | refine a_exit ?_
    | refine a_ret ?_
    | refine a_block ?_)
          (first | refine s_build1 tok rfl rfl rfl rfl rfl rfl rfl rfl (fun u => ?_) | refine s_build1M tok rfl rfl rfl rfl rfl rfl rfl (fun u => ?_) | refine s_build1A tok rfl rfl rfl rfl rfl rfl rfl rfl (by decide) (fun u => ?_)); refine s_append1 tok 0 rfl rfl rfl rfl rfl rfl (by decide) rfl rfl rfl rfl (by omega) (by omega) (fun v' => ?_)
          repeat (first
    | refine a_seq ?_
    | refine a_reg ?_
    | refine a_regP mixed (by decide +kernel) ?_
    | refine t_lit tok rfl rfl rfl rfl ?_
    | refine t_im tok rfl rfl rfl rfl ?_
    | refine t_ip tok rfl rfl rfl rfl ?_
    | refine t_pt tok rfl rfl rfl rfl ?_
    | refine t_agg tok rfl rfl rfl rfl ?_
    | refine t_tup tok rfl rfl rfl rfl ?_
    | refine t_fn tok rfl rfl rfl rfl ?_
    | refine AL.nil ?_
    | refine s_skip rfl rfl rfl ?_
    | refine s_cmpT rfl rfl rfl rfl rfl rfl rfl (by first | (simp only [cmpP]; omega) | exact rfl) ?_
    | refine s_cmpF rfl rfl rfl rfl rfl rfl rfl (by first | (simp only [cmpP]; omega) | exact rfl) ?_
    | refine s_arith rfl rfl rfl rfl rfl rfl rfl (by first | (exact IntWalk.i64_in _ (by omega)) | (exact IntWalk.u8_in _ (by omega))) ?_
    | refine a_condT rfl ?_
    | refine a_condF rfl ?_
    | refine a_skip ?_
    | refine a_exit ?_
    | refine a_ret ?_
    | refine a_block ?_)
          refine ⟨k + 1, v', by omega, by omega, ?_, ?_⟩
          · repeat (first | exact subs_nil | refine subs_cons (Sub.of_eq rfl) ?_ | refine subs_cons (Sub.nil _) ?_)
          · rw [hs1]
            exact OSub.refl _
        · obtain rfl : k = M := by omega
          rw [g3] at hc
          have hx : (tabsL (m + 1) A k)[((((tabsL (m + 1) A k).length : Nat) : Int) - 1).toNat]? = some [matA (mkM (m + 1) (tab (m + 1) A k))] := by
            rw [lt, show (((k + 1 : Nat) : Int) - 1).toNat = k by omega]
            exact tabsL_get (Nat.lt_succ_self k)
          refine a_frz 0 10 rfl rfl ?_
          repeat (first
    | refine a_seq ?_
    | refine a_reg ?_
    | refine a_regP mixed (by decide +kernel) ?_
    | refine t_lit tok rfl rfl rfl rfl ?_
    | refine t_im tok rfl rfl rfl rfl ?_
    | refine t_ip tok rfl rfl rfl rfl ?_
    | refine t_pt tok rfl rfl rfl rfl ?_
    | refine t_agg tok rfl rfl rfl rfl ?_
    | refine t_tup tok rfl rfl rfl rfl ?_
    | refine t_fn tok rfl rfl rfl rfl ?_
    | refine AL.nil ?_
    | refine s_skip rfl rfl rfl ?_
    | refine s_cmpT rfl rfl rfl rfl rfl rfl rfl (by first | (simp only [cmpP]; omega) | exact rfl) ?_
    | refine s_cmpF rfl rfl rfl rfl rfl rfl rfl (by first | (simp only [cmpP]; omega) | exact rfl) ?_
    | refine s_arith rfl rfl rfl rfl rfl rfl rfl (by first | (exact IntWalk.i64_in _ (by omega)) | (exact IntWalk.u8_in _ (by omega))) ?_
    | refine s_index tok rfl rfl rfl rfl rfl rfl rfl rfl rfl (by omega) hx ?_
    | refine s_callP rfl rfl rfl rfl rfl (hc) (SubL.of_eq rfl) ?_
    | refine a_condT rfl ?_
    | refine a_condF rfl ?_
    | refine a_skip ?_
    | refine a_exit ?_
    | refine a_ret ?_
    | refine a_block ?_)
          rw [show (((tabsL (m + 1) A k).length : Nat) : Int) - 2 = (k : Int) - 1 by omega]
          refine a_loop3 (fun (r : Nat) (ps : List Ar) (v : Value) => [(7, arcsA A), (10, .im 1 (tabsL (m + 1) A k)), (11, .lit v), (12, AI (stI ps)), (13, AI (enP ps : Nat)), (14, AI (wt ps)), (15, AI ((r : Int) - 1))]) (fun r ps v => [(v, .row 55 2 (ps.map cUs))]) (fun r ps _ => r ≤ k ∧ (∀ b ∈ ps, AOk m b) ∧ ps.length + r ≤ k ∧ runP (m + 1) A r ps = R0) (fun r _ _ => r) k [] (.slice none 0 0) ⟨Nat.le_refl _, by simp, by simp, hR0.symm⟩ ?_ (.free .nil) ?_
          · repeat (first | exact subs_nil | refine subs_cons (Sub.of_eq rfl) ?_ | refine subs_cons (Sub.nil _) ?_)
          · rintro r ps v ⟨hr, hps, hpl, hrun⟩
            have hw := wt_all hps
            have lps : (ps.map cUs).length = ps.length := by simp
            cases r with
            | zero =>
              simp only [runP] at hrun
              subst hrun
              repeat (first
    | refine a_seq ?_
    | refine a_reg ?_
    | refine a_regP mixed (by decide +kernel) ?_
    | refine t_lit tok rfl rfl rfl rfl ?_
    | refine t_im tok rfl rfl rfl rfl ?_
    | refine t_ip tok rfl rfl rfl rfl ?_
    | refine t_pt tok rfl rfl rfl rfl ?_
    | refine t_agg tok rfl rfl rfl rfl ?_
    | refine t_tup tok rfl rfl rfl rfl ?_
    | refine t_fn tok rfl rfl rfl rfl ?_
    | refine AL.nil ?_
    | refine s_skip rfl rfl rfl ?_
    | refine s_cmpT rfl rfl rfl rfl rfl rfl rfl (by first | (simp only [cmpP]; omega) | exact rfl) ?_
    | refine s_cmpF rfl rfl rfl rfl rfl rfl rfl (by first | (simp only [cmpP]; omega) | exact rfl) ?_
    | refine s_arith rfl rfl rfl rfl rfl rfl rfl (by first | (exact IntWalk.i64_in _ (by omega)) | (exact IntWalk.u8_in _ (by omega))) ?_
    | refine a_condT rfl ?_
    | refine a_condF rfl ?_
    | refine a_skip ?_
    | refine a_exit ?_
    | refine a_ret ?_
    | refine a_block ?_)
              exact finF 0 (x := .tup [.lit _, .lit _]) (.inr rfl) rfl rfl (FZ.tup (m := [usesA ps, _]) ⟨FZ.here, FZ.refl _, trivial⟩) ⟨rfl, rfl⟩
            | succ r =>
              simp only [runP] at hrun
              have x0 : (tabsL (m + 1) A k)[((((r + 1 : Nat) : Int)) - 1).toNat]? = some [matA (mkM (m + 1) (tab (m + 1) A r))] := by
                rw [show ((((r + 1 : Nat) : Int)) - 1).toNat = r by omega]
                exact tabsL_get (by omega)
              have hTl := hlow r (by omega)
              generalize tab (m + 1) A r = T at *
              generalize tabsL (m + 1) A k = TL at *
              repeat (first
    | refine a_seq ?_
    | refine a_reg ?_
    | refine a_regP mixed (by decide +kernel) ?_
    | refine t_lit tok rfl rfl rfl rfl ?_
    | refine t_im tok rfl rfl rfl rfl ?_
    | refine t_ip tok rfl rfl rfl rfl ?_
    | refine t_pt tok rfl rfl rfl rfl ?_
    | refine t_agg tok rfl rfl rfl rfl ?_
    | refine t_tup tok rfl rfl rfl rfl ?_
    | refine t_fn tok rfl rfl rfl rfl ?_
    | refine AL.nil ?_
    | refine s_skip rfl rfl rfl ?_
    | refine s_cmpT rfl rfl rfl rfl rfl rfl rfl (by first | (simp only [cmpP]; omega) | exact rfl) ?_
    | refine s_cmpF rfl rfl rfl rfl rfl rfl rfl (by first | (simp only [cmpP]; omega) | exact rfl) ?_
    | refine s_arith rfl rfl rfl rfl rfl rfl rfl (by first | (exact IntWalk.i64_in _ (by omega)) | (exact IntWalk.u8_in _ (by omega))) ?_
    | refine a_condT rfl ?_
    | refine a_condF rfl ?_
    | refine a_skip ?_
    | refine a_exit ?_
    | refine a_ret ?_
    | refine a_block ?_)
              refine a_loopX (fun j : Nat => [(7, arcsA A), (10, .im 1 TL), (11, .lit v), (12, AI (stI ps)), (13, AI (enP ps : Nat)), (14, AI (wt ps)), (15, AI (((r + 1 : Nat) : Int) - 1)), (64, arcsA A), (65, AI A.length), (66, AI j)]) (fun j => [(v, .row 55 2 (ps.map cUs))]) (fun j => j ≤ A.length ∧ ∀ a ∈ A.take j, pickB T ps a = false) (fun j => A.length - j) 0 ⟨Nat.zero_le _, by simp⟩ ?_ (OSub.refl _) ?_
              · rw [la]
                repeat (first | exact subs_nil | refine subs_cons (Sub.of_eq rfl) ?_ | refine subs_cons (Sub.nil _) ?_)
              · rintro j ⟨hj, hno⟩
                rcases Nat.lt_or_ge j A.length with h3 | h3
                · have ha := List.getElem?_eq_getElem h3
                  have hao := hok _ (List.getElem_mem h3)
                  generalize A[j] = a at ha hao
                  have hfa := fun hp => find_at (p := pickB T ps) hno ha hp
                  have hna := fun hp => none_take (p := pickB T ps) hno ha hp
                  have hps2 : ∀ b ∈ ps ++ [a], AOk m b := fun b hb => by
                    rcases List.mem_append.1 hb with hb | hb
                    · exact hps b hb
                    · simp at hb; subst hb; exact hao
                  obtain ⟨u0, s0, f, t, c⟩ := a
                  obtain ⟨o1, o2, o3, o4⟩ := hao
                  simp only at o1 o2 o3 o4
                  have xk : (A.map cA)[(j : Int).toNat]? = some [AI u0, AI s0, AI f, AI t, AI c] := map_get ha
                  have x1 := mat_row o2 T
                  cases ps with
                  | nil =>
                    have x2 := row_at o1 (T t)
                    have hb := hTl t f o2 o1
                    obtain ⟨hb1, hb2⟩ := hb
                    have hpk : pickB T [] ⟨u0, s0, f, t, c⟩ = (decide (T t f < far) && decide (c + T t f < 0)) := rfl
                    change T t f ≤ 1125899906842624 at hb2
                    rw [show stI [] = -1 from rfl, show wt [] = 0 from rfl]
                    by_cases h4 : T t f < far
                    · have h4' : T t f < 1125899906842624 := h4
                      rw [decide_eq_true h4, Bool.true_and] at hpk
                      by_cases h5 : c + T t f < 0
                      · rw [decide_eq_true h5] at hpk
                        have hstp : stepP T A [] = [⟨u0, s0, f, t, c⟩] := stepP_some (hfa hpk)
                        rw [hstp] at hrun
                        repeat (first
    | refine a_seq ?_
    | refine a_reg ?_
    | refine a_regR mixed (by decide +kernel) ?_
    | refine t_lit tok rfl rfl rfl rfl ?_
    | refine t_im tok rfl rfl rfl rfl ?_
    | refine t_ip tok rfl rfl rfl rfl ?_
    | refine t_pt tok rfl rfl rfl rfl ?_
    | refine t_agg tok rfl rfl rfl rfl ?_
    | refine t_tup tok rfl rfl rfl rfl ?_
    | refine t_fn tok rfl rfl rfl rfl ?_
    | refine AL.nil ?_
    | refine s_skip rfl rfl rfl ?_
    | refine s_cmpT rfl rfl rfl rfl rfl rfl rfl (by first | (simp only [cmpP]; omega) | exact rfl) ?_
    | refine s_cmpF rfl rfl rfl rfl rfl rfl rfl (by first | (simp only [cmpP]; omega) | exact rfl) ?_
    | refine s_arith rfl rfl rfl rfl rfl rfl rfl (by first | (exact IntWalk.i64_in _ (by omega)) | (exact IntWalk.u8_in _ (by omega))) ?_
    | refine s_alloc tok rfl rfl rfl rfl rfl (fun u => ?_)
    | refine s_store tok 0 rfl rfl rfl rfl rfl rfl rfl rfl (by decide) rfl rfl rfl (Nat.le_refl _) ?_
    | refine s_index tok rfl rfl rfl rfl rfl rfl rfl rfl rfl (by omega) xk ?_
    | refine s_ownLoad tok 0 rfl rfl rfl rfl (by decide) rfl rfl rfl rfl rfl rfl (List.cons_ne_nil _ _) ?_
    | refine s_index tok rfl rfl rfl rfl rfl rfl rfl rfl rfl (by omega) x0 ?_
    | refine s_index tok rfl rfl rfl rfl rfl rfl rfl rfl rfl (by omega) x1 ?_
    | refine s_index tok rfl rfl rfl rfl rfl rfl rfl rfl rfl (by omega) x2 ?_
    | refine a_condT rfl ?_
    | refine a_condF rfl ?_
    | refine a_skip ?_
    | refine a_exit ?_
    | refine a_ret ?_
    | refine a_block ?_)
                        (first | refine s_build1 tok rfl rfl rfl rfl rfl rfl rfl rfl (fun u => ?_) | refine s_build1M tok rfl rfl rfl rfl rfl rfl rfl (fun u => ?_) | refine s_build1A tok rfl rfl rfl rfl rfl rfl rfl rfl (by decide) (fun u => ?_)); refine s_append1 tok 1 rfl rfl rfl rfl rfl rfl (by decide) rfl rfl rfl rfl (by omega) (by omega) (fun v' => ?_)
                        repeat (first
    | refine a_seq ?_
    | refine a_reg ?_
    | refine a_regR mixed (by decide +kernel) ?_
    | refine t_lit tok rfl rfl rfl rfl ?_
    | refine t_im tok rfl rfl rfl rfl ?_
    | refine t_ip tok rfl rfl rfl rfl ?_
    | refine t_pt tok rfl rfl rfl rfl ?_
    | refine t_agg tok rfl rfl rfl rfl ?_
    | refine t_tup tok rfl rfl rfl rfl ?_
    | refine t_fn tok rfl rfl rfl rfl ?_
    | refine AL.nil ?_
    | refine s_skip rfl rfl rfl ?_
    | refine s_cmpT rfl rfl rfl rfl rfl rfl rfl (by first | (simp only [cmpP]; omega) | exact rfl) ?_
    | refine s_cmpF rfl rfl rfl rfl rfl rfl rfl (by first | (simp only [cmpP]; omega) | exact rfl) ?_
    | refine s_arith rfl rfl rfl rfl rfl rfl rfl (by first | (exact IntWalk.i64_in _ (by omega)) | (exact IntWalk.u8_in _ (by omega))) ?_
    | refine s_alloc tok rfl rfl rfl rfl rfl (fun u => ?_)
    | refine s_store tok 0 rfl rfl rfl rfl rfl rfl rfl rfl (by decide) rfl rfl rfl (Nat.le_refl _) ?_
    | refine s_index tok rfl rfl rfl rfl rfl rfl rfl rfl rfl (by omega) xk ?_
    | refine s_ownLoad tok 0 rfl rfl rfl rfl (by decide) rfl rfl rfl rfl rfl rfl (List.cons_ne_nil _ _) ?_
    | refine s_index tok rfl rfl rfl rfl rfl rfl rfl rfl rfl (by omega) x0 ?_
    | refine s_index tok rfl rfl rfl rfl rfl rfl rfl rfl rfl (by omega) x1 ?_
    | refine s_index tok rfl rfl rfl rfl rfl rfl rfl rfl rfl (by omega) x2 ?_
    | refine a_condT rfl ?_
    | refine a_condF rfl ?_
    | refine a_skip ?_
    | refine a_exit ?_
    | refine a_ret ?_
    | refine a_block ?_)
                        refine ⟨r, [⟨u0, s0, f, t, c⟩], v', ⟨by omega, hps2, by simp; omega, hrun⟩, by omega, ?_, ?_⟩
                        · rw [show (((r + 1 : Nat) : Int) - 1 - 1) = (r : Int) - 1 by omega]
                          rw [show stI [⟨u0, s0, f, t, c⟩] = (f : Int) from rfl, show enP [⟨u0, s0, f, t, c⟩] = t from rfl, show wt [⟨u0, s0, f, t, c⟩] = 0 + c by simp [wt]]
                          repeat (first | exact subs_nil | refine subs_cons (Sub.of_eq rfl) ?_ | refine subs_cons (Sub.nil _) ?_)
                        · skip
                          exact .drop (OSub.refl _)
                      · rw [decide_eq_false h5] at hpk
                        repeat (first
    | refine a_seq ?_
    | refine a_reg ?_
    | refine a_regR mixed (by decide +kernel) ?_
    | refine t_lit tok rfl rfl rfl rfl ?_
    | refine t_im tok rfl rfl rfl rfl ?_
    | refine t_ip tok rfl rfl rfl rfl ?_
    | refine t_pt tok rfl rfl rfl rfl ?_
    | refine t_agg tok rfl rfl rfl rfl ?_
    | refine t_tup tok rfl rfl rfl rfl ?_
    | refine t_fn tok rfl rfl rfl rfl ?_
    | refine AL.nil ?_
    | refine s_skip rfl rfl rfl ?_
    | refine s_cmpT rfl rfl rfl rfl rfl rfl rfl (by first | (simp only [cmpP]; omega) | exact rfl) ?_
    | refine s_cmpF rfl rfl rfl rfl rfl rfl rfl (by first | (simp only [cmpP]; omega) | exact rfl) ?_
    | refine s_arith rfl rfl rfl rfl rfl rfl rfl (by first | (exact IntWalk.i64_in _ (by omega)) | (exact IntWalk.u8_in _ (by omega))) ?_
    | refine s_alloc tok rfl rfl rfl rfl rfl (fun u => ?_)
    | refine s_store tok 0 rfl rfl rfl rfl rfl rfl rfl rfl (by decide) rfl rfl rfl (Nat.le_refl _) ?_
    | refine s_index tok rfl rfl rfl rfl rfl rfl rfl rfl rfl (by omega) xk ?_
    | refine s_ownLoad tok 0 rfl rfl rfl rfl (by decide) rfl rfl rfl rfl rfl rfl (List.cons_ne_nil _ _) ?_
    | refine s_index tok rfl rfl rfl rfl rfl rfl rfl rfl rfl (by omega) x0 ?_
    | refine s_index tok rfl rfl rfl rfl rfl rfl rfl rfl rfl (by omega) x1 ?_
    | refine s_index tok rfl rfl rfl rfl rfl rfl rfl rfl rfl (by omega) x2 ?_
    | refine a_condT rfl ?_
    | refine a_condF rfl ?_
    | refine a_skip ?_
    | refine a_exit ?_
    | refine a_ret ?_
    | refine a_block ?_)
                        refine ⟨j + 1, ⟨by omega, hna hpk⟩, by omega, ?_, .drop (OSub.refl _)⟩
                        repeat (first | exact subs_nil | refine subs_cons (Sub.of_eq rfl) ?_ | refine subs_cons (Sub.nil _) ?_)
                    · have h4' : ¬ T t f < 1125899906842624 := h4
                      rw [decide_eq_false h4, Bool.false_and] at hpk
                      repeat (first
    | refine a_seq ?_
    | refine a_reg ?_
    | refine a_regR mixed (by decide +kernel) ?_
    | refine t_lit tok rfl rfl rfl rfl ?_
    | refine t_im tok rfl rfl rfl rfl ?_
    | refine t_ip tok rfl rfl rfl rfl ?_
    | refine t_pt tok rfl rfl rfl rfl ?_
    | refine t_agg tok rfl rfl rfl rfl ?_
    | refine t_tup tok rfl rfl rfl rfl ?_
    | refine t_fn tok rfl rfl rfl rfl ?_
    | refine AL.nil ?_
    | refine s_skip rfl rfl rfl ?_
    | refine s_cmpT rfl rfl rfl rfl rfl rfl rfl (by first | (simp only [cmpP]; omega) | exact rfl) ?_
    | refine s_cmpF rfl rfl rfl rfl rfl rfl rfl (by first | (simp only [cmpP]; omega) | exact rfl) ?_
    | refine s_arith rfl rfl rfl rfl rfl rfl rfl (by first | (exact IntWalk.i64_in _ (by omega)) | (exact IntWalk.u8_in _ (by omega))) ?_
    | refine s_alloc tok rfl rfl rfl rfl rfl (fun u => ?_)
    | refine s_store tok 0 rfl rfl rfl rfl rfl rfl rfl rfl (by decide) rfl rfl rfl (Nat.le_refl _) ?_
    | refine s_index tok rfl rfl rfl rfl rfl rfl rfl rfl rfl (by omega) xk ?_
    | refine s_ownLoad tok 0 rfl rfl rfl rfl (by decide) rfl rfl rfl rfl rfl rfl (List.cons_ne_nil _ _) ?_
    | refine s_index tok rfl rfl rfl rfl rfl rfl rfl rfl rfl (by omega) x0 ?_
    | refine s_index tok rfl rfl rfl rfl rfl rfl rfl rfl rfl (by omega) x1 ?_
    | refine s_index tok rfl rfl rfl rfl rfl rfl rfl rfl rfl (by omega) x2 ?_
    | refine a_condT rfl ?_
    | refine a_condF rfl ?_
    | refine a_skip ?_
    | refine a_exit ?_
    | refine a_ret ?_
    | refine a_block ?_)
                      refine ⟨j + 1, ⟨by omega, hna hpk⟩, by omega, ?_, .drop (OSub.refl _)⟩
                      repeat (first | exact subs_nil | refine subs_cons (Sub.of_eq rfl) ?_ | refine subs_cons (Sub.nil _) ?_)
                  | cons b w =>
                    have hbo := hps b (by simp)
                    obtain ⟨ob1, _⟩ := hbo
                    have hen := enP_lt hps
                    have x2 := row_at ob1 (T t)
                    have hb := hTl t b.f o2 ob1
                    obtain ⟨hb1, hb2⟩ := hb
                    have hpk : pickB T (b :: w) ⟨u0, s0, f, t, c⟩ = (decide (f = enP (b :: w)) && decide (T t b.f < far) && decide (wt (b :: w) + c + T t b.f < 0)) := rfl
                    change T t b.f ≤ 1125899906842624 at hb2
                    rw [show stI (b :: w) = (b.f : Int) from rfl]
                    have hst2 : stI (b :: w ++ [⟨u0, s0, f, t, c⟩]) = (b.f : Int) := rfl
                    have hen2 : enP (b :: w ++ [⟨u0, s0, f, t, c⟩]) = t := enP_snoc _ _
                    have hwt2 : wt (b :: w ++ [⟨u0, s0, f, t, c⟩]) = wt (b :: w) + c := by rw [wt_append]; simp [wt]
                    have hus2 : (b :: w ++ [(⟨u0, s0, f, t, c⟩ : Ar)]).map cUs = (b :: w).map cUs ++ [[AI u0, AI s0]] := by rw [List.map_append]; rfl
                    simp only [List.length_cons] at hw lps hpl
                    generalize wt (b :: w) = W at *
                    generalize hEn : enP (b :: w) = En at *
                    generalize hbf : b.f = bf at *
                    generalize T t bf = y at *
                    by_cases e1 : f = En
                    · rw [decide_eq_true e1, Bool.true_and] at hpk
                      subst e1
                      by_cases h4 : y < far
                      · have h4' : y < 1125899906842624 := h4
                        rw [decide_eq_true h4, Bool.true_and] at hpk
                        by_cases h5 : W + c + y < 0
                        · rw [decide_eq_true h5] at hpk
                          have hstp : stepP T A (b :: w) = b :: w ++ [⟨u0, s0, f, t, c⟩] := stepP_some (hfa hpk)
                          rw [hstp] at hrun
                          repeat (first
    | refine a_seq ?_
    | refine a_reg ?_
    | refine a_regR mixed (by decide +kernel) ?_
    | refine t_lit tok rfl rfl rfl rfl ?_
    | refine t_im tok rfl rfl rfl rfl ?_
    | refine t_ip tok rfl rfl rfl rfl ?_
    | refine t_pt tok rfl rfl rfl rfl ?_
    | refine t_agg tok rfl rfl rfl rfl ?_
    | refine t_tup tok rfl rfl rfl rfl ?_
    | refine t_fn tok rfl rfl rfl rfl ?_
    | refine AL.nil ?_
    | refine s_skip rfl rfl rfl ?_
    | refine s_cmpT rfl rfl rfl rfl rfl rfl rfl (by first | (simp only [cmpP]; omega) | exact rfl) ?_
    | refine s_cmpF rfl rfl rfl rfl rfl rfl rfl (by first | (simp only [cmpP]; omega) | exact rfl) ?_
    | refine s_arith rfl rfl rfl rfl rfl rfl rfl (by first | (exact IntWalk.i64_in _ (by omega)) | (exact IntWalk.u8_in _ (by omega))) ?_
    | refine s_alloc tok rfl rfl rfl rfl rfl (fun u => ?_)
    | refine s_store tok 0 rfl rfl rfl rfl rfl rfl rfl rfl (by decide) rfl rfl rfl (Nat.le_refl _) ?_
    | refine s_index tok rfl rfl rfl rfl rfl rfl rfl rfl rfl (by omega) xk ?_
    | refine s_ownLoad tok 0 rfl rfl rfl rfl (by decide) rfl rfl rfl rfl rfl rfl (List.cons_ne_nil _ _) ?_
    | refine s_index tok rfl rfl rfl rfl rfl rfl rfl rfl rfl (by omega) x0 ?_
    | refine s_index tok rfl rfl rfl rfl rfl rfl rfl rfl rfl (by omega) x1 ?_
    | refine s_index tok rfl rfl rfl rfl rfl rfl rfl rfl rfl (by omega) x2 ?_
    | refine a_condT rfl ?_
    | refine a_condF rfl ?_
    | refine a_skip ?_
    | refine a_exit ?_
    | refine a_ret ?_
    | refine a_block ?_)
                          (first | refine s_build1 tok rfl rfl rfl rfl rfl rfl rfl rfl (fun u => ?_) | refine s_build1M tok rfl rfl rfl rfl rfl rfl rfl (fun u => ?_) | refine s_build1A tok rfl rfl rfl rfl rfl rfl rfl rfl (by decide) (fun u => ?_)); refine s_append1 tok 1 rfl rfl rfl rfl rfl rfl (by decide) rfl rfl rfl rfl (by omega) (by omega) (fun v' => ?_)
                          repeat (first
    | refine a_seq ?_
    | refine a_reg ?_
    | refine a_regR mixed (by decide +kernel) ?_
    | refine t_lit tok rfl rfl rfl rfl ?_
    | refine t_im tok rfl rfl rfl rfl ?_
    | refine t_ip tok rfl rfl rfl rfl ?_
    | refine t_pt tok rfl rfl rfl rfl ?_
    | refine t_agg tok rfl rfl rfl rfl ?_
    | refine t_tup tok rfl rfl rfl rfl ?_
    | refine t_fn tok rfl rfl rfl rfl ?_
    | refine AL.nil ?_
    | refine s_skip rfl rfl rfl ?_
    | refine s_cmpT rfl rfl rfl rfl rfl rfl rfl (by first | (simp only [cmpP]; omega) | exact rfl) ?_
    | refine s_cmpF rfl rfl rfl rfl rfl rfl rfl (by first | (simp only [cmpP]; omega) | exact rfl) ?_
    | refine s_arith rfl rfl rfl rfl rfl rfl rfl (by first | (exact IntWalk.i64_in _ (by omega)) | (exact IntWalk.u8_in _ (by omega))) ?_
    | refine s_alloc tok rfl rfl rfl rfl rfl (fun u => ?_)
    | refine s_store tok 0 rfl rfl rfl rfl rfl rfl rfl rfl (by decide) rfl rfl rfl (Nat.le_refl _) ?_
    | refine s_index tok rfl rfl rfl rfl rfl rfl rfl rfl rfl (by omega) xk ?_
    | refine s_ownLoad tok 0 rfl rfl rfl rfl (by decide) rfl rfl rfl rfl rfl rfl (List.cons_ne_nil _ _) ?_
    | refine s_index tok rfl rfl rfl rfl rfl rfl rfl rfl rfl (by omega) x0 ?_
    | refine s_index tok rfl rfl rfl rfl rfl rfl rfl rfl rfl (by omega) x1 ?_
    | refine s_index tok rfl rfl rfl rfl rfl rfl rfl rfl rfl (by omega) x2 ?_
    | refine a_condT rfl ?_
    | refine a_condF rfl ?_
    | refine a_skip ?_
    | refine a_exit ?_
    | refine a_ret ?_
    | refine a_block ?_)
                          refine ⟨r, b :: w ++ [(⟨u0, s0, f, t, c⟩ : Ar)], v', ⟨by omega, hps2, by simp; omega, hrun⟩, by omega, ?_, ?_⟩
                          · rw [show (((r + 1 : Nat) : Int) - 1 - 1) = (r : Int) - 1 by omega]
                            rw [hst2, hen2, hwt2]
                            repeat (first | exact subs_nil | refine subs_cons (Sub.of_eq rfl) ?_ | refine subs_cons (Sub.nil _) ?_)
                          · rw [hus2]
                            exact .drop (OSub.refl _)
                        · rw [decide_eq_false h5] at hpk
                          repeat (first
    | refine a_seq ?_
    | refine a_reg ?_
    | refine a_regR mixed (by decide +kernel) ?_
    | refine t_lit tok rfl rfl rfl rfl ?_
    | refine t_im tok rfl rfl rfl rfl ?_
    | refine t_ip tok rfl rfl rfl rfl ?_
    | refine t_pt tok rfl rfl rfl rfl ?_
    | refine t_agg tok rfl rfl rfl rfl ?_
    | refine t_tup tok rfl rfl rfl rfl ?_
    | refine t_fn tok rfl rfl rfl rfl ?_
    | refine AL.nil ?_
    | refine s_skip rfl rfl rfl ?_
    | refine s_cmpT rfl rfl rfl rfl rfl rfl rfl (by first | (simp only [cmpP]; omega) | exact rfl) ?_
    | refine s_cmpF rfl rfl rfl rfl rfl rfl rfl (by first | (simp only [cmpP]; omega) | exact rfl) ?_
    | refine s_arith rfl rfl rfl rfl rfl rfl rfl (by first | (exact IntWalk.i64_in _ (by omega)) | (exact IntWalk.u8_in _ (by omega))) ?_
    | refine s_alloc tok rfl rfl rfl rfl rfl (fun u => ?_)
    | refine s_store tok 0 rfl rfl rfl rfl rfl rfl rfl rfl (by decide) rfl rfl rfl (Nat.le_refl _) ?_
    | refine s_index tok rfl rfl rfl rfl rfl rfl rfl rfl rfl (by omega) xk ?_
    | refine s_ownLoad tok 0 rfl rfl rfl rfl (by decide) rfl rfl rfl rfl rfl rfl (List.cons_ne_nil _ _) ?_
    | refine s_index tok rfl rfl rfl rfl rfl rfl rfl rfl rfl (by omega) x0 ?_
    | refine s_index tok rfl rfl rfl rfl rfl rfl rfl rfl rfl (by omega) x1 ?_
    | refine s_index tok rfl rfl rfl rfl rfl rfl rfl rfl rfl (by omega) x2 ?_
    | refine a_condT rfl ?_
    | refine a_condF rfl ?_
    | refine a_skip ?_
    | refine a_exit ?_
    | refine a_ret ?_
    | refine a_block ?_)
                          refine ⟨j + 1, ⟨by omega, hna hpk⟩, by omega, ?_, .drop (OSub.refl _)⟩
                          repeat (first | exact subs_nil | refine subs_cons (Sub.of_eq rfl) ?_ | refine subs_cons (Sub.nil _) ?_)
                      · have h4' : ¬ y < 1125899906842624 := h4
                        rw [decide_eq_false h4, Bool.false_and] at hpk
                        repeat (first
    | refine a_seq ?_
    | refine a_reg ?_
    | refine a_regR mixed (by decide +kernel) ?_
    | refine t_lit tok rfl rfl rfl rfl ?_
    | refine t_im tok rfl rfl rfl rfl ?_
    | refine t_ip tok rfl rfl rfl rfl ?_
    | refine t_pt tok rfl rfl rfl rfl ?_
    | refine t_agg tok rfl rfl rfl rfl ?_
    | refine t_tup tok rfl rfl rfl rfl ?_
    | refine t_fn tok rfl rfl rfl rfl ?_
    | refine AL.nil ?_
    | refine s_skip rfl rfl rfl ?_
    | refine s_cmpT rfl rfl rfl rfl rfl rfl rfl (by first | (simp only [cmpP]; omega) | exact rfl) ?_
    | refine s_cmpF rfl rfl rfl rfl rfl rfl rfl (by first | (simp only [cmpP]; omega) | exact rfl) ?_
    | refine s_arith rfl rfl rfl rfl rfl rfl rfl (by first | (exact IntWalk.i64_in _ (by omega)) | (exact IntWalk.u8_in _ (by omega))) ?_
    | refine s_alloc tok rfl rfl rfl rfl rfl (fun u => ?_)
    | refine s_store tok 0 rfl rfl rfl rfl rfl rfl rfl rfl (by decide) rfl rfl rfl (Nat.le_refl _) ?_
    | refine s_index tok rfl rfl rfl rfl rfl rfl rfl rfl rfl (by omega) xk ?_
    | refine s_ownLoad tok 0 rfl rfl rfl rfl (by decide) rfl rfl rfl rfl rfl rfl (List.cons_ne_nil _ _) ?_
    | refine s_index tok rfl rfl rfl rfl rfl rfl rfl rfl rfl (by omega) x0 ?_
    | refine s_index tok rfl rfl rfl rfl rfl rfl rfl rfl rfl (by omega) x1 ?_
    | refine s_index tok rfl rfl rfl rfl rfl rfl rfl rfl rfl (by omega) x2 ?_
    | refine a_condT rfl ?_
    | refine a_condF rfl ?_
    | refine a_skip ?_
    | refine a_exit ?_
    | refine a_ret ?_
    | refine a_block ?_)
                        refine ⟨j + 1, ⟨by omega, hna hpk⟩, by omega, ?_, .drop (OSub.refl _)⟩
                        repeat (first | exact subs_nil | refine subs_cons (Sub.of_eq rfl) ?_ | refine subs_cons (Sub.nil _) ?_)
                    · rw [decide_eq_false e1, Bool.false_and, Bool.false_and] at hpk
                      repeat (first
    | refine a_seq ?_
    | refine a_reg ?_
    | refine a_regR mixed (by decide +kernel) ?_
    | refine t_lit tok rfl rfl rfl rfl ?_
    | refine t_im tok rfl rfl rfl rfl ?_
    | refine t_ip tok rfl rfl rfl rfl ?_
    | refine t_pt tok rfl rfl rfl rfl ?_
    | refine t_agg tok rfl rfl rfl rfl ?_
    | refine t_tup tok rfl rfl rfl rfl ?_
    | refine t_fn tok rfl rfl rfl rfl ?_
    | refine AL.nil ?_
    | refine s_skip rfl rfl rfl ?_
    | refine s_cmpT rfl rfl rfl rfl rfl rfl rfl (by first | (simp only [cmpP]; omega) | exact rfl) ?_
    | refine s_cmpF rfl rfl rfl rfl rfl rfl rfl (by first | (simp only [cmpP]; omega) | exact rfl) ?_
    | refine s_arith rfl rfl rfl rfl rfl rfl rfl (by first | (exact IntWalk.i64_in _ (by omega)) | (exact IntWalk.u8_in _ (by omega))) ?_
    | refine s_alloc tok rfl rfl rfl rfl rfl (fun u => ?_)
    | refine s_store tok 0 rfl rfl rfl rfl rfl rfl rfl rfl (by decide) rfl rfl rfl (Nat.le_refl _) ?_
    | refine s_index tok rfl rfl rfl rfl rfl rfl rfl rfl rfl (by omega) xk ?_
    | refine s_ownLoad tok 0 rfl rfl rfl rfl (by decide) rfl rfl rfl rfl rfl rfl (List.cons_ne_nil _ _) ?_
    | refine s_index tok rfl rfl rfl rfl rfl rfl rfl rfl rfl (by omega) x0 ?_
    | refine s_index tok rfl rfl rfl rfl rfl rfl rfl rfl rfl (by omega) x1 ?_
    | refine s_index tok rfl rfl rfl rfl rfl rfl rfl rfl rfl (by omega) x2 ?_
    | refine a_condT rfl ?_
    | refine a_condF rfl ?_
    | refine a_skip ?_
    | refine a_exit ?_
    | refine a_ret ?_
    | refine a_block ?_)
                      refine ⟨j + 1, ⟨by omega, hna hpk⟩, by omega, ?_, .drop (OSub.refl _)⟩
                      repeat (first | exact subs_nil | refine subs_cons (Sub.of_eq rfl) ?_ | refine subs_cons (Sub.nil _) ?_)
                · obtain rfl : j = A.length := by omega
                  rw [List.take_length] at hno
                  have hst : stepP T A ps = ps := by
                    unfold stepP
                    rw [List.find?_eq_none.2 (fun x hx => by simp [hno x hx])]
                  rw [hst] at hrun
                  repeat (first
    | refine a_seq ?_
    | refine a_reg ?_
    | refine a_regP mixed (by decide +kernel) ?_
    | refine t_lit tok rfl rfl rfl rfl ?_
    | refine t_im tok rfl rfl rfl rfl ?_
    | refine t_ip tok rfl rfl rfl rfl ?_
    | refine t_pt tok rfl rfl rfl rfl ?_
    | refine t_agg tok rfl rfl rfl rfl ?_
    | refine t_tup tok rfl rfl rfl rfl ?_
    | refine t_fn tok rfl rfl rfl rfl ?_
    | refine AL.nil ?_
    | refine s_skip rfl rfl rfl ?_
    | refine s_cmpT rfl rfl rfl rfl rfl rfl rfl (by first | (simp only [cmpP]; omega) | exact rfl) ?_
    | refine s_cmpF rfl rfl rfl rfl rfl rfl rfl (by first | (simp only [cmpP]; omega) | exact rfl) ?_
    | refine s_arith rfl rfl rfl rfl rfl rfl rfl (by first | (exact IntWalk.i64_in _ (by omega)) | (exact IntWalk.u8_in _ (by omega))) ?_
    | refine a_condT rfl ?_
    | refine a_condF rfl ?_
    | refine a_skip ?_
    | refine a_exit ?_
    | refine a_ret ?_
    | refine a_block ?_)
                  refine ⟨r, ps, v, ⟨by omega, hps, by omega, hrun⟩, by omega, ?_, OSub.refl _⟩
                  rw [show (((r + 1 : Nat) : Int) - 1 - 1) = (r : Int) - 1 by omega]
                  repeat (first | exact subs_nil | refine subs_cons (Sub.of_eq rfl) ?_ | refine subs_cons (Sub.nil _) ?_)
  · rw [show refuteR n l = ([], validT n l) by simp only [refuteR, if_pos h0]]
    generalize validT n l = e at *
    refine a_enter Try.func18 (by kernel_rfl) rfl Try.ntmps18 rfl (by simp) ?_
    repeat (first
    | refine a_seq ?_
    | refine a_reg ?_
    | refine a_regP mixed (by decide +kernel) ?_
    | refine t_lit tok rfl rfl rfl rfl ?_
    | refine t_im tok rfl rfl rfl rfl ?_
    | refine t_ip tok rfl rfl rfl rfl ?_
    | refine t_pt tok rfl rfl rfl rfl ?_
    | refine t_agg tok rfl rfl rfl rfl ?_
    | refine t_tup tok rfl rfl rfl rfl ?_
    | refine t_fn tok rfl rfl rfl rfl ?_
    | refine AL.nil ?_
    | refine s_skip rfl rfl rfl ?_
    | refine s_cmpT rfl rfl rfl rfl rfl rfl rfl (by first | (simp only [cmpP]; omega) | exact rfl) ?_
    | refine s_cmpF rfl rfl rfl rfl rfl rfl rfl (by first | (simp only [cmpP]; omega) | exact rfl) ?_
    | refine s_arith rfl rfl rfl rfl rfl rfl rfl (by first | (exact IntWalk.i64_in _ (by omega)) | (exact IntWalk.u8_in _ (by omega))) ?_
    | refine s_callP rfl rfl rfl rfl rfl (hV) (SubL.of_eq rfl) ?_
    | refine a_condT rfl ?_
    | refine a_condF rfl ?_
    | refine a_skip ?_
    | refine a_exit ?_
    | refine a_ret ?_
    | refine a_block ?_)
    refine fin (x := .tup [.lit _, .lit _]) (.inr rfl) rfl ?_ ⟨rfl, rfl⟩ (OSub.refl _)
    exact Sub.tup ⟨nil2, Sub.refl _, trivial⟩
end Go.Proofs.Ytniboaekigoheaa
