/-
  Codes that are read: the reference's Decode. Codes of at most 1000 numbers.
-/
import Derived.Test.YtoaenbfidlgjhaaSjQ8
import Derived.Test.YtoaenbfidlgjhaaW29
import Derived.Test.YtoaenbfidlgjhaaW30
namespace Go.Proofs.Ytoaenbfidlgjhaa
open Go.Sj Go.Sj.Typ Go.Sj.Sta Go.Sj.Can
set_option linter.unusedVariables false
set_option linter.unusedSimpArgs false
set_option maxHeartbeats 16000000

abbrev rrL (E1 E2 : Nat) (c : List Int) (u g U : Value) (bad : Bool) (p : Nat) (ns : List Int) (es : List Ed) (vn ve : Value) : Own := [(u, .box [ints c, AI p, AB bad]), (ve, .row E2 3 (es.map cEd)), (vn, .row E1 1 (rowI ns)), (g, .box [.lit vn, .lit ve]), (U, .box [nilA, nilA])]
theorem GDecode_spec (c : List Int) (hc : c.length ≤ 1000) : Pure Try.prog 36 [ints c] (.tup [grA (decR c).1, AI (decR c).2]) := by
  have lc : (rowI c).length = c.length := by simp
  rcases numR_cases 8 c with ⟨h1, h2⟩ | ⟨x, r, h1, h0, h3, h4, h5⟩
  · have s1 : ∀ u, ACalls Try.prog 60 [.pt u 0 0 0, AI 8] [(u, .box [ints c, AI 0, AB false])] (fun y M => ∃ p' : Nat, y = AI 0 ∧ M = [(u, .box [ints c, AI p', AB true])]) := fun u => by
      have h := gnext_spec u c 0 8 false hc (Nat.zero_le _)
      rw [List.drop_zero, h2] at h
      exact h.mono fun y M ⟨p', _, _, e1, e2⟩ => ⟨p', e1, e2⟩
    rw [decR_none h1]
    refine a_enterM (rs := [.cell 2 25, .tmp 3]) tok Try.func36 (by kernel_rfl) rfl Try.ntmps36 rfl (by decide) (by simp) ?_
    refine a_seq ?_
    refine a_reg ?_
    repeat (first | refine gZ pk ?_ | (show AL _ _ _ _ _ _ _; first | refine jL tok (fun U2 => ?_)))
    refine a_reg ?_
    repeat (first | refine gZ pk ?_ | (show AL _ _ _ _ _ _ _; first | refine jB (fun ur => ?_)))
    refine a_reg ?_
    repeat (first | refine gZ pk ?_ | (show AL _ _ _ _ _ _ _; first | refine jL tok (fun ug => ?_)))
    refine a_goto (GoTo.perm (L' := [(ur, OB.box [ints c, AI 0, AB false]), (ug, OB.box [nilA, nilA]), (U2, OB.box [nilA, nilA])]) (List.Perm.swap _ _ _)) ?_
    repeat (first | refine gN pk ?_ | (show AL _ _ _ _ _ _ _; first | refine s_call (Lc := [(ur, .box [ints c, AI 0, AB false])]) (Lr := [(ug, .box [nilA, nilA]), (U2, .box [nilA, nilA])]) rfl rfl rfl rfl rfl (s1 ur) (SubL.of_eq rfl) (List.Perm.refl _) ?_; rintro _ _ ⟨p1, rfl, rfl⟩))
    refine a_loopG2 (fun (i : Nat) (_ : Nat) => [(2, .pt U2 0 0 0), (4, .pt ur 0 0 0), (6, AI 0), (7, AI 0)]) (fun _ _ => [(ur, .box [ints c, AI p1, AB true]), (ug, .box [nilA, nilA]), (U2, .box [nilA, nilA])]) (fun i _ => i = 0) (fun _ _ => 0) 0 0 rfl (.sub (by exact subQ) (OSub.refl _)) ?_
    rintro i j rfl
    repeat (first | refine gV pk ?_ | (show AL _ _ _ _ _ _ _; first | refine jO tok 0 ?_ | refine jS tok 2 ?_))
    refine a_frzBox 2 2 rfl rfl ?_
    refine a_ret ?_
    exact ⟨.inr rfl, _, _, [], rfl, Turn.of (Sub.tup (l := [.agg [nilA, nilA], AI 2]) (m := [grA ⟨[], []⟩, AI 2]) ⟨Sub.agg (m := [ints [], edsA []]) ⟨Sub.nil 1, Sub.nil 3, trivial⟩, Sub.refl _, trivial⟩) (OSub.none _), rfl, rfl⟩
  · obtain ⟨n, rfl⟩ : ∃ n : Nat, x = n := ⟨x.toNat, by omega⟩
    have s1 : ∀ u, ACalls Try.prog 60 [.pt u 0 0 0, AI 8] [(u, .box [ints c, AI 0, AB false])] (fun y M => ∃ p' : Nat, p' ≤ c.length ∧ c.drop p' = r ∧ y = AI n ∧ M = [(u, .box [ints c, AI p', AB false])]) := fun u => by
      have h := gnext_spec u c 0 8 false hc (Nat.zero_le _)
      rw [List.drop_zero, h5] at h
      exact h
    have hlr : r.length ≤ 1000 := by rw [h0, List.length_cons] at hc; omega
    obtain ⟨R, hR⟩ : ∃ R, decR c = R := ⟨_, rfl⟩
    rw [hR]
    rw [decR_run h1] at hR
    clear h1 h5 h0
    obtain ⟨s0, hs0⟩ : ∃ s0 : Rd, some (r, ⟨[], []⟩) = s0 := ⟨_, rfl⟩
    rw [hs0] at hR
    have hbad : ∀ k, k ≤ n → runP s0 k = none → R = (⟨[], []⟩, 2) := fun k hk h => by
      rw [runP_none h hk] at hR
      exact hR.symm
    refine a_enterM (rs := [.cell 2 25, .tmp 3]) tok Try.func36 (by kernel_rfl) rfl Try.ntmps36 rfl (by decide) (by simp) ?_
    refine a_seq ?_
    refine a_reg ?_
    repeat (first | refine gZ pk ?_ | (show AL _ _ _ _ _ _ _; first | refine jL tok (fun U2 => ?_)))
    refine a_reg ?_
    repeat (first | refine gZ pk ?_ | (show AL _ _ _ _ _ _ _; first | refine jB (fun ur => ?_)))
    refine a_reg ?_
    repeat (first | refine gZ pk ?_ | (show AL _ _ _ _ _ _ _; first | refine jL tok (fun ug => ?_)))
    refine a_goto (GoTo.perm (L' := [(ur, OB.box [ints c, AI 0, AB false]), (ug, OB.box [nilA, nilA]), (U2, OB.box [nilA, nilA])]) (List.Perm.swap _ _ _)) ?_
    repeat (first | refine gN pk ?_ | (show AL _ _ _ _ _ _ _; first | refine s_call (Lc := [(ur, .box [ints c, AI 0, AB false])]) (Lr := [(ug, .box [nilA, nilA]), (U2, .box [nilA, nilA])]) rfl rfl rfl rfl rfl (s1 ur) (SubL.of_eq rfl) (List.Perm.refl _) ?_; rintro _ _ ⟨p1, hp1, hd1, rfl, rfl⟩))
    refine a_loopG7 (fun (k : Nat) (bad : Bool) (p : Nat) (ns : List Int) (es : List Ed) (vn ve : Value) => [(0, ints c), (2, .pt U2 0 0 0), (4, .pt ur 0 0 0), (5, .pt ug 0 0 0), (6, AI n), (7, AI k)]) (fun _ bad p ns es vn ve => rrL 3 60 c ur ug U2 bad p ns es vn ve) (fun k bad p ns es vn ve => k ≤ n ∧ p ≤ c.length ∧ vn.oneCell' = true ∧ ve.oneCell' = true ∧ ns.length = k ∧ RS (runP s0 k) bad (c.drop p) ns es) (fun k _ _ _ _ _ _ => n - k) 0 false p1 [] [] (.slice none 0 0) (.slice none 0 0) ⟨Nat.zero_le _, hp1, rfl, rfl, rfl, by rw [← hs0, hd1]; exact ⟨Nat.zero_le _, rfl, rfl, rfl⟩⟩ (.sub (by exact subQ) (.keep (.free (.free (OSub.refl _))))) ?_
    clear s1 hp1 hd1 p1
    rintro k bad p ns es vn ve ⟨hk, hp, hvn, hve, hns, hS⟩
    have hdl : ∀ q, (c.drop q).length ≤ 1000 := fun q => by rw [List.length_drop]; omega
    cases bad with
    | true =>
      rw [hbad k hk (by have h3 := hS.2; split at h3; assumption; exact absurd h3.1 (by decide))]
      rcases Nat.lt_or_ge k n with h | h
      all_goals
        repeat (first | refine gV pk ?_ | (show AL _ _ _ _ _ _ _; first | refine jO tok 0 ?_ | refine jS tok 4 ?_))
        refine a_frzBox 4 2 rfl rfl ?_
        refine a_ret ?_
        exact ⟨.inr rfl, _, _, [], rfl, Turn.of (Sub.tup (l := [.agg [nilA, nilA], AI 2]) (m := [grA ⟨[], []⟩, AI 2]) ⟨Sub.agg (m := [ints [], edsA []]) ⟨Sub.nil 1, Sub.nil 3, trivial⟩, Sub.refl _, trivial⟩) (OSub.none _), rfl, rfl⟩
    | false =>
      rcases Nat.lt_or_ge k n with h | h
      · have hN := hS.num
        have s2 := gnext_spec ur c p 99 false hc hp
        have hes := hS.1
        have lns : (rowI ns).length = k := by rw [List.length_map, hns]
        obtain ⟨x, l1, b1, hq⟩ : ∃ x l1 b1, numR 99 false (c.drop p) = (x, l1, b1) := ⟨_, _, _, rfl⟩
        rw [hq] at hN s2
        simp only at s2 hN
        have hns1 : (ns ++ [x]).length = k + 1 := by simp [hns]
        have hrow : rowI (ns ++ [x]) = rowI ns ++ [[AI x]] := by simp [cI]
        generalize hnx : ns ++ [x] = ns1 at *
        repeat (first | refine gN pk ?_ | (show AL _ _ _ _ _ _ _; first | refine jO tok 0 ?_))
        refine AWp.mono (Q := fun e st L => e = .normal ∧ ∃ w p1, w.oneCell' = true ∧ p1 ≤ c.length ∧ c.drop p1 = l1 ∧ GoTo 68 st L (lk [(0, ints c), (2, .pt U2 0 0 0), (4, .pt ur 0 0 0), (5, .pt ug 0 0 0), (6, AI n), (7, AI k)]) (rrL 3 60 c ur ug U2 b1 p1 ns1 es w ve)) ?_ (fun e st L h => ?_)
        · refine a_regG ((List.range 8).map fun i => if inL [1, 3, 4, 5, 7] i = true then .eff else .pure) [] [0, 2] (.nd 1 [3, 4, 5, 6, 7] .stop (.nd 3 [] (.nd 1 [4, 5, 6, 7] .stop (.nd 4 [1, 5, 6, 7] .stop .stop)) .stop)) mixed rfl rfl (by decide +kernel) ?_
          repeat' (first | (with_reducible show AG _ _ _ _ _ _ _ _ _ _; first | exact ag_none | refine ag_stop ?_ | refine ag_nd ?_ ?_) | (show AMid _ _ _ _; first | refine amid_f ?_ | refine amid_g (by first | exact OSub.refl _ | exact .drop (OSub.refl _) | exact .drop (.drop (OSub.refl _))) ?_) | refine gY pk ?_ | (show AL _ _ _ _ _ _ _; first | refine s_call (Lc := [(ur, .box [ints c, AI p, AB false])]) (Lr := [(ve, .row 60 3 (es.map cEd)), (vn, .row 3 1 (rowI ns)), (ug, .box [.lit vn, .lit ve]), (U2, .box [nilA, nilA])]) rfl rfl rfl rfl rfl s2 (SubL.of_eq rfl) (List.Perm.refl _) ?_; rintro _ _ ⟨p1, hp1, hd1, rfl, rfl⟩ | refine jO tok 3 ?_ | refine jO tok 4 ?_ | refine s_build1 tok rfl rfl rfl rfl rfl rfl rfl rfl (fun lv => ?_) | refine s_append1K tok 2 rfl rfl rfl rfl rfl rfl (by decide) rfl rfl rfl rfl (by omega) (by omega) (fun w hw => ?_) | refine s_storeB tok 3 rfl rfl rfl rfl rfl rfl rfl (by assumption) rfl (Nat.le_of_ble_eq_true rfl) rfl ?_) | fail)
          all_goals
            rw [← hrow]
            exact ⟨rfl, _, _, by assumption, hp1, hd1, .sub (by exact subQ) (OSub.refl _)⟩
        · obtain ⟨rfl, w, p1, hw, hp1, hd1, h'⟩ := h
          refine a_goto h' ?_
          clear h' s2
          rw [← hd1] at hN
          repeat (first | refine gN pk ?_)
          refine a_loopG7 (fun (j : Nat) (bad : Bool) (p : Nat) (_ : Unit) (es : List Ed) (_ : Unit) (ve : Value) => [(0, ints c), (2, .pt U2 0 0 0), (4, .pt ur 0 0 0), (5, .pt ug 0 0 0), (6, AI n), (7, AI k), (8, AI j)]) (fun j bad p _ es _ ve => rrL 3 60 c ur ug U2 bad p ns1 es w ve) (fun j bad p _ es _ ve => j ≤ k ∧ p ≤ c.length ∧ ve.oneCell' = true ∧ RS (runS (Can.runN (runP s0 k)) k j) bad (c.drop p) ns1 es) (fun j _ _ _ _ _ _ => k - j) 0 b1 p1 () es () ve ⟨Nat.zero_le _, hp1, hve, hN⟩ (.sub (by exact subQ) (OSub.refl _)) ?_
          clear hN hes hS hp1 hd1 hve
          rintro j bad0 p0 _ es0 _ ve0 ⟨hj, hp0, hve0, hS0⟩
          have he0 := hS0.1
          rcases Nat.lt_or_ge j k with h2 | h2
          · repeat (first | refine gA pk ?_ | (show AL _ _ _ _ _ _ _; first | refine jO tok 3 ?_ | refine s_call (Lc := [(ur, .box [ints c, AI p0, AB bad0]), (ve0, .row 60 3 (es0.map cEd))]) (Lr := [(w, .row 3 1 (rowI ns1)), (ug, .box [.lit w, .lit ve0]), (U2, .box [nilA, nilA])]) rfl rfl rfl rfl rfl (gedges_spec ur w ve0 hw hve0 c p0 bad0 hc hp0 es0 he0 j k (by omega) (by omega)) (SubL.of_eq rfl) (List.Perm.refl _) ?_; rintro _ _ ⟨bad1, p1, es1, ve1, hve1, hp1, hE1, rfl, rfl⟩ | refine s_call (Lc := [(ur, .box [ints c, AI p1, AB bad1]), (ve1, .row 60 3 (es1.map cEd))]) (Lr := [(w, .row 3 1 (rowI ns1)), (ug, .box [.lit w, .lit ve1]), (U2, .box [nilA, nilA])]) rfl rfl rfl rfl rfl (gedges_spec ur w ve1 hw hve1 c p1 bad1 hc hp1 es1 hE1.1 k j (by omega) (by omega)) (SubL.of_eq rfl) (List.Perm.refl _) ?_; rintro _ _ ⟨bad2, p2, es2, ve2, hve2, hp2, hE2, rfl, rfl⟩ | refine s_store (a := .agg [.lit w, .lit _]) tok 3 rfl rfl rfl rfl rfl rfl (by simp [AV.storable, AV.cell, *]) rfl (by decide) rfl rfl rfl (Nat.le_of_ble_eq_true rfl) ?_))
            have hS1 := hS0.edge hE1
            have hS2 := hS1.edge hE2
            exact ⟨j + 1, bad2, p2, (), es2, (), ve2, ⟨by omega, hp2, hve2, hS2⟩, by omega, .sub (by exact subQ) (OSub.refl _)⟩
          · obtain rfl : j = k := by omega
            repeat (first | refine gA pk ?_ | (show AL _ _ _ _ _ _ _; first | refine jO tok 3 ?_ | refine s_call (Lc := [(ur, .box [ints c, AI p0, AB bad0]), (ve0, .row 60 3 (es0.map cEd))]) (Lr := [(w, .row 3 1 (rowI ns1)), (ug, .box [.lit w, .lit ve0]), (U2, .box [nilA, nilA])]) rfl rfl rfl rfl rfl (gedges_spec ur w ve0 hw hve0 c p0 bad0 hc hp0 es0 he0 j j (by omega) (by omega)) (SubL.of_eq rfl) (List.Perm.refl _) ?_; rintro _ _ ⟨bad1, p1, es1, ve1, hve1, hp1, hE1, rfl, rfl⟩ | refine s_store (a := .agg [.lit w, .lit _]) tok 3 rfl rfl rfl rfl rfl rfl (by simp [AV.storable, AV.cell, *]) rfl (by decide) rfl rfl rfl (Nat.le_of_ble_eq_true rfl) ?_))
            have hS1 := hS0.edge hE1
            exact ⟨j + 1, bad1, p1, ns1, es1, w, ve1, ⟨by omega, hp1, hw, hve1, hns1, hS1⟩, by omega, .sub (by exact subQ) (OSub.refl _)⟩
      · obtain rfl : k = n := by omega
        obtain ⟨he, hS⟩ := hS
        have hr1 : ∀ (l : List Int), ∀ x ∈ rowI l, x.length = 1 := fun l x hx => by
          obtain ⟨y, _, rfl⟩ := List.mem_map.1 hx
          rfl
        have hr3 : ∀ (l : List Ed), ∀ x ∈ l.map cEd, x.length = 3 := fun l x hx => by
          obtain ⟨y, _, rfl⟩ := List.mem_map.1 hx
          rfl
        refine a_goto (GoTo.freeze 2 rfl (FZS.refl _) [(ur, OB.box [ints c, AI p, AB false]), (ve, OB.row 60 3 (es.map cEd)), (ug, OB.box [ints ns, .lit ve]), (U2, OB.box [nilA, nilA])] (fzo_box (FZL.refl _) (fzo_row (hr3 _) (fzo_box ⟨FZ.here, FZ.refl _, trivial⟩ (fzo_box (FZL.refl _) trivial))))) ?_
        refine a_goto (GoTo.freeze 1 rfl (FZS.refl _) [(ur, OB.box [ints c, AI p, AB false]), (ug, OB.box [ints ns, .im 3 (es.map cEd)]), (U2, OB.box [nilA, nilA])] (fzo_box (FZL.refl _) (fzo_box ⟨FZ.refl _, FZ.here, trivial⟩ (fzo_box (FZL.refl _) trivial)))) ?_
        refine a_frzBox 1 5 rfl rfl ?_
        refine a_frzBox 0 4 rfl rfl ?_
        split at hS
        · cases hS
        · rename_i l' g hrun
          obtain ⟨-, hl', rfl⟩ := hS
          subst hl'
          rw [hrun] at hR
          by_cases hpc : p < c.length
          · have hR' : R = (⟨[], []⟩, 2) := by
              rw [List.drop_eq_getElem_cons hpc] at hR
              exact hR.symm
            rw [hR']
            repeat (first | refine gV pk ?_ | (show AL _ _ _ _ _ _ _; first | refine jS tok 0 ?_))
            refine a_frzBox 0 2 rfl rfl ?_
            refine a_ret ?_
            exact ⟨.inr rfl, _, _, [], rfl, Turn.of (Sub.tup (l := [.agg [nilA, nilA], AI 2]) (m := [grA ⟨[], []⟩, AI 2]) ⟨Sub.agg (m := [ints [], edsA []]) ⟨Sub.nil 1, Sub.nil 3, trivial⟩, Sub.refl _, trivial⟩) (OSub.none _), rfl, rfl⟩
          · have hR' : R = (⟨ns, es⟩, 0) := by
              rw [List.drop_of_length_le (by omega)] at hR
              exact hR.symm
            rw [hR']
            repeat (first | refine gV pk ?_ | (show AL _ _ _ _ _ _ _; first | refine jS tok 0 ?_))
            refine a_frzBox 0 2 rfl rfl ?_
            refine a_ret ?_
            exact ⟨.inr rfl, _, _, [], rfl, Turn.of (Sub.refl _) (OSub.none _), rfl, rfl⟩
end Go.Proofs.Ytoaenbfidlgjhaa
