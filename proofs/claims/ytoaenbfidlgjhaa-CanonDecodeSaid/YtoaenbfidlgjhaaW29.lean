/-
  Codes that are read: the program's Decode. Codes of at most 1000 numbers.
-/
import Derived.Test.YtoaenbfidlgjhaaSjQ8
import Derived.Test.YtoaenbfidlgjhaaW28
namespace Go.Proofs.Ytoaenbfidlgjhaa
open Go.Sj Go.Sj.Typ Go.Sj.Sta Go.Sj.Can
set_option linter.unusedVariables false
set_option linter.unusedSimpArgs false
set_option maxHeartbeats 16000000

abbrev rdL (E1 E2 : Nat) (u U : Value) (bad : Bool) (l ns : List Int) (es : List Ed) (vn ve : Value) : Own := [(u, .box [ints l, .lit vn, .lit ve, AB bad]), (ve, .row E2 3 (es.map cEd)), (vn, .row E1 1 (rowI ns)), (U, .box [nilA, nilA])]
def decR (c : List Int) : Gr × Int := match dec c with
  | some g => (g, 0)
  | none => (⟨[], []⟩, 2)
theorem decR_none {c : List Int} (h : rdN 8 c = none) : decR c = (⟨[], []⟩, 2) := by
  unfold decR dec
  rw [h]
theorem decR_run {c r : List Int} {n : Nat} (h : rdN 8 c = some ((n : Int), r)) : decR c = match runP (some (r, ⟨[], []⟩)) n with
    | some ([], g) => (g, 0)
    | _ => (⟨[], []⟩, 2) := by
  unfold decR dec
  rw [h]
  simp only [Int.toNat_natCast]
  generalize runP (some (r, ⟨[], []⟩)) n = q
  rcases q with _ | ⟨_ | ⟨y, l⟩, g⟩ <;> rfl
theorem CDecode_spec (c : List Int) (hc : c.length ≤ 1000) : Pure Try.prog 35 [ints c] (.tup [grA (decR c).1, AI (decR c).2]) := by
  rcases numR_cases 8 c with ⟨h1, h2⟩ | ⟨x, r, h1, h0, h3, h4, h5⟩
  · have s1 : ∀ u X Y, ACalls Try.prog 58 [.pt u 0 0 0, AI 8] [(u, .box [ints c, X, Y, AB false])] (fun y M => y = AI 0 ∧ M = [(u, .box [ints c, X, Y, AB true])]) := fun u X Y => by
      have h := number_spec u X Y 8 false c hc
      rw [h2] at h
      exact h
    rw [decR_none h1]
    refine a_enterM (rs := [.cell 2 25, .tmp 3]) tok Try.func35 (by kernel_rfl) rfl Try.ntmps35 rfl (by decide) (by simp) ?_
    repeat (first | refine gN pk ?_ | (show AL _ _ _ _ _ _ _; first | refine jL tok (fun U2 => ?_) | refine jB (fun ur => ?_) | refine s_call (Lc := [(ur, .box [ints c, nilA, nilA, AB false])]) (Lr := [(U2, .box [nilA, nilA])]) rfl rfl rfl rfl rfl (s1 ur nilA nilA) (SubL.of_eq rfl) (List.Perm.refl _) ?_; rintro _ _ ⟨rfl, rfl⟩))
    refine a_loopG2 (fun (i : Nat) (_ : Nat) => [(2, .pt U2 0 0 0), (4, .pt ur 0 0 0), (11, AI 0), (12, AI 0)]) (fun _ _ => [(ur, .box [ints c, nilA, nilA, AB true]), (U2, .box [nilA, nilA])]) (fun i _ => i = 0) (fun _ _ => 0) 0 0 rfl (.sub (by exact subQ) (OSub.refl _)) ?_
    rintro i j rfl
    repeat (first | refine gV pk ?_ | (show AL _ _ _ _ _ _ _; first | refine jO tok 0 ?_ | refine jS tok 1 ?_))
    refine a_frzBox 1 2 rfl rfl ?_
    refine a_ret ?_
    exact ⟨.inr rfl, _, _, [], rfl, Turn.of (Sub.tup (l := [.agg [nilA, nilA], AI 2]) (m := [grA ⟨[], []⟩, AI 2]) ⟨Sub.agg (m := [ints [], edsA []]) ⟨Sub.nil 1, Sub.nil 3, trivial⟩, Sub.refl _, trivial⟩) (OSub.none _), rfl, rfl⟩
  · obtain ⟨n, rfl⟩ : ∃ n : Nat, x = n := ⟨x.toNat, by omega⟩
    have s1 : ∀ u X Y, ACalls Try.prog 58 [.pt u 0 0 0, AI 8] [(u, .box [ints c, X, Y, AB false])] (fun y M => y = AI n ∧ M = [(u, .box [ints r, X, Y, AB false])]) := fun u X Y => by
      have h := number_spec u X Y 8 false c hc
      rw [h5] at h
      exact h
    have hlr : r.length ≤ 1000 := by rw [h0, List.length_cons] at hc; omega
    obtain ⟨R, hR⟩ : ∃ R, decR c = R := ⟨_, rfl⟩
    rw [hR]
    rw [decR_run h1] at hR
    clear h1 h5 h0
    obtain ⟨s0, hs0⟩ : ∃ s0 : Rd, some (r, ⟨[], []⟩) = s0 := ⟨_, rfl⟩
    rw [hs0] at hR
    have hbad : ∀ k, k ≤ n → runP s0 k = none → R = (⟨[], []⟩, 2) := fun k hk h => by
      rw [runP_none h hk] at hR
      exact hR.symm
    refine a_enterM (rs := [.cell 2 25, .tmp 3]) tok Try.func35 (by kernel_rfl) rfl Try.ntmps35 rfl (by decide) (by simp) ?_
    repeat (first | refine gN pk ?_ | (show AL _ _ _ _ _ _ _; first | refine jL tok (fun U2 => ?_) | refine jB (fun ur => ?_) | refine s_call (Lc := [(ur, .box [ints c, nilA, nilA, AB false])]) (Lr := [(U2, .box [nilA, nilA])]) rfl rfl rfl rfl rfl (s1 ur nilA nilA) (SubL.of_eq rfl) (List.Perm.refl _) ?_; rintro _ _ ⟨rfl, rfl⟩))
    refine a_loopG7 (fun (k : Nat) (bad : Bool) (l ns : List Int) (es : List Ed) (vn ve : Value) => [(2, .pt U2 0 0 0), (4, .pt ur 0 0 0), (11, AI n), (12, AI k)]) (fun _ bad l ns es vn ve => rdL 3 60 ur U2 bad l ns es vn ve) (fun k bad l ns es vn ve => k ≤ n ∧ bad = false ∧ l.length ≤ 1000 ∧ ns.length = k ∧ RS (runP s0 k) bad l ns es) (fun k _ _ _ _ _ _ => n - k) 0 false r [] [] (.slice none 0 0) (.slice none 0 0) ⟨Nat.zero_le _, rfl, hlr, rfl, by rw [← hs0]; exact ⟨Nat.zero_le _, rfl, rfl, rfl⟩⟩ (.sub (by exact subQ) (.keep (.free (.free (OSub.refl _))))) ?_
    rintro k bad l ns es vn ve ⟨hk, rfl, hl, hns, hS⟩
    rcases Nat.lt_or_ge k n with h | h
    · have hN := hS.num
      have hl1 := numR_len 99 false l
      have s2 := fun X Y => number_spec ur X Y 99 false l hl
      have hes := hS.1
      have lns : (rowI ns).length = k := by rw [List.length_map, hns]
      obtain ⟨x, l1, b1, hq⟩ : ∃ x l1 b1, numR 99 false l = (x, l1, b1) := ⟨_, _, _, rfl⟩
      rw [hq] at hN hl1
      simp only [hq] at s2 hN hl1
      have hns1 : (ns ++ [x]).length = k + 1 := by simp [hns]
      have hrow : rowI (ns ++ [x]) = rowI ns ++ [[AI x]] := by simp [cI]
      generalize hnx : ns ++ [x] = ns1 at *
      have hl1' : l1.length ≤ 1000 := by omega
      repeat (first | refine gN pk ?_)
      refine AWp.mono (Q := fun e st L => e = .normal ∧ ∃ w, w.oneCell' = true ∧ GoTo 67 st L (lk [(2, .pt U2 0 0 0), (4, .pt ur 0 0 0), (5, AI k), (11, AI n), (12, AI k)]) (rdL 3 60 ur U2 b1 l1 ns1 es w ve)) ?_ (fun e st L h => ?_)
      · refine a_regG ((List.range 14).map fun i => if inL [5, 7, 8, 9, 13] i = true then .eff else .pure) [] [0, 1, 2, 3, 4, 6] (.nd 5 [7, 8, 9, 10, 11, 12, 13] .stop (.nd 7 [] (.nd 5 [8, 9, 10, 11, 12, 13] .stop (.nd 8 [5, 9, 10, 11, 12, 13] .stop .stop)) .stop)) mixed rfl rfl (by decide +kernel) ?_
        repeat' (first | (with_reducible show AG _ _ _ _ _ _ _ _ _ _; first | exact ag_none | refine ag_stop ?_ | refine ag_nd ?_ ?_) | (show AMid _ _ _ _; first | refine amid_f ?_ | refine amid_g (by first | exact OSub.refl _ | exact .drop (OSub.refl _) | exact .drop (.drop (OSub.refl _))) ?_) | refine gY pk ?_ | (show AL _ _ _ _ _ _ _; first | refine s_call (Lc := [(ur, .box [ints l, .lit vn, .lit ve, AB false])]) (Lr := [(ve, .row 60 3 (es.map cEd)), (vn, .row 3 1 (rowI ns)), (U2, .box [nilA, nilA])]) rfl rfl rfl rfl rfl (s2 (.lit vn) (.lit ve)) (SubL.of_eq rfl) (List.Perm.refl _) ?_; rintro _ _ ⟨rfl, rfl⟩ | refine jO tok 0 ?_ | refine jO tok 1 ?_ | refine s_build1 tok rfl rfl rfl rfl rfl rfl rfl rfl (fun lv => ?_) | refine s_append1K tok 2 rfl rfl rfl rfl rfl rfl (by decide) rfl rfl rfl rfl (by omega) (by omega) (fun w hw => ?_) | refine s_storeB tok 0 rfl rfl rfl rfl rfl rfl rfl (by assumption) rfl (Nat.le_of_ble_eq_true rfl) rfl ?_) | fail)
        all_goals
          rw [← hrow]
          exact ⟨rfl, _, by assumption, .sub (by exact subQ) (OSub.refl _)⟩
      · obtain ⟨rfl, w, hw, h'⟩ := h
        refine a_goto h' ?_
        clear h' s2
        repeat (first | refine gN pk ?_)
        refine a_loopG7 (fun (j : Nat) (bad : Bool) (l ns : List Int) (es : List Ed) (vn ve : Value) => [(2, .pt U2 0 0 0), (4, .pt ur 0 0 0), (5, AI k), (11, AI n), (12, AI k), (28, AI k), (29, AI j)]) (fun j bad l _ es _ ve => rdL 3 60 ur U2 bad l ns1 es w ve) (fun j bad l _ es _ _ => j ≤ k ∧ l.length ≤ 1000 ∧ RS (runS (Can.runN (runP s0 k)) k j) bad l ns1 es) (fun j _ _ _ _ _ _ => k - j) 0 b1 l1 [] es w ve ⟨Nat.zero_le _, hl1', hN⟩ (.sub (by exact subQ) (OSub.refl _)) ?_
        clear hN hes hS hl1 hl1' hl
        rintro j bad0 l0 _ es0 _ ve0 ⟨hj, hl0, hS0⟩
        have he0 := hS0.1
        rcases Nat.lt_or_ge j k with h2 | h2
        · repeat (first | refine gA pk ?_ | (show AL _ _ _ _ _ _ _; first | refine s_call (Lc := [(ur, .box [ints l0, .lit w, .lit ve0, AB bad0]), (ve0, .row 60 3 (es0.map cEd))]) (Lr := [(w, .row 3 1 (rowI ns1)), (U2, .box [nilA, nilA])]) rfl rfl rfl rfl rfl (redges_spec ur ve0 (.lit w) bad0 l0 hl0 es0 he0 j k (by omega) (by omega)) (SubL.of_eq rfl) (List.Perm.refl _) ?_; rintro _ _ ⟨bad1, l1, es1, ve1, hE1, rfl, rfl⟩ | refine s_call (Lc := [(ur, .box [ints l1, .lit w, .lit ve1, AB bad1]), (ve1, .row 60 3 (es1.map cEd))]) (Lr := [(w, .row 3 1 (rowI ns1)), (U2, .box [nilA, nilA])]) rfl rfl rfl rfl rfl (redges_spec ur ve1 (.lit w) bad1 l1 (Nat.le_trans hE1.2.1 hl0) es1 hE1.1 k j (by omega) (by omega)) (SubL.of_eq rfl) (List.Perm.refl _) ?_; rintro _ _ ⟨bad2, l2, es2, ve2, hE2, rfl, rfl⟩))
          have hS1 := hS0.edge hE1
          have hS2 := hS1.edge hE2
          have q1 := hE1.2.1
          have q2 := hE2.2.1
          exact ⟨j + 1, bad2, l2, [], es2, w, ve2, ⟨by omega, by omega, hS2⟩, by omega, .sub (by exact subQ) (OSub.refl _)⟩
        · obtain rfl : j = k := by omega
          repeat (first | refine gN pk ?_ | (show AL _ _ _ _ _ _ _; first | refine s_call (Lc := [(ur, .box [ints l0, .lit w, .lit ve0, AB bad0]), (ve0, .row 60 3 (es0.map cEd))]) (Lr := [(w, .row 3 1 (rowI ns1)), (U2, .box [nilA, nilA])]) rfl rfl rfl rfl rfl (redges_spec ur ve0 (.lit w) bad0 l0 hl0 es0 he0 j j (by omega) (by omega)) (SubL.of_eq rfl) (List.Perm.refl _) ?_; rintro _ _ ⟨bad1, l1, es1, ve1, hE1, rfl, rfl⟩))
          have hS1 := hS0.edge hE1
          have q1 := hE1.2.1
          cases bad1 with
          | true =>
            rw [hbad (j + 1) (by omega) (by have h3 := hS1.2; unfold runP; split at h3; assumption; exact absurd h3.1 (by decide))]
            repeat (first | refine gV pk ?_ | (show AL _ _ _ _ _ _ _; first | refine jO tok 0 ?_ | refine jS tok 3 ?_))
            refine a_frzBox 3 2 rfl rfl ?_
            refine a_ret ?_
            exact ⟨.inr rfl, _, _, [], rfl, Turn.of (Sub.tup (l := [.agg [nilA, nilA], AI 2]) (m := [grA ⟨[], []⟩, AI 2]) ⟨Sub.agg (m := [ints [], edsA []]) ⟨Sub.nil 1, Sub.nil 3, trivial⟩, Sub.refl _, trivial⟩) (OSub.none _), rfl, rfl⟩
          | false =>
            repeat (first | refine gA pk ?_ | (show AL _ _ _ _ _ _ _; first | refine jO tok 0 ?_))
            exact ⟨j + 1, false, l1, ns1, es1, w, ve1, ⟨by omega, rfl, by omega, by omega, hS1⟩, by omega, .sub (by exact subQ) (OSub.refl _)⟩
    · obtain rfl : k = n := by omega
      obtain ⟨he, hS⟩ := hS
      have hr1 : ∀ (l : List Int), ∀ x ∈ rowI l, x.length = 1 := fun l x hx => by
        obtain ⟨y, _, rfl⟩ := List.mem_map.1 hx
        rfl
      have hr3 : ∀ (l : List Ed), ∀ x ∈ l.map cEd, x.length = 3 := fun l x hx => by
        obtain ⟨y, _, rfl⟩ := List.mem_map.1 hx
        rfl
      refine a_goto (GoTo.freeze 2 rfl (FZS.refl _) [(ur, OB.box [ints l, ints ns, .lit ve, AB false]), (ve, OB.row 60 3 (es.map cEd)), (U2, OB.box [nilA, nilA])] (fzo_box ⟨FZ.refl _, FZ.here, FZ.refl _, FZ.refl _, trivial⟩ (fzo_row (hr3 _) (fzo_box (FZL.refl _) trivial)))) ?_
      refine a_goto (GoTo.freeze 1 rfl (FZS.refl _) [(ur, OB.box [ints l, ints ns, .im 3 (es.map cEd), AB false]), (U2, OB.box [nilA, nilA])] (fzo_box ⟨FZ.refl _, FZ.refl _, FZ.here, FZ.refl _, trivial⟩ (fzo_box (FZL.refl _) trivial))) ?_
      refine a_frzBox 0 4 rfl rfl ?_
      have ll : (rowI l).length = l.length := by simp
      split at hS
      · cases hS
      · rename_i l' g hrun
        obtain ⟨-, rfl, rfl⟩ := hS
        rw [hrun] at hR
        cases l with
        | nil =>
          have hR' : R = (⟨ns, es⟩, 0) := hR.symm
          rw [List.length_nil] at ll
          rw [hR']
          repeat (first | refine gV pk ?_ | (show AL _ _ _ _ _ _ _; first | refine jS tok 0 ?_))
          refine a_frzBox 0 2 rfl rfl ?_
          refine a_ret ?_
          exact ⟨.inr rfl, _, _, [], rfl, Turn.of (Sub.refl _) (OSub.none _), rfl, rfl⟩
        | cons y l =>
          have hR' : R = (⟨[], []⟩, 2) := hR.symm
          rw [hR']
          rw [List.length_cons] at ll
          repeat (first | refine gV pk ?_ | (show AL _ _ _ _ _ _ _; first | refine jO tok 0 ?_ | refine jS tok 0 ?_))
          refine a_frzBox 0 2 rfl rfl ?_
          refine a_ret ?_
          exact ⟨.inr rfl, _, _, [], rfl, Turn.of (Sub.tup (l := [.agg [nilA, nilA], AI 2]) (m := [grA ⟨[], []⟩, AI 2]) ⟨Sub.agg (m := [ints [], edsA []]) ⟨Sub.nil 1, Sub.nil 3, trivial⟩, Sub.refl _, trivial⟩) (OSub.none _), rfl, rfl⟩
end Go.Proofs.Ytoaenbfidlgjhaa
