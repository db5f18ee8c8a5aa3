/-
  Stable sorting of lists of numbers: the walks. Conditions: at most 1000 numbers, of which less than 20, or sorted ones.
-/
import Derived.Test.YtoaenbfidlgjhaaSjQ8
import Derived.Test.YtoaenbfidlgjhaaW1
namespace Go.Proofs.Ytoaenbfidlgjhaa
open Go.Sj Go.Sj.Typ Go.Sj.Sta Go.Sj.Can
set_option linter.unusedVariables false
set_option linter.unusedSimpArgs false
set_option maxHeartbeats 16000000

/-! A step of the insertion. -/
def gS (S : List Int) (x : Int) (R : List Int) (j : Nat) : List Int := S.take j ++ x :: (S.drop j ++ R)
theorem gS_len (S : List Int) (x : Int) (R : List Int) (j : Nat) : (gS S x R j).length = S.length + 1 + R.length := by
  simp only [gS, List.length_append, List.length_cons, List.length_take, List.length_drop]
  omega
theorem gS_at {S R : List Int} {x : Int} {j : Nat} (h : j ≤ S.length) : (gS S x R j)[j]? = some x := by
  unfold gS
  rw [List.getElem?_append_right (by rw [List.length_take]; omega), List.length_take, show j - min j S.length = 0 by omega]
  rfl
theorem gS_prev {S R : List Int} {x : Int} {j : Nat} (h : j < S.length) : (gS S x R (j + 1))[j]? = some (S.getD j 0) := by
  unfold gS
  rw [List.getElem?_append_left (by rw [List.length_take]; omega), List.getElem?_take, if_pos (by omega), List.getD_eq_getElem?_getD, List.getElem?_eq_getElem h]
  rfl
theorem gS_swap {S R : List Int} {x : Int} {j : Nat} (h : j < S.length) : ((gS S x R (j + 1)).set (j + 1) (S.getD j 0)).set j x = gS S x R j := by
  have hs : S.take (j + 1) = S.take j ++ [S.getD j 0] := by
    rw [List.take_add_one, List.getD_eq_getElem?_getD, List.getElem?_eq_getElem h]
    rfl
  have hd : S.drop j = S.getD j 0 :: S.drop (j + 1) := by
    rw [List.drop_eq_getElem_cons h, List.getD_eq_getElem?_getD, List.getElem?_eq_getElem h]
    rfl
  have hl : (S.take j).length = j := by rw [List.length_take]; omega
  unfold gS
  rw [hs, hd]
  generalize S.getD j 0 = y
  generalize S.take j = A at *
  rw [List.append_assoc, List.set_append_right _ _ (by omega), List.set_append_right _ _ (by omega)]
  rw [show j + 1 - A.length = 1 by omega, show j - A.length = 0 by omega]
  rfl
theorem sortT_one {t : Int → Int} (D : List Int) : sortT t (D.take 1) ++ D.drop 1 = D := by
  cases D with
  | nil => rfl
  | cons x D => rfl
theorem gS_start {t : Int → Int} {D : List Int} {i : Nat} {x : Int} (hx : D[i]? = some x) : gS (sortT t (D.take i)) x (D.drop (i + 1)) i = sortT t (D.take i) ++ D.drop i := by
  have hi := (List.getElem?_eq_some_iff.1 hx).1
  have hl : (sortT t (D.take i)).length = i := by rw [sortT_len, List.length_take]; omega
  have he := (List.getElem?_eq_some_iff.1 hx).2
  unfold gS
  rw [List.take_of_length_le (by omega), List.drop_of_length_le (by omega), List.nil_append, List.drop_eq_getElem_cons hi, he]
theorem gS_end {t : Int → Int} {D : List Int} {i j : Nat} {x : Int} (hx : D[i]? = some x) (hj : posF t (sortT t (D.take i)) x i = j) : gS (sortT t (D.take i)) x (D.drop (i + 1)) j = sortT t (D.take (i + 1)) ++ D.drop (i + 1) := by
  have hi := (List.getElem?_eq_some_iff.1 hx).1
  have hl : (sortT t (D.take i)).length = i := by rw [sortT_len, List.length_take]; omega
  rw [List.take_add_one, hx, show (some x).toList = [x] from rfl, sortT_snoc]
  unfold insT gS
  rw [hl, hj]
  simp

theorem insOwn_spec (t : Int → Int) (D : List Int) (hl : D.length ≤ 1000) (f : FuncId) (caps : List AV) (hc : ∀ x ∈ D, ∀ y ∈ D, Pure Try.prog f (AI x :: AI y :: caps) (AI (t x - t y))) (v : Value) :
    ACalls Try.prog 88 [.lit v, AI 0, AI D.length, .fn (.func f) [] caps] [(v, .row 3 1 (rowI D))] (fun y M => y = .tup [] ∧ M = [(v, .row 3 1 (rowI (sortT t D)))]) := by
  generalize hn : D.length = n at *
  refine a_enter Try.func88 (by kernel_rfl) rfl Try.ntmps88 rfl (by simp) ?_
  repeat (first | refine gA pk ?_)
  refine a_loopX (fun i : Nat => [(0, .lit v), (1, AI 0), (2, AI n), (3, .fn (.func f) [] caps), (8, AI i)]) (fun i => [(v, .row 3 1 (rowI (sortT t (D.take i) ++ D.drop i)))]) (fun i => 1 ≤ i ∧ (i ≤ n ∨ i = 1)) (fun i => n - i) 1 ⟨Nat.le_refl _, .inr rfl⟩ ?_ (by rw [sortT_one]; exact OSub.refl _) ?_
  · exact subQ
  · rintro i ⟨h1, h2⟩
    rcases Nat.lt_or_ge i n with h | h
    · have hx := List.getElem?_eq_getElem (l := D) (i := i) (by omega)
      have hxm := List.getElem_mem (l := D) (n := i) (by omega)
      generalize D[i] = x at hx hxm
      have hS : ∀ j, j < i → (sortT t (D.take i)).getD j 0 ∈ D := fun j hj => by
        have hl : (sortT t (D.take i)).length = i := by rw [sortT_len, List.length_take]; omega
        have := List.getElem_mem (l := sortT t (D.take i)) (n := j) (by omega)
        rw [List.getD_eq_getElem?_getD, List.getElem?_eq_getElem (by omega)]
        exact List.mem_of_mem_take ((sortT_perm _).mem_iff.1 this)
      have hl : (sortT t (D.take i)).length = i := by rw [sortT_len, List.length_take]; omega
      have hst := gS_start (t := t) hx
      have hen := fun j => gS_end (t := t) (j := j) hx
      have hR : (D.drop (i + 1)).length = n - (i + 1) := by rw [List.length_drop, hn]
      rw [← hst]
      generalize hE : sortT t (D.take (i + 1)) ++ D.drop (i + 1) = E at *
      generalize sortT t (D.take i) = S at *
      generalize hRR : D.drop (i + 1) = R at *
      clear hst
      repeat (first | refine gN pk ?_)
      refine a_loopX (fun j : Nat => [(0, .lit v), (1, AI 0), (2, AI n), (3, .fn (.func f) [] caps), (8, AI i), (9, AI j)]) (fun j => [(v, .row 3 1 (rowI (gS S x R j)))]) (fun j => j ≤ i ∧ posF t S x j = posF t S x i) (fun j => j) i ⟨Nat.le_refl _, rfl⟩ ?_ (OSub.refl _) ?_
      · exact subQ
      · rintro j ⟨hj, hp⟩
        have lG := gS_len S x R j
        cases j with
        | zero =>
          rw [hen 0 (by rw [← hp]; rfl)]
          repeat (first | refine gN pk ?_)
          refine a_regG ((List.range 17).map fun i => if inL [14] i = true then .eff else if inL [7, 8, 12, 13] i = true then .read else .pure) [] [0, 1, 2, 3, 4, 5, 6, 7, 8, 9, 10, 11, 12, 13, 14, 15, 16] .stop mixed rfl rfl (by decide +kernel) ?_
          repeat' (first | (with_reducible show AG _ _ _ _ _ _ _ _ _ _; first | exact ag_none | refine ag_stop ?_ | refine ag_nd ?_ ?_) | (show AMid _ _ _ _; first | refine amid_f ?_ | refine amid_g (by first | exact OSub.refl _ | exact .drop (OSub.refl _) | exact .drop (.drop (OSub.refl _))) ?_) | refine gY pk ?_ | fail)
          repeat (first | refine gA pk ?_)
          refine ⟨i + 1, ⟨by omega, by omega⟩, by omega, by exact subQ, ?_⟩
          show OSub [(v, OB.row 3 1 (rowI (sortT t (D.take (i + 1)) ++ D.drop (i + 1))))] _
          rw [hRR, hE]
          exact OSub.refl _
        | succ j =>
          have g1 := gS_at (S := S) (R := R) (x := x) (j := j + 1) (by omega)
          have g2 := gS_prev (S := S) (R := R) (x := x) (j := j) (by omega)
          have hcj := hc x hxm _ (hS j (by omega))
          have hsw := gS_swap (S := S) (R := R) (x := x) (j := j) (by omega)
          have hpf : posF t S x (j + 1) = if t x < t (S.getD j 0) then posF t S x j else j + 1 := rfl
          generalize hy : S.getD j 0 = y at *
          have e1 : (((j + 1 : Nat) : Int)).toNat = j + 1 := by omega
          have e2 : (((j + 1 : Nat) : Int) - 1).toNat = j := by omega
          have hen2 := hen (j + 1)
          generalize hA : gS S x R (j + 1) = A at *
          have g1' : A[(((j + 1 : Nat) : Int)).toNat]? = some x := by rw [e1]; exact g1
          have g2' : A[(((j + 1 : Nat) : Int) - 1).toNat]? = some y := by rw [e2]; exact g2
          have lA : (rowI A).length = S.length + 1 + R.length := by rw [List.length_map]; exact lG
          have lA' : A.length = S.length + 1 + R.length := lG
          have b1 : obAt (.row 3 1 (rowI A)) (((j + 1 : Nat) : Int)).toNat 0 = some (cI x) := obat_int g1'
          have b2 : obAt (.row 3 1 (rowI A)) (((j + 1 : Nat) : Int) - 1).toNat 0 = some (cI y) := obat_int g2'
          repeat (first | refine gN pk ?_)
          refine a_regG ((List.range 17).map fun i => if inL [14] i = true then .eff else if inL [7, 8, 12, 13] i = true then .read else .pure) [] [0, 1, 2, 3, 4, 5, 6, 7, 8, 9, 10, 11, 12, 13, 14, 15, 16] .stop mixed rfl rfl (by decide +kernel) ?_
          by_cases hlt : t x < t y
          · rw [if_pos hlt] at hpf
            repeat' (first | (with_reducible show AG _ _ _ _ _ _ _ _ _ _; first | exact ag_none | refine ag_stop ?_ | refine ag_nd ?_ ?_) | (show AMid _ _ _ _; first | refine amid_f ?_ | refine amid_g (by first | exact OSub.refl _ | exact .drop (OSub.refl _) | exact .drop (.drop (OSub.refl _))) ?_) | refine gY pk ?_ | (show AL _ _ _ _ _ _ _; first | refine s_ownIndex tok 0 rfl rfl rfl rfl (by decide) rfl rfl rfl rfl rfl rfl (by omega) (by omega) ?_ | refine s_loadI tok 0 rfl rfl rfl rfl (by decide) rfl rfl rfl rfl g1' ?_ | refine s_loadI tok 0 rfl rfl rfl rfl (by decide) rfl rfl rfl rfl g2' ?_ | refine jP hcj ?_) | fail)
            repeat (first | refine gN pk ?_)
            refine a_regG ((List.range 18).map fun i => if inL [15, 17] i = true then .eff else if inL [8, 9, 12, 13, 14, 16] i = true then .read else .pure) [] [0, 1, 2, 3, 4, 5, 6, 7, 8, 9, 10, 11, 12, 13, 14, 15, 16, 17] .stop mixed rfl rfl (by decide +kernel) ?_
            repeat' (first | (with_reducible show AG _ _ _ _ _ _ _ _ _ _; first | exact ag_none | refine ag_stop ?_ | refine ag_nd ?_ ?_) | (show AMid _ _ _ _; first | refine amid_f ?_ | refine amid_g (by first | exact OSub.refl _ | exact .drop (OSub.refl _) | exact .drop (.drop (OSub.refl _))) ?_) | refine gY pk ?_ | (show AL _ _ _ _ _ _ _; first | refine s_ownIndex tok 0 rfl rfl rfl rfl (by decide) rfl rfl rfl rfl rfl rfl (by omega) (by first | omega | (simp only [List.length_map, List.length_set]; omega)) ?_ | refine s_loadI tok 0 rfl rfl rfl rfl (by decide) rfl rfl rfl rfl g1' ?_ | refine s_loadI tok 0 rfl rfl rfl rfl (by decide) rfl rfl rfl rfl g2' ?_ | refine s_storeI tok 0 rfl rfl rfl rfl rfl rfl rfl rfl (by first | omega | (simp only [List.length_set]; omega)) ?_) | fail)
            rw [e1, e2, hsw]
            repeat (first | refine gA pk ?_)
            refine ⟨j, ⟨by omega, by rw [← hpf]; exact hp⟩, by omega, ?_, OSub.refl _⟩
            rw [show (((j + 1 : Nat) : Int) - 1) = j by omega]
            exact subQ
          · rw [if_neg hlt] at hpf
            repeat' (first | (with_reducible show AG _ _ _ _ _ _ _ _ _ _; first | exact ag_none | refine ag_stop ?_ | refine ag_nd ?_ ?_) | (show AMid _ _ _ _; first | refine amid_f ?_ | refine amid_g (by first | exact OSub.refl _ | exact .drop (OSub.refl _) | exact .drop (.drop (OSub.refl _))) ?_) | refine gY pk ?_ | (show AL _ _ _ _ _ _ _; first | refine s_ownIndex tok 0 rfl rfl rfl rfl (by decide) rfl rfl rfl rfl rfl rfl (by omega) (by omega) ?_ | refine s_loadI tok 0 rfl rfl rfl rfl (by decide) rfl rfl rfl rfl g1' ?_ | refine s_loadI tok 0 rfl rfl rfl rfl (by decide) rfl rfl rfl rfl g2' ?_ | refine jP hcj ?_) | fail)
            rw [hen2 (by rw [← hp, hpf])]
            repeat (first | refine gA pk ?_)
            refine ⟨i + 1, ⟨by omega, by omega⟩, by omega, by exact subQ, ?_⟩
            show OSub [(v, OB.row 3 1 (rowI (sortT t (D.take (i + 1)) ++ D.drop (i + 1))))] _
            rw [hRR, hE]
            exact OSub.refl _
    · have e1 : sortT t (D.take i) ++ D.drop i = sortT t D := by rw [List.take_of_length_le (by omega), List.drop_of_length_le (by omega), List.append_nil]
      rw [e1]
      repeat (first | refine gA pk ?_)
      refine fin (x := .tup []) (.inl rfl) rfl (Sub.refl _) ⟨rfl, rfl⟩ (OSub.refl _)
/-- What is sorted stays. -/
theorem insIm_spec (t : Int → Int) (D : List Int) (hs : Go.Sj.Can.Srt t D) (hl : D.length ≤ 1000) (f : FuncId) (caps : List AV) (hc : ∀ x ∈ D, ∀ y ∈ D, Pure Try.prog f (AI x :: AI y :: caps) (AI (t x - t y))) (a b : Nat) (ha : a ≤ 1000) (hb : b ≤ D.length) :
    Pure Try.prog 88 [ints D, AI a, AI b, .fn (.func f) [] caps] (.tup []) := by
  have lD : (rowI D).length = D.length := by simp
  refine a_enter Try.func88 (by kernel_rfl) rfl Try.ntmps88 rfl (by simp) ?_
  repeat (first | refine gA pk ?_)
  refine a_loopX (fun i : Nat => [(0, ints D), (1, AI a), (2, AI b), (3, .fn (.func f) [] caps), (8, AI i)]) (fun i => []) (fun i => a + 1 ≤ i ∧ (i ≤ b ∨ i = a + 1)) (fun i => b - i) (a + 1) ⟨Nat.le_refl _, .inr rfl⟩ ?_ (OSub.none _) ?_
  · rw [show (((a + 1 : Nat) : Int)) = a + 1 by omega]
    exact subQ
  · rintro i ⟨h1, h2⟩
    rcases Nat.lt_or_ge i b with h | h
    · have hx := List.getElem?_eq_getElem (l := D) (i := i) (by omega)
      have hy := List.getElem?_eq_getElem (l := D) (i := i - 1) (by omega)
      have hcj := hc _ (List.getElem_mem (l := D) (n := i) (by omega)) _ (List.getElem_mem (l := D) (n := i - 1) (by omega))
      have hle := List.pairwise_iff_getElem.1 hs (i - 1) i (by omega) (by omega) (by omega)
      generalize D[i]'(by omega) = x at hx hcj hle
      generalize D[i - 1]'(by omega) = y at hy hcj hle
      have xk : (rowI D)[(i : Int).toNat]? = some [AI x] := map_get (f := cI) hx
      have yk : (rowI D)[((i : Int) - 1).toNat]? = some [AI y] := by
        rw [show ((i : Int) - 1).toNat = i - 1 by omega]
        exact map_get (f := cI) hy
      repeat (first | refine gN pk ?_)
      refine a_loopX (fun j : Nat => [(0, ints D), (1, AI a), (2, AI b), (3, .fn (.func f) [] caps), (8, AI i), (9, AI i)]) (fun j => []) (fun j => True) (fun j => 0) 0 trivial ?_ (OSub.none _) ?_
      · exact subQ
      · rintro j -
        repeat (first | refine gN pk ?_)
        refine a_regG ((List.range 17).map fun i => if inL [14] i = true then .eff else .pure) [] [0, 1, 2, 3, 4, 5, 6, 7, 8, 9, 10, 11, 12, 13, 14, 15, 16] .stop mixed rfl rfl (by decide +kernel) ?_
        repeat' (first | (with_reducible show AG _ _ _ _ _ _ _ _ _ _; first | exact ag_none | refine ag_stop ?_ | refine ag_nd ?_ ?_) | (show AMid _ _ _ _; first | refine amid_f ?_ | refine amid_g (by first | exact OSub.refl _ | exact .drop (OSub.refl _) | exact .drop (.drop (OSub.refl _))) ?_) | refine gY pk ?_ | (show AL _ _ _ _ _ _ _; first | refine jX tok xk ?_ | refine jX tok yk ?_ | refine jP hcj ?_) | fail)
        repeat (first | refine gA pk ?_)
        exact ⟨i + 1, ⟨by omega, by omega⟩, by omega, by exact subQ, OSub.none _⟩
    · repeat (first | refine gA pk ?_)
      refine fin (x := .tup []) (.inl rfl) rfl (Sub.refl _) ⟨rfl, rfl⟩ (OSub.refl _)
theorem half {a b : Nat} : ((a : Int) + (b : Int)) / 2 = (((a + b) / 2 : Nat) : Int) := by omega
theorem symMerge_spec (t : Int → Int) (D : List Int) (hs : Go.Sj.Can.Srt t D) (hl : D.length ≤ 1000) (f : FuncId) (caps : List AV) (hc : ∀ x ∈ D, ∀ y ∈ D, Pure Try.prog f (AI x :: AI y :: caps) (AI (t x - t y))) : ∀ (k a m b : Nat), b - a ≤ k → a < m → m < b → b ≤ D.length →
    Pure Try.prog 89 [ints D, AI a, AI m, AI b, .fn (.func f) [] caps] (.tup [])
  | 0, a, m, b, h0, h1, h2, h3 => by omega
  | k + 1, a, m, b, h0, h1, h2, h3 => by
    have lD : (rowI D).length = D.length := by simp
    have at' : ∀ i (hi : i < D.length), (rowI D)[(i : Int).toNat]? = some [AI D[i]] := fun i hi => map_get (f := cI) (List.getElem?_eq_getElem hi)
    have cp : ∀ i j (hi : i < D.length) (hj : j < D.length), Pure Try.prog f (AI D[i] :: AI D[j] :: caps) (AI (t D[i] - t D[j])) := fun i j hi hj => hc _ (List.getElem_mem hi) _ (List.getElem_mem hj)
    have le : ∀ i j (hi : i < D.length) (hj : j < D.length), i < j → t D[i] ≤ t D[j] := fun i j hi hj hij => List.pairwise_iff_getElem.1 hs i j hi hj hij
    by_cases hA : m - a = 1
    · refine a_enter Try.func89 (by kernel_rfl) rfl Try.ntmps89 rfl (by simp) ?_
      repeat (first | refine gN pk ?_)
      refine a_loopX (fun j : Nat => [(0, ints D), (1, AI a), (4, .fn (.func f) [] caps), (10, AI m), (11, AI j)]) (fun j => []) (fun j => m ≤ j ∧ j ≤ b) (fun j => j) b ⟨by omega, Nat.le_refl _⟩ ?_ (OSub.none _) ?_
      · exact subQ
      · rintro j ⟨hj1, hj2⟩
        rcases Nat.lt_or_ge m j with h | h
        · have hh := half (a := m) (b := j)
          obtain ⟨c, hcm⟩ : ∃ c, (m + j) / 2 = c := ⟨_, rfl⟩
          rw [hcm] at hh
          have xk := at' c (by omega)
          have yk := at' a (by omega)
          have hcj := cp c a (by omega) (by omega)
          have hle := le a c (by omega) (by omega) (by omega)
          generalize D[c]'(by omega) = x at *
          generalize D[a]'(by omega) = y at *
          repeat (first | refine gN pk ?_ | (show AL _ _ _ _ _ _ _; first | refine s_conv tok rfl rfl rfl rfl rfl rfl rfl (IntWalk.u64_in _ (by omega)) ?_ | refine s_conv tok rfl rfl rfl rfl rfl rfl rfl (IntWalk.i64_in _ (by omega)) ?_ | refine s_shr1 rfl rfl rfl rfl rfl rfl (by omega) ?_))
          rw [hh]
          refine a_regG ((List.range 11).map fun i => if inL [9] i = true then .eff else .pure) [] [0, 1, 2, 3, 4, 5, 6, 7, 8, 9, 10] .stop mixed rfl rfl (by decide +kernel) ?_
          repeat' (first | (with_reducible show AG _ _ _ _ _ _ _ _ _ _; first | exact ag_none | refine ag_stop ?_ | refine ag_nd ?_ ?_) | (show AMid _ _ _ _; first | refine amid_f ?_ | refine amid_g (by first | exact OSub.refl _ | exact .drop (OSub.refl _) | exact .drop (.drop (OSub.refl _))) ?_) | refine gY pk ?_ | (show AL _ _ _ _ _ _ _; first | refine jX tok xk ?_ | refine jX tok yk ?_ | refine jP hcj ?_) | fail)
          repeat (first | refine gA pk ?_)
          exact ⟨c, ⟨by omega, by omega⟩, by omega, by exact subQ, OSub.none _⟩
        · obtain rfl : j = m := by omega
          repeat (first | refine gN pk ?_)
          refine a_loopX (fun q : Nat => [(0, ints D), (10, AI j), (13, AI a)]) (fun q => []) (fun q => True) (fun q => 0) 0 trivial ?_ (OSub.none _) ?_
          · exact subQ
          · rintro q -
            repeat (first | refine gA pk ?_)
            refine fin (x := .tup []) (.inr rfl) rfl (Sub.refl _) ⟨rfl, rfl⟩ (OSub.refl _)
    · by_cases hB : b - m = 1
      · refine a_enter Try.func89 (by kernel_rfl) rfl Try.ntmps89 rfl (by simp) ?_
        repeat (first | refine gN pk ?_)
        refine a_loopX (fun i : Nat => [(0, ints D), (2, AI m), (4, .fn (.func f) [] caps), (14, AI i), (15, AI m)]) (fun j => []) (fun i => a ≤ i ∧ i ≤ m) (fun i => m - i) a ⟨Nat.le_refl _, by omega⟩ ?_ (OSub.none _) ?_
        · exact subQ
        · rintro i ⟨hi1, hi2⟩
          rcases Nat.lt_or_ge i m with h | h
          · have hh := half (a := i) (b := m)
            obtain ⟨c, hcm⟩ : ∃ c, (i + m) / 2 = c := ⟨_, rfl⟩
            rw [hcm] at hh
            have xk := at' m (by omega)
            have yk := at' c (by omega)
            have hcj := cp m c (by omega) (by omega)
            have hle := le c m (by omega) (by omega) (by omega)
            generalize D[m]'(by omega) = x at *
            generalize D[c]'(by omega) = y at *
            repeat (first | refine gN pk ?_ | (show AL _ _ _ _ _ _ _; first | refine s_conv tok rfl rfl rfl rfl rfl rfl rfl (IntWalk.u64_in _ (by omega)) ?_ | refine s_conv tok rfl rfl rfl rfl rfl rfl rfl (IntWalk.i64_in _ (by omega)) ?_ | refine s_shr1 rfl rfl rfl rfl rfl rfl (by omega) ?_))
            rw [hh]
            refine a_regG ((List.range 12).map fun i => if inL [9] i = true then .eff else .pure) [] [0, 1, 2, 3, 4, 5, 6, 7, 8, 9, 10, 11] .stop mixed rfl rfl (by decide +kernel) ?_
            repeat' (first | (with_reducible show AG _ _ _ _ _ _ _ _ _ _; first | exact ag_none | refine ag_stop ?_ | refine ag_nd ?_ ?_) | (show AMid _ _ _ _; first | refine amid_f ?_ | refine amid_g (by first | exact OSub.refl _ | exact .drop (OSub.refl _) | exact .drop (.drop (OSub.refl _))) ?_) | refine gY pk ?_ | (show AL _ _ _ _ _ _ _; first | refine jX tok xk ?_ | refine jX tok yk ?_ | refine jP hcj ?_) | fail)
            repeat (first | refine gA pk ?_)
            exact ⟨c + 1, ⟨by omega, by omega⟩, by omega, by exact subQ, OSub.none _⟩
          · obtain rfl : i = m := by omega
            repeat (first | refine gN pk ?_)
            refine a_loopX (fun q : Nat => [(0, ints D), (14, AI i), (17, AI i)]) (fun q => []) (fun q => True) (fun q => 0) 0 trivial ?_ (OSub.none _) ?_
            · exact subQ
            · rintro q -
              repeat (first | refine gA pk ?_)
              refine fin (x := .tup []) (.inr rfl) rfl (Sub.refl _) ⟨rfl, rfl⟩ (OSub.refl _)
      · have hh := half (a := a) (b := b)
        obtain ⟨mid, hmid⟩ : ∃ c, (a + b) / 2 = c := ⟨_, rfl⟩
        rw [hmid] at hh
        have ih1 := symMerge_spec t D hs hl f caps hc k mid m b (by omega)
        have ih2 := symMerge_spec t D hs hl f caps hc k a m mid (by omega)
        have hrun : ∀ s0 r0 : Nat, (mid < m → a ≤ s0 ∧ s0 ≤ mid ∧ r0 = mid) → (¬ mid < m → a ≤ s0 ∧ s0 ≤ m ∧ r0 = m) → True := fun _ _ _ _ => trivial
        by_cases hm : mid < m
        · have ih := ih1 (by omega) (by omega) (by omega)
          refine a_enter Try.func89 (by kernel_rfl) rfl Try.ntmps89 rfl (by simp) ?_
          repeat (first | refine gN pk ?_ | (show AL _ _ _ _ _ _ _; first | refine s_conv tok rfl rfl rfl rfl rfl rfl rfl (IntWalk.u64_in _ (by omega)) ?_ | refine s_conv tok rfl rfl rfl rfl rfl rfl rfl (IntWalk.i64_in _ (by omega)) ?_ | refine s_shr1 rfl rfl rfl rfl rfl rfl (by omega) ?_))
          rw [hh]
          repeat (first | refine gN pk ?_)
          obtain ⟨s0, hs0⟩ : ∃ s : Nat, (s : Int) = mid + m - b := ⟨mid + m - b, by omega⟩
          rw [← hs0]
          refine a_loopX (fun i : Nat => [(0, ints D), (1, AI a), (2, AI m), (3, AI b), (4, .fn (.func f) [] caps), (18, AI mid), (19, AI (mid + m)), (20, AI i), (21, AI mid), (22, AI (mid + m - 1))]) (fun j => []) (fun i => (mid + m ≤ b + i ∧ a ≤ i) ∧ i ≤ mid) (fun i => mid - i) s0 ⟨⟨by omega, by omega⟩, by omega⟩ ?_ (OSub.none _) ?_
          · exact subQ
          · rintro i ⟨⟨hi0, hi1⟩, hi2⟩
            rcases Nat.lt_or_ge i mid with h | h
            · have hh2 := half (a := i) (b := mid)
              obtain ⟨c, hcm⟩ : ∃ c, (i + mid) / 2 = c := ⟨_, rfl⟩
              rw [hcm] at hh2
              have xk := at' (mid + m - 1 - c) (by omega)
              have yk := at' c (by omega)
              have hcj := cp (mid + m - 1 - c) c (by omega) (by omega)
              have hle := le c (mid + m - 1 - c) (by omega) (by omega) (by omega)
              rw [show (((mid + m - 1 - c : Nat)) : Int) = (mid : Int) + m - 1 - c by omega] at xk
              generalize D[mid + m - 1 - c]'(by omega) = x at *
              generalize D[c]'(by omega) = y at *
              repeat (first | refine gN pk ?_ | (show AL _ _ _ _ _ _ _; first | refine s_conv tok rfl rfl rfl rfl rfl rfl rfl (IntWalk.u64_in _ (by omega)) ?_ | refine s_conv tok rfl rfl rfl rfl rfl rfl rfl (IntWalk.i64_in _ (by omega)) ?_ | refine s_shr1 rfl rfl rfl rfl rfl rfl (by omega) ?_))
              rw [hh2]
              refine a_regG ((List.range 14).map fun i => if inL [11] i = true then .eff else .pure) [] [0, 1, 2, 3, 4, 5, 6, 7, 8, 9, 10, 11, 12, 13] .stop mixed rfl rfl (by decide +kernel) ?_
              repeat' (first | (with_reducible show AG _ _ _ _ _ _ _ _ _ _; first | exact ag_none | refine ag_stop ?_ | refine ag_nd ?_ ?_) | (show AMid _ _ _ _; first | refine amid_f ?_ | refine amid_g (by first | exact OSub.refl _ | exact .drop (OSub.refl _) | exact .drop (.drop (OSub.refl _))) ?_) | refine gY pk ?_ | (show AL _ _ _ _ _ _ _; first | refine jX tok xk ?_ | refine jX tok yk ?_ | refine jP hcj ?_) | fail)
              repeat (first | refine gA pk ?_)
              exact ⟨c + 1, ⟨⟨by omega, by omega⟩, by omega⟩, by omega, by exact subQ, OSub.none _⟩
            · obtain rfl : i = mid := by omega
              rw [show (m : Int) = (i : Int) + m - i by omega] at ih
              repeat (first | refine gA pk ?_ | (show AL _ _ _ _ _ _ _; first | refine jP ih ?_))
              refine fin (x := .tup []) (.inl rfl) rfl (Sub.refl _) ⟨rfl, rfl⟩ (OSub.refl _)
        · refine a_enter Try.func89 (by kernel_rfl) rfl Try.ntmps89 rfl (by simp) ?_
          repeat (first | refine gN pk ?_ | (show AL _ _ _ _ _ _ _; first | refine s_conv tok rfl rfl rfl rfl rfl rfl rfl (IntWalk.u64_in _ (by omega)) ?_ | refine s_conv tok rfl rfl rfl rfl rfl rfl rfl (IntWalk.i64_in _ (by omega)) ?_ | refine s_shr1 rfl rfl rfl rfl rfl rfl (by omega) ?_))
          rw [hh]
          repeat (first | refine gN pk ?_)
          refine a_loopX (fun i : Nat => [(0, ints D), (1, AI a), (2, AI m), (3, AI b), (4, .fn (.func f) [] caps), (18, AI mid), (19, AI (mid + m)), (20, AI i), (21, AI m), (22, AI (mid + m - 1))]) (fun j => []) (fun i => a ≤ i ∧ i ≤ m) (fun i => m - i) a ⟨by omega, by omega⟩ ?_ (OSub.none _) ?_
          · exact subQ
          · rintro i ⟨hi1, hi2⟩
            rcases Nat.lt_or_ge i m with h | h
            · have hh2 := half (a := i) (b := m)
              obtain ⟨c, hcm⟩ : ∃ c, (i + m) / 2 = c := ⟨_, rfl⟩
              rw [hcm] at hh2
              have xk := at' (mid + m - 1 - c) (by omega)
              have yk := at' c (by omega)
              have hcj := cp (mid + m - 1 - c) c (by omega) (by omega)
              have hle := le c (mid + m - 1 - c) (by omega) (by omega) (by omega)
              rw [show (((mid + m - 1 - c : Nat)) : Int) = (mid : Int) + m - 1 - c by omega] at xk
              generalize D[mid + m - 1 - c]'(by omega) = x at *
              generalize D[c]'(by omega) = y at *
              repeat (first | refine gN pk ?_ | (show AL _ _ _ _ _ _ _; first | refine s_conv tok rfl rfl rfl rfl rfl rfl rfl (IntWalk.u64_in _ (by omega)) ?_ | refine s_conv tok rfl rfl rfl rfl rfl rfl rfl (IntWalk.i64_in _ (by omega)) ?_ | refine s_shr1 rfl rfl rfl rfl rfl rfl (by omega) ?_))
              rw [hh2]
              refine a_regG ((List.range 14).map fun i => if inL [11] i = true then .eff else .pure) [] [0, 1, 2, 3, 4, 5, 6, 7, 8, 9, 10, 11, 12, 13] .stop mixed rfl rfl (by decide +kernel) ?_
              repeat' (first | (with_reducible show AG _ _ _ _ _ _ _ _ _ _; first | exact ag_none | refine ag_stop ?_ | refine ag_nd ?_ ?_) | (show AMid _ _ _ _; first | refine amid_f ?_ | refine amid_g (by first | exact OSub.refl _ | exact .drop (OSub.refl _) | exact .drop (.drop (OSub.refl _))) ?_) | refine gY pk ?_ | (show AL _ _ _ _ _ _ _; first | refine jX tok xk ?_ | refine jX tok yk ?_ | refine jP hcj ?_) | fail)
              repeat (first | refine gA pk ?_)
              exact ⟨c + 1, ⟨by omega, by omega⟩, by omega, by exact subQ, OSub.none _⟩
            · obtain rfl : i = m := by omega
              rcases Nat.lt_or_ge i mid with hq | hq
              · have ih := ih2 (by omega) (by omega) (by omega)
                repeat (first | refine gA pk ?_ | (show AL _ _ _ _ _ _ _; first | refine jP ih ?_))
                refine fin (x := .tup []) (.inl rfl) rfl (Sub.refl _) ⟨rfl, rfl⟩ (OSub.refl _)
              · repeat (first | refine gA pk ?_)
                refine fin (x := .tup []) (.inl rfl) rfl (Sub.refl _) ⟨rfl, rfl⟩ (OSub.refl _)
end Go.Proofs.Ytoaenbfidlgjhaa
