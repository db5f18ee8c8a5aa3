/- Parts of a proof. -/
import Derived.Handy
import Derived.Lib.AppendZerosOnto
import Derived.Lib.Overlaps
import Derived.Laws.Runes
import Derived.Laws.Externs
import Derived.Laws.Cover3
import Derived.WalkKit
import Derived.WalkSpells
import Derived.WalkLawsBesides
import Derived.Deep.Draws
import Derived.Orders
import Derived.Still
import Derived.Sort.AssemblyPlain
import Derived.Laws.Bits64
import Derived.Laws.Bits64b
import Derived.ProofKit
import Derived.WideKeyArgs
import Derived.OpenShut
import Derived.SizedLaws
import Derived.Test.YtimfponihbfimaaGreatP60
set_option linter.unusedVariables false
set_option linter.unusedSimpArgs false
section
namespace Go.Proofs.YtimfponihbfimaaGreat
open Go.Sj Go.Sj.Typ Go.Sj.Sta Go.Sj.Inc Go.Sj.Pln
set_option maxRecDepth 8000
set_option maxHeartbeats 16000000
theorem cmpM_of (a b : Mo) {c1 c2 : Int} (h1 : Can.cmpL a.1 b.1 = c1) (h2 : Can.cmpL a.2 b.2 = c2) : cmpM a b = if c1 ≠ 0 then c1 else c2 := by
  unfold cmpM
  rw [h1, h2]
theorem gless_spec (a b : Mo) (h1 : a.1.length = b.1.length) (h2 : a.2.length = b.2.length) (h3 : a.1.length ≤ 1000) (h4 : a.2.length ≤ 1000) : Pure Tryz.prog 94 [maA a, maA b] (AB (decide (cmpM a b < 0))) := by
  obtain ⟨c1, hc1⟩ : ∃ c, Can.cmpL a.1 b.1 = c := ⟨_, rfl⟩
  obtain ⟨c2, hc2⟩ : ∃ c, Can.cmpL a.2 b.2 = c := ⟨_, rfl⟩
  rw [cmpM_of a b hc1 hc2]
  obtain ⟨a1, a2⟩ := a
  obtain ⟨b1, b2⟩ := b
  simp only at h1 h2 h3 h4 hc1 hc2
  have la1 : (rowI a1).length = a1.length := by simp
  have la2 : (rowI a2).length = a2.length := by simp
  have lb1 : (rowI b1).length = b1.length := by simp
  have lb2 : (rowI b2).length = b2.length := by simp
  obtain ⟨r, hr⟩ : ∃ r, decide ((if c1 ≠ 0 then c1 else c2) < 0) = r := ⟨_, rfl⟩
  rw [hr]
  change Pure _ _ [.agg [ints a1, ints a2], .agg [ints b1, ints b2]] _
  refine zen Tryz.func94 (by kernel_rfl) rfl Tryz.ntmps94 rfl (by simp) ?_
  refine a_seq ?_
  refine a_reg ?_
  repeat (first | refine gZ pk ?_ | (show AL _ _ _ _ _ _ _; first | refine jB (fun u => ?_)))
  refine zfb 1 2 rfl rfl ?_
  refine zfb 0 3 rfl rfl ?_
  repeat (first | refine gA pk ?_)
  refine zlx (fun k : Nat => [(2, .ip [ints a1, ints a2]), (3, .ip [ints b1, ints b2]), (5, AI k)]) (fun _ => []) (fun k => k ≤ a1.length ∧ Can.cmpL (a1.drop k) (b1.drop k) = c1) (fun k => a1.length - k) 0 ⟨Nat.zero_le _, hc1⟩ ?_ (OSub.none _) ?_
  · exact subQ
  · rintro k ⟨hk, hc⟩
    by_cases hkx : k < a1.length
    · have hky : k < b1.length := by omega
      rw [cmpL_drop hkx hky] at hc
      have e1 := List.getElem?_eq_getElem hkx
      have e2 := List.getElem?_eq_getElem hky
      generalize a1[k] = x at *
      generalize b1[k] = y at *
      have xk : (rowI a1)[(k : Int).toNat]? = some [AI x] := zmp (f := cI) e1
      have yk : (rowI b1)[(k : Int).toNat]? = some [AI y] := zmp (f := cI) e2
      by_cases hlt : x < y
      · have : c1 = -1 := by
          rw [if_pos (by unfold Can.cmpI; rw [if_pos hlt]; decide)] at hc
          rw [← hc]; unfold Can.cmpI; rw [if_pos hlt]
        subst this
        obtain rfl : true = r := hr
        repeat (first | refine gN pk ?_)
        refine zrg ((List.range 11).map fun i => if inL [1, 3, 4, 6, 8, 9] i = true then .read else .pure) [] [0, 1, 2, 3, 4, 5, 6, 7, 8, 9, 10] .stop mixed rfl rfl (by decide +kernel) ?_
        repeat' (first | (with_reducible show AG _ _ _ _ _ _ _ _ _ _; first | exact zgn | refine zgs ?_ | refine znd ?_ ?_) | (show AMid _ _ _ _; first | refine zmf ?_ | refine zmg (by first | exact OSub.refl _ | exact .drop (OSub.refl _) | exact .drop (.drop (OSub.refl _))) ?_) | refine gY pk ?_ | (show AL _ _ _ _ _ _ _; first | refine jX tok xk ?_ | refine jX tok yk ?_) | fail)
        repeat (first | refine gN pk ?_)
        refine zrg ((List.range 12).map fun i => if inL [1, 3, 4, 6, 8, 9] i = true then .read else .pure) [] [0, 1, 2, 3, 4, 5, 6, 7, 8, 9, 10, 11] .stop mixed rfl rfl (by decide +kernel) ?_
        repeat' (first | (with_reducible show AG _ _ _ _ _ _ _ _ _ _; first | exact zgn | refine zgs ?_ | refine znd ?_ ?_) | (show AMid _ _ _ _; first | refine zmf ?_ | refine zmg (by first | exact OSub.refl _ | exact .drop (OSub.refl _) | exact .drop (.drop (OSub.refl _))) ?_) | refine gY pk ?_ | (show AL _ _ _ _ _ _ _; first | refine jX tok xk ?_ | refine jX tok yk ?_) | fail)
        repeat (first | refine gA pk ?_)
        refine finQ ?_
        exact ⟨rfl, rfl⟩
      · by_cases hgt : y < x
        · have : c1 = 1 := by
            rw [if_pos (by unfold Can.cmpI; rw [if_neg hlt, if_pos hgt]; decide)] at hc
            rw [← hc]; unfold Can.cmpI; rw [if_neg hlt, if_pos hgt]
          subst this
          obtain rfl : false = r := hr
          repeat (first | refine gN pk ?_)
          refine zrg ((List.range 11).map fun i => if inL [1, 3, 4, 6, 8, 9] i = true then .read else .pure) [] [0, 1, 2, 3, 4, 5, 6, 7, 8, 9, 10] .stop mixed rfl rfl (by decide +kernel) ?_
          repeat' (first | (with_reducible show AG _ _ _ _ _ _ _ _ _ _; first | exact zgn | refine zgs ?_ | refine znd ?_ ?_) | (show AMid _ _ _ _; first | refine zmf ?_ | refine zmg (by first | exact OSub.refl _ | exact .drop (OSub.refl _) | exact .drop (.drop (OSub.refl _))) ?_) | refine gY pk ?_ | (show AL _ _ _ _ _ _ _; first | refine jX tok xk ?_ | refine jX tok yk ?_) | fail)
          repeat (first | refine gN pk ?_)
          refine zrg ((List.range 12).map fun i => if inL [1, 3, 4, 6, 8, 9] i = true then .read else .pure) [] [0, 1, 2, 3, 4, 5, 6, 7, 8, 9, 10, 11] .stop mixed rfl rfl (by decide +kernel) ?_
          repeat' (first | (with_reducible show AG _ _ _ _ _ _ _ _ _ _; first | exact zgn | refine zgs ?_ | refine znd ?_ ?_) | (show AMid _ _ _ _; first | refine zmf ?_ | refine zmg (by first | exact OSub.refl _ | exact .drop (OSub.refl _) | exact .drop (.drop (OSub.refl _))) ?_) | refine gY pk ?_ | (show AL _ _ _ _ _ _ _; first | refine jX tok xk ?_ | refine jX tok yk ?_) | fail)
          repeat (first | refine gA pk ?_)
          refine finQ ?_
          exact ⟨rfl, rfl⟩
        · rw [if_neg (by rw [Decidable.not_not]; exact Can.cmpI_zero.2 (by omega))] at hc
          repeat (first | refine gN pk ?_)
          refine zrg ((List.range 11).map fun i => if inL [1, 3, 4, 6, 8, 9] i = true then .read else .pure) [] [0, 1, 2, 3, 4, 5, 6, 7, 8, 9, 10] .stop mixed rfl rfl (by decide +kernel) ?_
          repeat' (first | (with_reducible show AG _ _ _ _ _ _ _ _ _ _; first | exact zgn | refine zgs ?_ | refine znd ?_ ?_) | (show AMid _ _ _ _; first | refine zmf ?_ | refine zmg (by first | exact OSub.refl _ | exact .drop (OSub.refl _) | exact .drop (.drop (OSub.refl _))) ?_) | refine gY pk ?_ | (show AL _ _ _ _ _ _ _; first | refine jX tok xk ?_ | refine jX tok yk ?_) | fail)
          repeat (first | refine gA pk ?_)
          exact ⟨k + 1, ⟨by omega, hc⟩, by omega, by exact subQ, OSub.none _⟩
    · have z1 : a1.drop k = [] := List.drop_of_length_le (by omega)
      have z2 : b1.drop k = [] := List.drop_of_length_le (by omega)
      have : c1 = 0 := by
        rw [z1, z2] at hc
        rw [← hc]; rfl
      subst this
      rw [if_neg (by decide)] at hr
      repeat (first | refine gA pk ?_)
      refine zlx (fun k : Nat => [(2, .ip [ints a1, ints a2]), (3, .ip [ints b1, ints b2]), (6, AI k)]) (fun _ => []) (fun k => k ≤ a2.length ∧ Can.cmpL (a2.drop k) (b2.drop k) = c2) (fun k => a2.length - k) 0 ⟨Nat.zero_le _, hc2⟩ ?_ (OSub.none _) ?_
      · exact subQ
      · rintro j ⟨hj, hc⟩
        by_cases hkx : j < a2.length
        · have hky : j < b2.length := by omega
          rw [cmpL_drop hkx hky] at hc
          have e1 := List.getElem?_eq_getElem hkx
          have e2 := List.getElem?_eq_getElem hky
          generalize a2[j] = x at *
          generalize b2[j] = y at *
          have xk : (rowI a2)[(j : Int).toNat]? = some [AI x] := zmp (f := cI) e1
          have yk : (rowI b2)[(j : Int).toNat]? = some [AI y] := zmp (f := cI) e2
          by_cases hlt : x < y
          · have : c2 = -1 := by
              rw [if_pos (by unfold Can.cmpI; rw [if_pos hlt]; decide)] at hc
              rw [← hc]; unfold Can.cmpI; rw [if_pos hlt]
            subst this
            obtain rfl : true = r := hr
            repeat (first | refine gN pk ?_)
            refine zrg ((List.range 11).map fun i => if inL [1, 3, 4, 6, 8, 9] i = true then .read else .pure) [] [0, 1, 2, 3, 4, 5, 6, 7, 8, 9, 10] .stop mixed rfl rfl (by decide +kernel) ?_
            repeat' (first | (with_reducible show AG _ _ _ _ _ _ _ _ _ _; first | exact zgn | refine zgs ?_ | refine znd ?_ ?_) | (show AMid _ _ _ _; first | refine zmf ?_ | refine zmg (by first | exact OSub.refl _ | exact .drop (OSub.refl _) | exact .drop (.drop (OSub.refl _))) ?_) | refine gY pk ?_ | (show AL _ _ _ _ _ _ _; first | refine jX tok xk ?_ | refine jX tok yk ?_) | fail)
            repeat (first | refine gN pk ?_)
            refine zrg ((List.range 12).map fun i => if inL [1, 3, 4, 6, 8, 9] i = true then .read else .pure) [] [0, 1, 2, 3, 4, 5, 6, 7, 8, 9, 10, 11] .stop mixed rfl rfl (by decide +kernel) ?_
            repeat' (first | (with_reducible show AG _ _ _ _ _ _ _ _ _ _; first | exact zgn | refine zgs ?_ | refine znd ?_ ?_) | (show AMid _ _ _ _; first | refine zmf ?_ | refine zmg (by first | exact OSub.refl _ | exact .drop (OSub.refl _) | exact .drop (.drop (OSub.refl _))) ?_) | refine gY pk ?_ | (show AL _ _ _ _ _ _ _; first | refine jX tok xk ?_ | refine jX tok yk ?_) | fail)
            repeat (first | refine gA pk ?_)
            refine finQ ?_
            exact ⟨rfl, rfl⟩
          · by_cases hgt : y < x
            · have : c2 = 1 := by
                rw [if_pos (by unfold Can.cmpI; rw [if_neg hlt, if_pos hgt]; decide)] at hc
                rw [← hc]; unfold Can.cmpI; rw [if_neg hlt, if_pos hgt]
              subst this
              obtain rfl : false = r := hr
              repeat (first | refine gN pk ?_)
              refine zrg ((List.range 11).map fun i => if inL [1, 3, 4, 6, 8, 9] i = true then .read else .pure) [] [0, 1, 2, 3, 4, 5, 6, 7, 8, 9, 10] .stop mixed rfl rfl (by decide +kernel) ?_
              repeat' (first | (with_reducible show AG _ _ _ _ _ _ _ _ _ _; first | exact zgn | refine zgs ?_ | refine znd ?_ ?_) | (show AMid _ _ _ _; first | refine zmf ?_ | refine zmg (by first | exact OSub.refl _ | exact .drop (OSub.refl _) | exact .drop (.drop (OSub.refl _))) ?_) | refine gY pk ?_ | (show AL _ _ _ _ _ _ _; first | refine jX tok xk ?_ | refine jX tok yk ?_) | fail)
              repeat (first | refine gN pk ?_)
              refine zrg ((List.range 12).map fun i => if inL [1, 3, 4, 6, 8, 9] i = true then .read else .pure) [] [0, 1, 2, 3, 4, 5, 6, 7, 8, 9, 10, 11] .stop mixed rfl rfl (by decide +kernel) ?_
              repeat' (first | (with_reducible show AG _ _ _ _ _ _ _ _ _ _; first | exact zgn | refine zgs ?_ | refine znd ?_ ?_) | (show AMid _ _ _ _; first | refine zmf ?_ | refine zmg (by first | exact OSub.refl _ | exact .drop (OSub.refl _) | exact .drop (.drop (OSub.refl _))) ?_) | refine gY pk ?_ | (show AL _ _ _ _ _ _ _; first | refine jX tok xk ?_ | refine jX tok yk ?_) | fail)
              repeat (first | refine gA pk ?_)
              refine finQ ?_
              exact ⟨rfl, rfl⟩
            · rw [if_neg (by rw [Decidable.not_not]; exact Can.cmpI_zero.2 (by omega))] at hc
              repeat (first | refine gN pk ?_)
              refine zrg ((List.range 11).map fun i => if inL [1, 3, 4, 6, 8, 9] i = true then .read else .pure) [] [0, 1, 2, 3, 4, 5, 6, 7, 8, 9, 10] .stop mixed rfl rfl (by decide +kernel) ?_
              repeat' (first | (with_reducible show AG _ _ _ _ _ _ _ _ _ _; first | exact zgn | refine zgs ?_ | refine znd ?_ ?_) | (show AMid _ _ _ _; first | refine zmf ?_ | refine zmg (by first | exact OSub.refl _ | exact .drop (OSub.refl _) | exact .drop (.drop (OSub.refl _))) ?_) | refine gY pk ?_ | (show AL _ _ _ _ _ _ _; first | refine jX tok xk ?_ | refine jX tok yk ?_) | fail)
              repeat (first | refine gA pk ?_)
              exact ⟨j + 1, ⟨by omega, hc⟩, by omega, by exact subQ, OSub.none _⟩
        · have z1 : a2.drop j = [] := List.drop_of_length_le (by omega)
          have z2 : b2.drop j = [] := List.drop_of_length_le (by omega)
          have : c2 = 0 := by
            rw [z1, z2] at hc
            rw [← hc]; rfl
          subst this
          obtain rfl : false = r := hr
          repeat (first | refine gA pk ?_)
          refine finQ ?_
          exact ⟨rfl, rfl⟩
theorem srtL_one {l : List Mo} (h : l.length < 2) : srtL l = l := by
  have hp := srtL_perm l
  match l, h with
  | [], _ => exact List.perm_nil.1 hp
  | [a], _ => exact List.perm_singleton.1 hp
theorem srtL_halves (l : List Mo) (k : Nat) : mrg (srtL (l.take k)) (srtL (l.drop k)) = srtL l := mrg_halves k (srtL_le _) (srtL_le _) (srtL_perm _) (srtL_perm _) (srtL_le l) (srtL_perm l)
theorem gsorted_rec (N1 N2 : Nat) (hN1 : N1 ≤ 1000) (hN2 : N2 ≤ 1000) : ∀ (n : Nat) (l : List Mo), l.length ≤ n → l.length ≤ 100000 → (∀ m ∈ l, m.1.length = N1 ∧ m.2.length = N2) → Pure Tryz.prog 53 [mosA l] (mosA (srtL l)) := by
  intro n
  induction n with
  | zero =>
    intro l hn hl hb
    have lm : (l.map cMo).length = l.length := by simp
    rw [srtL_one (by omega)]
    refine zen Tryz.func53 (by kernel_rfl) rfl Tryz.ntmps53 rfl (by simp) ?_
    repeat (first | refine gA pk ?_)
    refine finQ ?_
    exact ⟨rfl, rfl⟩
  | succ n ih =>
    intro l hn hl hb
    have lm : (l.map cMo).length = l.length := by simp
    by_cases h2 : l.length < 2
    · rw [srtL_one h2]
      refine zen Tryz.func53 (by kernel_rfl) rfl Tryz.ntmps53 rfl (by simp) ?_
      repeat (first | refine gA pk ?_)
      refine finQ ?_
      exact ⟨rfl, rfl⟩
    obtain ⟨k, hk⟩ : ∃ k : Nat, k = l.length / 2 := ⟨_, rfl⟩
    have s1 := ih (l.take k) (by rw [List.length_take]; omega) (by rw [List.length_take]; omega) (fun m hm => hb m (List.mem_of_mem_take hm))
    have s2 := ih (l.drop k) (by rw [List.length_drop]; omega) (by rw [List.length_drop]; omega) (fun m hm => hb m (List.mem_of_mem_drop hm))
    have q1 : ((l.map cMo).take k).drop 0 = (l.take k).map cMo := by rw [List.drop_zero, List.map_take]
    have q2 : ((l.map cMo).take (l.map cMo).length).drop k = (l.drop k).map cMo := by rw [List.take_length, List.map_drop]
    have hA : ∀ m ∈ srtL (l.take k), m.1.length = N1 ∧ m.2.length = N2 := fun m hm => hb m (List.mem_of_mem_take ((srtL_perm _).mem_iff.1 hm))
    have hB : ∀ m ∈ srtL (l.drop k), m.1.length = N1 ∧ m.2.length = N2 := fun m hm => hb m (List.mem_of_mem_drop ((srtL_perm _).mem_iff.1 hm))
    have lA : (srtL (l.take k)).length = k := by rw [(srtL_perm _).length_eq, List.length_take]; omega
    have lB : (srtL (l.drop k)).length = l.length - k := by rw [(srtL_perm _).length_eq, List.length_drop]
    have hm := srtL_halves l k
    generalize srtL (l.take k) = A at *
    generalize srtL (l.drop k) = B at *
    generalize srtL l = R at *
    refine zen Tryz.func53 (by kernel_rfl) rfl Tryz.ntmps53 rfl (by simp) ?_
    repeat (first | refine gN pk ?_)
    refine zrg ((List.range 14).map fun i => if inL [5, 11] i = true then .eff else if inL [2, 4, 8, 10] i = true then .read else .pure) [5] [0, 1, 2, 3, 4, 6, 7, 8, 9, 10] (.nd 5 [11, 12, 13] .stop .stop) mixed rfl rfl (by decide +kernel) ?_
    repeat' (first | (with_reducible show AG _ _ _ _ _ _ _ _ _ _; first | exact zgn | refine zgs ?_ | refine znd ?_ ?_) | (show AMid _ _ _ _; first | refine zmf ?_ | refine zmg (by first | exact OSub.refl _ | exact .drop (OSub.refl _) | exact .drop (.drop (OSub.refl _))) ?_) | refine gY pk ?_ | (show AL _ _ _ _ _ _ _; first | refine s_quo rfl rfl rfl rfl rfl rfl (by omega) (by omega) (IntWalk.i64_in _ (by omega)) ?_ | (refine s_slice tok (a := 0) (b := k) rfl rfl rfl rfl rfl rfl rfl rfl rfl (by exact ⟨_, congrArg (fun z => AV.lit (Value.int .i64 z)) (by omega)⟩) (Nat.zero_le _) (by omega) ?_; rw [q1]) | (refine s_slice tok (a := k) (b := (l.map cMo).length) rfl rfl rfl rfl rfl rfl rfl rfl (by exact ⟨_, congrArg (fun z => AV.lit (Value.int .i64 z)) (by omega)⟩) rfl (by omega) (Nat.le_refl _) ?_; rw [q2]) | refine jP s1 ?_ | refine jP s2 ?_) | fail)
    repeat (first | refine gA pk ?_)
    refine a_loopG3 (fun (xs : List Mo × List Mo) (out : List Mo) (v : Value) => [(3, mosA xs.1), (4, mosA xs.2), (5, .lit v)]) (fun xs out v => [(v, .row 88 2 (out.map cMo))]) (fun xs out _ => (out.length + xs.1.length + xs.2.length = l.length ∧ out ++ mrg xs.1 xs.2 = R) ∧ (∀ m ∈ xs.1, m.1.length = N1 ∧ m.2.length = N2) ∧ ∀ m ∈ xs.2, m.1.length = N1 ∧ m.2.length = N2) (fun xs _ _ => xs.1.length + xs.2.length) (A, B) [] (.slice none 0 0) ⟨⟨by simp only [List.length_nil]; omega, by rw [List.nil_append]; exact hm⟩, hA, hB⟩ (.sub (by exact subQ) (.free (OSub.none _))) ?_
    clear s1 s2 q1 q2 hA hB lA lB hm
    rintro ⟨xs, ys⟩ out v ⟨⟨hlen, hR⟩, hxs, hys⟩
    simp only at hlen hR hxs hys
    have lo : (out.map cMo).length = out.length := by simp
    cases xs with
    | nil =>
      cases ys with
      | nil =>
        rw [mrg_nil, List.append_nil] at hR
        subst hR
        have l0 : (([] : List Mo).map cMo).length = 0 := rfl
        refine a_frz 0 5 rfl rfl ?_
        repeat (first | refine gA pk ?_)
        refine finQ ?_
        exact ⟨rfl, rfl⟩
      | cons y ys =>
        rw [mrg_left] at hR
        have l0 : (([] : List Mo).map cMo).length = 0 := rfl
        have ly : ((y :: ys).map cMo).length = ys.length + 1 := by simp
        rw [List.length_cons] at hlen
        have yk : ((y :: ys).map cMo)[(0 : Int).toNat]? = some [ints y.1, ints y.2] := rfl
        have qy : (((y :: ys).map cMo).take ((y :: ys).map cMo).length).drop 1 = ys.map cMo := by rw [List.take_length]; rfl
        have hrow : (out ++ [y]).map cMo = out.map cMo ++ [[ints y.1, ints y.2]] := by rw [List.map_append]; rfl
        repeat (first | refine gN pk ?_)
        refine zrg ((List.range 17).map fun i => if inL [14] i = true then .eff else if inL [1, 5, 9, 10, 12, 13] i = true then .read else .pure) [] [0, 1, 2, 3, 4, 5, 6, 7, 8, 9, 10, 11, 12, 13, 14, 15, 16] .stop mixed rfl rfl (by decide +kernel) ?_
        repeat' (first | (with_reducible show AG _ _ _ _ _ _ _ _ _ _; first | exact zgn | refine zgs ?_ | refine znd ?_ ?_) | (show AMid _ _ _ _; first | refine zmf ?_ | refine zmg (by first | exact OSub.refl _ | exact .drop (OSub.refl _) | exact .drop (.drop (OSub.refl _))) ?_) | refine gY pk ?_ | fail)
        repeat (first | refine gN pk ?_)
        refine zrg ((List.range 10).map fun i => if inL [4, 5] i = true then .eff else .pure) [] [0, 1, 2, 3, 6, 7, 4, 5, 8, 9] .stop mixed rfl rfl (by decide +kernel) ?_
        repeat' (first | (with_reducible show AG _ _ _ _ _ _ _ _ _ _; first | exact zgn | refine zgs ?_ | refine znd ?_ ?_) | (show AMid _ _ _ _; first | refine zmf ?_ | refine zmg (by first | exact OSub.refl _ | exact .drop (OSub.refl _) | exact .drop (.drop (OSub.refl _))) ?_) | refine gY pk ?_ | (show AL _ _ _ _ _ _ _; first | refine jX tok yk ?_ | (refine s_slice tok (a := 1) (b := ((y :: ys).map cMo).length) rfl rfl rfl rfl rfl rfl rfl rfl ⟨_, rfl⟩ rfl (by omega) (Nat.le_refl _) ?_; rw [qy]) | ((first | refine s_build1 tok rfl rfl rfl rfl rfl rfl rfl rfl (fun u => ?_) | refine s_build1M tok rfl rfl rfl rfl rfl rfl rfl (fun u => ?_) | refine zba tok rfl rfl rfl rfl rfl rfl rfl rfl (by decide) (fun u => ?_)); refine s_append1 tok 0 rfl rfl rfl rfl rfl rfl (by decide) rfl rfl rfl rfl (by omega) (by omega) (fun w => ?_))) | fail)
        repeat (first | refine gA pk ?_)
        exact ⟨([], ys), out ++ [y], w, ⟨⟨by simp only [List.length_append, List.length_cons, List.length_nil]; simp only [List.length_nil] at hlen; omega, by rw [mrg_left, List.append_assoc]; exact hR⟩, hxs, fun m hm => hys m (List.mem_cons_of_mem _ hm)⟩, by simp only [List.length_cons]; omega, .sub (by exact subQ) (by rw [hrow]; exact OSub.refl _)⟩
    | cons x xs =>
      have lx : ((x :: xs).map cMo).length = xs.length + 1 := by simp
      rw [List.length_cons] at hlen
      have xk : ((x :: xs).map cMo)[(0 : Int).toNat]? = some [ints x.1, ints x.2] := rfl
      have qx : (((x :: xs).map cMo).take ((x :: xs).map cMo).length).drop 1 = xs.map cMo := by rw [List.take_length]; rfl
      have hrowx : (out ++ [x]).map cMo = out.map cMo ++ [[ints x.1, ints x.2]] := by rw [List.map_append]; rfl
      cases ys with
      | nil =>
        rw [mrg_nil] at hR
        have l0 : (([] : List Mo).map cMo).length = 0 := rfl
        repeat (first | refine gN pk ?_)
        refine zrg ((List.range 17).map fun i => if inL [14] i = true then .eff else if inL [1, 5, 9, 10, 12, 13] i = true then .read else .pure) [] [0, 1, 2, 3, 4, 5, 6, 7, 8, 9, 10, 11, 12, 13, 14, 15, 16] .stop mixed rfl rfl (by decide +kernel) ?_
        repeat' (first | (with_reducible show AG _ _ _ _ _ _ _ _ _ _; first | exact zgn | refine zgs ?_ | refine znd ?_ ?_) | (show AMid _ _ _ _; first | refine zmf ?_ | refine zmg (by first | exact OSub.refl _ | exact .drop (OSub.refl _) | exact .drop (.drop (OSub.refl _))) ?_) | refine gY pk ?_ | fail)
        repeat (first | refine gN pk ?_)
        refine zrg ((List.range 10).map fun i => if inL [4, 5] i = true then .eff else .pure) [] [0, 1, 2, 3, 6, 7, 4, 5, 8, 9] .stop mixed rfl rfl (by decide +kernel) ?_
        repeat' (first | (with_reducible show AG _ _ _ _ _ _ _ _ _ _; first | exact zgn | refine zgs ?_ | refine znd ?_ ?_) | (show AMid _ _ _ _; first | refine zmf ?_ | refine zmg (by first | exact OSub.refl _ | exact .drop (OSub.refl _) | exact .drop (.drop (OSub.refl _))) ?_) | refine gY pk ?_ | (show AL _ _ _ _ _ _ _; first | refine jX tok xk ?_ | (refine s_slice tok (a := 1) (b := ((x :: xs).map cMo).length) rfl rfl rfl rfl rfl rfl rfl rfl ⟨_, rfl⟩ rfl (by omega) (Nat.le_refl _) ?_; rw [qx]) | ((first | refine s_build1 tok rfl rfl rfl rfl rfl rfl rfl rfl (fun u => ?_) | refine s_build1M tok rfl rfl rfl rfl rfl rfl rfl (fun u => ?_) | refine zba tok rfl rfl rfl rfl rfl rfl rfl rfl (by decide) (fun u => ?_)); refine s_append1 tok 0 rfl rfl rfl rfl rfl rfl (by decide) rfl rfl rfl rfl (by omega) (by omega) (fun w => ?_))) | fail)
        repeat (first | refine gA pk ?_)
        exact ⟨(xs, []), out ++ [x], w, ⟨⟨by simp only [List.length_append, List.length_cons, List.length_nil]; simp only [List.length_nil] at hlen; omega, by rw [mrg_nil, List.append_assoc]; exact hR⟩, fun m hm => hxs m (List.mem_cons_of_mem _ hm), hys⟩, by simp only [List.length_cons]; omega, .sub (by exact subQ) (by rw [hrowx]; exact OSub.refl _)⟩
      | cons y ys =>
        rw [mrg_cons] at hR
        have ly : ((y :: ys).map cMo).length = ys.length + 1 := by simp
        rw [List.length_cons] at hlen
        have yk : ((y :: ys).map cMo)[(0 : Int).toNat]? = some [ints y.1, ints y.2] := rfl
        have qy : (((y :: ys).map cMo).take ((y :: ys).map cMo).length).drop 1 = ys.map cMo := by rw [List.take_length]; rfl
        have hrow : (out ++ [y]).map cMo = out.map cMo ++ [[ints y.1, ints y.2]] := by rw [List.map_append]; rfl
        have bx := hxs x (by simp)
        have b_y := hys y (by simp)
        have s3 := gless_spec x y (by omega) (by omega) (by omega) (by omega)
        by_cases hlt : cmpM x y < 0
        · rw [if_pos hlt] at hR
          rw [decide_eq_true hlt] at s3
          repeat (first | refine gN pk ?_)
          refine zrg ((List.range 17).map fun i => if inL [14] i = true then .eff else if inL [1, 5, 9, 10, 12, 13] i = true then .read else .pure) [] [0, 1, 2, 3, 4, 5, 6, 7, 8, 9, 10, 11, 12, 13, 14, 15, 16] .stop mixed rfl rfl (by decide +kernel) ?_
          repeat' (first | (with_reducible show AG _ _ _ _ _ _ _ _ _ _; first | exact zgn | refine zgs ?_ | refine znd ?_ ?_) | (show AMid _ _ _ _; first | refine zmf ?_ | refine zmg (by first | exact OSub.refl _ | exact .drop (OSub.refl _) | exact .drop (.drop (OSub.refl _))) ?_) | refine gY pk ?_ | (show AL _ _ _ _ _ _ _; first | refine jX tok xk ?_ | refine jX tok yk ?_ | refine jP s3 ?_) | fail)
          repeat (first | refine gN pk ?_)
          refine zrg ((List.range 10).map fun i => if inL [4, 5] i = true then .eff else .pure) [] [0, 1, 2, 3, 6, 7, 4, 5, 8, 9] .stop mixed rfl rfl (by decide +kernel) ?_
          repeat' (first | (with_reducible show AG _ _ _ _ _ _ _ _ _ _; first | exact zgn | refine zgs ?_ | refine znd ?_ ?_) | (show AMid _ _ _ _; first | refine zmf ?_ | refine zmg (by first | exact OSub.refl _ | exact .drop (OSub.refl _) | exact .drop (.drop (OSub.refl _))) ?_) | refine gY pk ?_ | (show AL _ _ _ _ _ _ _; first | refine jX tok xk ?_ | (refine s_slice tok (a := 1) (b := ((x :: xs).map cMo).length) rfl rfl rfl rfl rfl rfl rfl rfl ⟨_, rfl⟩ rfl (by omega) (Nat.le_refl _) ?_; rw [qx]) | ((first | refine s_build1 tok rfl rfl rfl rfl rfl rfl rfl rfl (fun u => ?_) | refine s_build1M tok rfl rfl rfl rfl rfl rfl rfl (fun u => ?_) | refine zba tok rfl rfl rfl rfl rfl rfl rfl rfl (by decide) (fun u => ?_)); refine s_append1 tok 0 rfl rfl rfl rfl rfl rfl (by decide) rfl rfl rfl rfl (by omega) (by omega) (fun w => ?_))) | fail)
          repeat (first | refine gA pk ?_)
          exact ⟨(xs, y :: ys), out ++ [x], w, ⟨⟨by simp only [List.length_append, List.length_cons, List.length_nil]; omega, by rw [List.append_assoc]; exact hR⟩, fun m hm => hxs m (List.mem_cons_of_mem _ hm), hys⟩, by simp only [List.length_cons]; omega, .sub (by exact subQ) (by rw [hrowx]; exact OSub.refl _)⟩
        · rw [if_neg hlt] at hR
          rw [decide_eq_false hlt] at s3
          repeat (first | refine gN pk ?_)
          refine zrg ((List.range 17).map fun i => if inL [14] i = true then .eff else if inL [1, 5, 9, 10, 12, 13] i = true then .read else .pure) [] [0, 1, 2, 3, 4, 5, 6, 7, 8, 9, 10, 11, 12, 13, 14, 15, 16] .stop mixed rfl rfl (by decide +kernel) ?_
          repeat' (first | (with_reducible show AG _ _ _ _ _ _ _ _ _ _; first | exact zgn | refine zgs ?_ | refine znd ?_ ?_) | (show AMid _ _ _ _; first | refine zmf ?_ | refine zmg (by first | exact OSub.refl _ | exact .drop (OSub.refl _) | exact .drop (.drop (OSub.refl _))) ?_) | refine gY pk ?_ | (show AL _ _ _ _ _ _ _; first | refine jX tok xk ?_ | refine jX tok yk ?_ | refine jP s3 ?_) | fail)
          repeat (first | refine gN pk ?_)
          refine zrg ((List.range 10).map fun i => if inL [4, 5] i = true then .eff else .pure) [] [0, 1, 2, 3, 6, 7, 4, 5, 8, 9] .stop mixed rfl rfl (by decide +kernel) ?_
          repeat' (first | (with_reducible show AG _ _ _ _ _ _ _ _ _ _; first | exact zgn | refine zgs ?_ | refine znd ?_ ?_) | (show AMid _ _ _ _; first | refine zmf ?_ | refine zmg (by first | exact OSub.refl _ | exact .drop (OSub.refl _) | exact .drop (.drop (OSub.refl _))) ?_) | refine gY pk ?_ | (show AL _ _ _ _ _ _ _; first | refine jX tok yk ?_ | (refine s_slice tok (a := 1) (b := ((y :: ys).map cMo).length) rfl rfl rfl rfl rfl rfl rfl rfl ⟨_, rfl⟩ rfl (by omega) (Nat.le_refl _) ?_; rw [qy]) | ((first | refine s_build1 tok rfl rfl rfl rfl rfl rfl rfl rfl (fun u => ?_) | refine s_build1M tok rfl rfl rfl rfl rfl rfl rfl (fun u => ?_) | refine zba tok rfl rfl rfl rfl rfl rfl rfl rfl (by decide) (fun u => ?_)); refine s_append1 tok 0 rfl rfl rfl rfl rfl rfl (by decide) rfl rfl rfl rfl (by omega) (by omega) (fun w => ?_))) | fail)
          repeat (first | refine gA pk ?_)
          exact ⟨(x :: xs, ys), out ++ [y], w, ⟨⟨by simp only [List.length_append, List.length_cons, List.length_nil]; omega, by rw [List.append_assoc]; exact hR⟩, hxs, fun m hm => hys m (List.mem_cons_of_mem _ hm)⟩, by simp only [List.length_cons]; omega, .sub (by exact subQ) (by rw [hrow]; exact OSub.refl _)⟩
end Go.Proofs.YtimfponihbfimaaGreat
end
section
namespace Go.Proofs.YtimfponihbfimaaGreat
open Go.Sj Go.Sj.Typ Go.Sj.Sta Go.Sj.Inc Go.Sj.Pln
set_option maxRecDepth 8000
set_option maxHeartbeats 16000000
theorem gprun_spec (t : Tys) (ht : Small t) (p g : Gr) (hp : OkG p) (hg : OkG g) (l : List Opn) (hl : l.length ≤ 1000) (inj : Bool) :
    Pure Tryz.prog 15 [tysA t, grA p, grA g, opsA l, AB inj] (.tup [mosA (runR t p g l inj).1, ints (runR t p g l inj).2.1, AI (runR t p g l inj).2.2]) := by
  have s1 := refValid_spec t ht
  have s2 := refgvalid_spec p hp
  have s3 := refgvalid_spec g hg
  have ll : (l.map cOp).length = l.length := by simp
  unfold runR
  by_cases hv : validS t p g = 0
  rotate_left
  · rw [if_pos hv]
    obtain ⟨r, hr⟩ : ∃ r, validS t p g = r := ⟨_, rfl⟩
    rw [hr] at hv ⊢
    unfold validS at hr
    generalize (validR t).1 = nm at s1
    by_cases hv1 : (validR t).2 = 0
    · rw [if_neg (Decidable.not_not.2 hv1)] at hr
      rw [hv1] at s1
      by_cases h1 : gvalid p = 0
      · rw [if_neg (Decidable.not_not.2 h1)] at hr
        rw [h1] at s2
        have hP := gvalid_zero.1 h1
        have s4 := gTyped_spec t ht p hP
        by_cases h2 : gvalid g = 0
        · rw [if_neg (Decidable.not_not.2 h2)] at hr
          rw [h2] at s3
          have hG := gvalid_zero.1 h2
          have s5 := gTyped_spec t ht g hG
          clear hP hG
          generalize typT t p = b1 at *
          generalize typT t g = b2 at *
          obtain ⟨tn, te⟩ := t
          obtain ⟨pn, pe⟩ := p
          obtain ⟨gn, ge⟩ := g
          cases b1 <;> cases b2
          all_goals
            first
            | exact absurd hr.symm hv
            | (subst hr
               refine zen Tryz.func15 (by kernel_rfl) rfl Tryz.ntmps15 rfl (by simp) ?_
               refine a_seq ?_
               refine a_reg ?_
               repeat (first | refine gZ pk ?_ | (show AL _ _ _ _ _ _ _; first | refine jB (fun u => ?_)))
               refine zfb 2 5 rfl rfl ?_
               refine zfb 1 6 rfl rfl ?_
               refine zfb 0 7 rfl rfl ?_
               repeat (first | refine gA pk ?_ | (show AL _ _ _ _ _ _ _; first | refine jP s1 ?_ | refine jP s2 ?_ | refine jP s3 ?_ | refine jP s4 ?_ | refine jP s5 ?_))
               exact fin (x := .tup [nilS, nilS, AI 13]) (.inr rfl) rfl nil3 ⟨rfl, rfl⟩ (OSub.none _))
        · rw [if_pos h2] at hr
          subst hr
          generalize gvalid g = e at *
          obtain ⟨tn, te⟩ := t
          obtain ⟨pn, pe⟩ := p
          obtain ⟨gn, ge⟩ := g
          refine zen Tryz.func15 (by kernel_rfl) rfl Tryz.ntmps15 rfl (by simp) ?_
          refine a_seq ?_
          refine a_reg ?_
          repeat (first | refine gZ pk ?_ | (show AL _ _ _ _ _ _ _; first | refine jB (fun u => ?_)))
          refine zfb 2 5 rfl rfl ?_
          refine zfb 1 6 rfl rfl ?_
          refine zfb 0 7 rfl rfl ?_
          repeat (first | refine gA pk ?_ | (show AL _ _ _ _ _ _ _; first | refine jP s1 ?_ | refine jP s2 ?_ | refine jP s3 ?_))
          exact fin (x := .tup [nilS, nilS, AI e]) (.inr rfl) rfl nil3 ⟨rfl, rfl⟩ (OSub.none _)
      · rw [if_pos h1] at hr
        subst hr
        generalize gvalid p = e at *
        obtain ⟨tn, te⟩ := t
        obtain ⟨pn, pe⟩ := p
        obtain ⟨gn, ge⟩ := g
        refine zen Tryz.func15 (by kernel_rfl) rfl Tryz.ntmps15 rfl (by simp) ?_
        refine a_seq ?_
        refine a_reg ?_
        repeat (first | refine gZ pk ?_ | (show AL _ _ _ _ _ _ _; first | refine jB (fun u => ?_)))
        refine zfb 2 5 rfl rfl ?_
        refine zfb 1 6 rfl rfl ?_
        refine zfb 0 7 rfl rfl ?_
        repeat (first | refine gA pk ?_ | (show AL _ _ _ _ _ _ _; first | refine jP s1 ?_ | refine jP s2 ?_))
        exact fin (x := .tup [nilS, nilS, AI e]) (.inr rfl) rfl nil3 ⟨rfl, rfl⟩ (OSub.none _)
    · rw [if_pos hv1] at hr
      subst hr
      generalize (validR t).2 = e at *
      obtain ⟨tn, te⟩ := t
      obtain ⟨pn, pe⟩ := p
      obtain ⟨gn, ge⟩ := g
      refine zen Tryz.func15 (by kernel_rfl) rfl Tryz.ntmps15 rfl (by simp) ?_
      refine a_seq ?_
      refine a_reg ?_
      repeat (first | refine gZ pk ?_ | (show AL _ _ _ _ _ _ _; first | refine jB (fun u => ?_)))
      refine zfb 2 5 rfl rfl ?_
      refine zfb 1 6 rfl rfl ?_
      refine zfb 0 7 rfl rfl ?_
      repeat (first | refine gA pk ?_ | (show AL _ _ _ _ _ _ _; first | refine jP s1 ?_))
      exact fin (x := .tup [nilS, nilS, AI e]) (.inr rfl) rfl nil3 ⟨rfl, rfl⟩ (OSub.none _)
  rw [if_neg (Decidable.not_not.2 hv)]
  have hc := caseOk hv
  have hz := zvz hv
  have s4 := gTyped_spec t ht p hz.2.1
  have s5 := gTyped_spec t ht g hz.2.2.1
  rw [hz.1] at s1
  rw [gvalid_zero.2 hz.2.1] at s2
  rw [gvalid_zero.2 hz.2.2.1] at s3
  rw [hz.2.2.2.1] at s4
  rw [hz.2.2.2.2] at s5
  generalize (validR t).1 = nm at s1
  have hpn := hc.gp.nl
  have hpe := hc.gp.el
  have s6 := gright_plan_spec p hc.gp l hl
  by_cases h2 : planE p (kn0 p) l = 0
  rotate_left
  · rw [if_pos h2]
    generalize planE p (kn0 p) l = c at *
    clear hc hz
    obtain ⟨tn, te⟩ := t
    obtain ⟨pn, pe⟩ := p
    obtain ⟨gn, ge⟩ := g
    refine zen Tryz.func15 (by kernel_rfl) rfl Tryz.ntmps15 rfl (by simp) ?_
    refine a_seq ?_
    refine a_reg ?_
    repeat (first | refine gZ pk ?_ | (show AL _ _ _ _ _ _ _; first | refine jB (fun u => ?_)))
    refine zfb 2 5 rfl rfl ?_
    refine zfb 1 6 rfl rfl ?_
    refine zfb 0 7 rfl rfl ?_
    repeat (first | refine gA pk ?_ | (show AL _ _ _ _ _ _ _; first | refine jP s1 ?_ | refine jP s2 ?_ | refine jP s3 ?_ | refine jP s4 ?_ | refine jP s5 ?_ | refine jP s6 ?_))
    exact fin (x := .tup [nilS, nilS, AI c]) (.inr rfl) rfl nil3 ⟨rfl, rfl⟩ (OSub.none _)
  rw [if_neg (Decidable.not_not.2 h2)]
  rw [h2] at s6
  have s7 := gpopen_spec p (by omega) (by omega)
  have sx := fun m hm o ho => gextended_spec t ht p g hc inj m hm o ho
  have hgn := hc.gg.nl
  have hge := hc.gg.el
  have hxl : ∀ m o, (extM (seaA t p g inj) m o).length ≤ 80 := fun m o => by
    unfold extM
    split
    · exact Nat.le_trans (fm_len _ _) (by show g.nodes.length ≤ 80; omega)
    · exact Nat.le_trans (fm_len _ _) (by show g.edges.length ≤ 80; omega)
  have hpar := fun k hk m hm o ho m' hm' => ext_par (S := seaA t p g inj) hc.gp hc.gg (k := k) hk (m := m) hm (o := o) ho (m' := m') hm'
  have hex := fun k m (hm : Par (seaA t p g inj) k m) o (ho : opE p k o = 0) => ext_eq (S := seaA t p g inj) (k := k) hm (o := o) ho
  have hp0 := par_0 (seaA t p g inj)
  have hpl : ∀ {k m}, Par (seaA t p g inj) k m → MoL p m := fun h => parL h
  obtain ⟨R, hR⟩ : ∃ R, runM (extM (seaA t p g inj)) [noMo p] l = R := ⟨_, rfl⟩
  rw [hR]
  have hS : (seaA t p g inj).p = p := rfl
  generalize extM (seaA t p g inj) = ext at *
  generalize extG (seaA t p g inj) = exg at *
  generalize hSS : seaA t p g inj = S at *
  obtain ⟨tn, te⟩ := t
  obtain ⟨pn, pe⟩ := p
  obtain ⟨gn, ge⟩ := g
  simp only at *
  clear hc hz hv hSS hgn hge
  change Pure _ _ [.agg [nodsA tn, edgsA te], .agg [ints pn, edsA pe], .agg [ints gn, edsA ge], opsA l, AB inj] _
  change Pure _ _ [.agg [ints pn, edsA pe]] (.agg [ints (noMo ⟨pn, pe⟩).1, ints (noMo ⟨pn, pe⟩).2]) at s7
  refine zen Tryz.func15 (by kernel_rfl) rfl Tryz.ntmps15 rfl (by simp) ?_
  refine a_seq ?_
  refine a_reg ?_
  repeat (first | refine gZ pk ?_ | (show AL _ _ _ _ _ _ _; first | refine jB (fun u => ?_)))
  refine zfb 2 5 rfl rfl ?_
  refine zfb 1 6 rfl rfl ?_
  refine zfb 0 7 rfl rfl ?_
  repeat (first | refine gA pk ?_ | (show AL _ _ _ _ _ _ _; first | refine jP s1 ?_ | refine jP s2 ?_ | refine jP s3 ?_ | refine jP s4 ?_ | refine jP s5 ?_ | refine jP s6 ?_ | refine jP s7 ?_ | refine zba tok rfl rfl rfl rfl rfl rfl rfl rfl (by decide) (fun vf => ?_)))
  refine a_loopG3 (fun (i : Nat) (z : List Mo × List Int) (vv : Value × Value) => [(3, opsA l), (4, AB inj), (5, .ip [nodsA tn, edgsA te]), (6, .ip [ints pn, edsA pe]), (7, .ip [ints gn, edsA ge]), (18, .lit vv.1), (19, .lit vv.2), (20, AI i)]) (fun i z vv => [(vv.1, OB.row 88 2 (z.1.map cMo)), (vv.2, OB.row 3 1 (rowI z.2))]) (fun i z _ => i ≤ l.length ∧ z.1.length ≤ 5000 ∧ z.2.length = i ∧ R = (runM ext z.1 (l.drop i)).map (fun r => (r.1, z.2 ++ r.2)) ∧ ∃ k, KnOk ⟨pn, pe⟩ k ∧ (∀ m ∈ z.1, Par S k m) ∧ planE ⟨pn, pe⟩ k (l.drop i) = 0) (fun i _ _ => l.length - i) 0 ([noMo ⟨pn, pe⟩], []) (vf, .slice none 0 0) ⟨Nat.zero_le _, by simp, rfl, by
      rw [← hR, List.drop_zero]
      show _ = (runM ext [noMo ⟨pn, pe⟩] l).map fun r => (r.1, [] ++ r.2)
      simp, kn0 ⟨pn, pe⟩, kn0_ok _, fun m hm => by
      rw [List.mem_singleton] at hm
      subst hm
      have := hp0
      rw [hS] at this
      exact this, h2⟩ (.sub (by exact subQ) (.keep (.free .nil))) ?_
  rintro i ⟨now, cs⟩ ⟨v1, v2⟩ ⟨hi, hnl, hcl, he, k, hk, hpr, hplan⟩
  simp only at hnl hcl he hpr
  have lnow : (now.map cMo).length = now.length := by simp
  have lcs : (rowI cs).length = i := by rw [List.length_map]; exact hcl
  rcases Nat.lt_or_ge i l.length with h | h
  · have hx := List.getElem?_eq_getElem h
    rw [List.drop_eq_getElem_cons h] at he hplan
    generalize l[i] = o at *
    have xk : (l.map cOp)[(i : Int).toNat]? = some [AI o.kind, AI o.el] := zmp (f := cOp) hx
    rw [show planE ⟨pn, pe⟩ k (o :: l.drop (i + 1)) = if opE ⟨pn, pe⟩ k o ≠ 0 then opE ⟨pn, pe⟩ k o else planE ⟨pn, pe⟩ (aftK ⟨pn, pe⟩ k o) (l.drop (i + 1)) from rfl] at hplan
    have hop : opE ⟨pn, pe⟩ k o = 0 := by
      by_cases hh : opE ⟨pn, pe⟩ k o = 0
      · exact hh
      · rw [if_pos hh] at hplan; exact absurd hplan hh
    rw [if_neg (Decidable.not_not.2 hop)] at hplan
    rw [runM_cons] at he
    have hoo : (o.kind = 1 ∧ 0 ≤ o.el ∧ o.el < pn.length) ∨ (o.kind ≠ 1 ∧ 0 ≤ o.el ∧ o.el < pe.length) := by
      rcases opE_zero hop with ⟨a, b, _⟩ | ⟨a, b, _⟩
      · exact .inl ⟨a, b⟩
      · exact .inr ⟨by omega, b⟩
    have sx2 := fun m hm => sx m hm o hoo
    have hnx := fun m hm m' hm' => hpar k (by rw [hS]; exact hk) m hm o (by rw [hS]; exact hop) m' hm'
    rw [hS] at hnx
    have hex2 := fun m hm => hex k m hm o hop
    obtain ⟨ok', oe'⟩ := o
    simp only at xk
    repeat (first | refine gN pk ?_)
    refine a_frz 0 18 rfl rfl ?_
    refine a_loopG3 (fun (j : Nat) (nx : List Mo) (v : Value) => [(3, opsA l), (4, AB inj), (5, .ip [nodsA tn, edgsA te]), (6, .ip [ints pn, edsA pe]), (7, .ip [ints gn, edsA ge]), (18, mosA now), (19, .lit v2), (20, AI i), (21, .lit v), (22, AI j)]) (fun j nx v => [(v, OB.row 88 2 (nx.map cMo)), (v2, OB.row 3 1 (rowI cs))]) (fun j nx _ => j ≤ now.length ∧ nx = ((now.take j).flatMap fun m => ext m ⟨ok', oe'⟩) ∧ nx.length ≤ 5000) (fun j _ _ => now.length - j) 0 [] (.slice none 0 0) ⟨Nat.zero_le _, by simp, by simp⟩ (.sub (by exact subQ) (.free (.keep .nil))) ?_
    rintro j nx v ⟨hj, hnx2, hnxl⟩
    have lnx : (nx.map cMo).length = nx.length := by simp
    rcases Nat.lt_or_ge j now.length with h3 | h3
    · have hm := List.getElem?_eq_getElem h3
      have hmm := hpr _ (List.getElem_mem h3)
      generalize now[j] = m at hm hmm
      have hml := hpl hmm
      have s8 := sx2 m hml
      rw [hex2 m hmm] at s8
      have hfs := flat_succ (fun m => ext m ⟨ok', oe'⟩) hm
      try simp only at hfs
      rw [← hnx2] at hfs
      have hle := flat_take_len (fun m => ext m ⟨ok', oe'⟩) now (j + 1)
      rw [hfs] at hle
      have hX := hxl m ⟨ok', oe'⟩
      generalize ext m ⟨ok', oe'⟩ = X at *
      obtain ⟨m1, m2⟩ := m
      have mk : (now.map cMo)[(j : Int).toNat]? = some [ints m1, ints m2] := zmp (f := cMo) hm
      have lX : (X.map cMo).length = X.length := by simp
      have happ : (nx ++ X).map cMo = nx.map cMo ++ X.map cMo := List.map_append
      have lapp : ((nx ++ X).map cMo).length = nx.length + X.length := by simp
      by_cases hbig : 5000 < nx.length + X.length
      · rw [if_pos (by rw [List.length_append] at hle; omega)] at he
        simp only [Option.map_none] at he
        rw [he]
        repeat (first | refine gN pk ?_)
        refine zrg ((List.range 16).map fun i => if inL [13, 14] i = true then .eff else if inL [1, 2, 3, 6, 7, 10, 11] i = true then .read else .pure) [] [0, 1, 2, 3, 4, 5, 6, 7, 8, 9, 10, 11, 12, 13, 14, 15] .stop mixed rfl rfl (by decide +kernel) ?_
        repeat' (first | (with_reducible show AG _ _ _ _ _ _ _ _ _ _; first | exact zgn | refine zgs ?_ | refine znd ?_ ?_) | (show AMid _ _ _ _; first | refine zmf ?_ | refine zmg (by first | exact OSub.refl _ | exact .drop (OSub.refl _) | exact .drop (.drop (OSub.refl _))) ?_) | refine gY pk ?_ | (show AL _ _ _ _ _ _ _; first | refine jX tok mk ?_ | refine jX tok xk ?_ | refine jP s8 ?_ | refine s_appendIm tok 0 rfl rfl rfl rfl rfl rfl (by decide) rfl rfl rfl rfl (mo_cell _) (by simp only [List.length_map]; omega) (by simp only [List.length_map]; omega) (fun w => ?_) | (rw [← happ]; refine zol tok 0 rfl rfl rfl rfl (by decide) rfl rfl rfl ?_)) | fail)
        repeat (first | refine gA pk ?_ | (show AL _ _ _ _ _ _ _; first | (rw [← happ]; refine zol tok 0 rfl rfl rfl rfl (by decide) rfl rfl rfl ?_) | refine zol tok 0 rfl rfl rfl rfl (by decide) rfl rfl rfl ?_))
        exact fin (x := .tup [nilS, nilS, AI 3]) (.inr rfl) rfl nil3 ⟨rfl, rfl⟩ (OSub.none _)
      · repeat (first | refine gN pk ?_)
        refine zrg ((List.range 16).map fun i => if inL [13, 14] i = true then .eff else if inL [1, 2, 3, 6, 7, 10, 11] i = true then .read else .pure) [] [0, 1, 2, 3, 4, 5, 6, 7, 8, 9, 10, 11, 12, 13, 14, 15] .stop mixed rfl rfl (by decide +kernel) ?_
        repeat' (first | (with_reducible show AG _ _ _ _ _ _ _ _ _ _; first | exact zgn | refine zgs ?_ | refine znd ?_ ?_) | (show AMid _ _ _ _; first | refine zmf ?_ | refine zmg (by first | exact OSub.refl _ | exact .drop (OSub.refl _) | exact .drop (.drop (OSub.refl _))) ?_) | refine gY pk ?_ | (show AL _ _ _ _ _ _ _; first | refine jX tok mk ?_ | refine jX tok xk ?_ | refine jP s8 ?_ | refine s_appendIm tok 0 rfl rfl rfl rfl rfl rfl (by decide) rfl rfl rfl rfl (mo_cell _) (by simp only [List.length_map]; omega) (by simp only [List.length_map]; omega) (fun w => ?_) | (rw [← happ]; refine zol tok 0 rfl rfl rfl rfl (by decide) rfl rfl rfl ?_)) | fail)
        repeat (first | refine gA pk ?_ | (show AL _ _ _ _ _ _ _; first | (rw [← happ]; refine zol tok 0 rfl rfl rfl rfl (by decide) rfl rfl rfl ?_) | refine zol tok 0 rfl rfl rfl rfl (by decide) rfl rfl rfl ?_))
        exact ⟨j + 1, nx ++ X, _, ⟨by omega, hfs.symm, by rw [List.length_append]; omega⟩, by omega, .sub (by exact subQ) (OSub.refl _)⟩
    · obtain rfl : j = now.length := by omega
      rw [List.take_length] at hnx2
      rw [← hnx2, if_neg (by omega)] at he
      have hrow : rowI (cs ++ [(nx.length : Int)]) = rowI cs ++ [[AI nx.length]] := by simp [cI]
      repeat (first | refine gN pk ?_ | (show AL _ _ _ _ _ _ _; first | refine zol tok 0 rfl rfl rfl rfl (by decide) rfl rfl rfl ?_))
      rw [lnx]
      (first | refine s_build1 tok rfl rfl rfl rfl rfl rfl rfl rfl (fun u => ?_) | refine s_build1M tok rfl rfl rfl rfl rfl rfl rfl (fun u => ?_) | refine zba tok rfl rfl rfl rfl rfl rfl rfl rfl (by decide) (fun u => ?_)); refine s_append1 tok 1 rfl rfl rfl rfl rfl rfl (by decide) rfl rfl rfl rfl (by omega) (by omega) (fun w => ?_)
      repeat (first | refine gA pk ?_)
      refine ⟨i + 1, (nx, cs ++ [(nx.length : Int)]), (v, w), ⟨by omega, hnxl, by simp only [List.length_append, List.length_cons, List.length_nil]; omega, ?_, aftK ⟨pn, pe⟩ k ⟨ok', oe'⟩, aftK_ok hk _, fun m' hm' => ?_, hplan⟩, by omega, .sub (by exact subQ) (by rw [hrow]; exact OSub.refl _)⟩
      · rw [he, Option.map_map]
        congr 1
        funext r
        simp
      · simp only at hm'
        rw [hnx2] at hm'
        obtain ⟨m, a, b⟩ := List.mem_flatMap.1 hm'
        exact hnx m (hpr m a) m' b
  · obtain rfl : i = l.length := by omega
    rw [List.drop_length] at he
    have he2 : R = some (now, cs) := by
      rw [he]
      show some (now, cs ++ []) = _
      rw [List.append_nil]
    rw [he2]
    have ss := gsorted_rec pn.length pe.length (by omega) (by omega) now.length now (Nat.le_refl _) (by omega) (fun m hm => by have := hpl (hpr m hm); exact ⟨this.1, this.2⟩)
    refine a_frz 0 18 rfl rfl ?_
    refine a_frz 0 19 rfl rfl ?_
    repeat (first | refine gA pk ?_ | (show AL _ _ _ _ _ _ _; first | refine jP ss ?_))
    refine fin (x := .tup [mosA (srtL now), ints cs, AI 0]) (.inr rfl) rfl (Sub.refl _) ⟨rfl, rfl⟩ (OSub.none _)
end Go.Proofs.YtimfponihbfimaaGreat
end
section
namespace Go.Proofs.YtimfponihbfimaaGreat
open Go.Sj Go.Sj.Typ Go.Sj.Sta Go.Sj.Inc Go.Sj.Pln
set_option maxRecDepth 8000
theorem runR_eq {t : Tys} {p g : Gr} {l : List Opn} (inj : Bool) (hv : validS t p g = 0) (hl : planE p (kn0 p) l = 0) : runR t p g l inj = resR (runM (extM (seaA t p g inj)) [noMo p] l) := by
  unfold runR
  rw [if_neg (Decidable.not_not.2 hv), if_neg (Decidable.not_not.2 hl)]
theorem run_agree {t : Tys} {p g : Gr} {l : List Opn} (inj : Bool) (hv : validS t p g = 0) (hl : planE p (kn0 p) l = 0) :
    (runR t p g l inj).2.2 = 3 ∨ ((runR t p g l inj).2.2 = 0 ∧ allR t p g inj = ((runR t p g l inj).1, 0) ∧ (runR t p g l inj).2.1.length = l.length ∧ (l ≠ [] → (runR t p g l inj).2.1.getLast? = some ((runR t p g l inj).1.length : Int)) ∧ (runR t p g l inj).1.length ≤ 5000 ∧ ∀ m ∈ (runR t p g l inj).1, m.1.length = p.nodes.length ∧ m.2.length = p.edges.length) := by
  rw [runR_eq inj hv hl]
  obtain ⟨h1, h2, h3, h4, h5⟩ := zvz hv
  cases hr : runM (extM (seaA t p g inj)) [noMo p] l with
  | none => exact .inl rfl
  | some r =>
    obtain ⟨a, b, c, d, e, f⟩ := run_mat (S := seaA t p g inj) rfl rfl h2 h3 hl hr
    have hp := srtL_perm r.1
    have hm : srtL r.1 = matL (seaA t p g inj) := srtM_ext (le_srt (srtL_le r.1) (hp.nodup_iff.2 a)) (mat_srt _) fun x => hp.mem_iff.trans (b x)
    have hlen : (srtL r.1).length = r.1.length := hp.length_eq
    refine .inr ⟨rfl, ?_, e, fun hne => ?_, ?_, fun m hm => ?_⟩
    · show allR t p g inj = (srtL r.1, 0)
      unfold allR capR
      rw [if_neg (Decidable.not_not.2 hv), if_neg (by omega), hm]
    · show r.2.getLast? = some ((srtL r.1).length : Int)
      rw [hlen]
      exact f hne
    · show (srtL r.1).length ≤ 5000
      omega
    · have hm : m ∈ srtL r.1 := hm
      have := mat_mem.1 ((b m).1 (hp.mem_iff.1 hm))
      exact ⟨this.nl, this.el⟩
end Go.Proofs.YtimfponihbfimaaGreat
end
section
namespace Go.Proofs.YtimfponihbfimaaGreat
open Go.Sj Go.Sj.Typ Go.Sj.Sta Go.Sj.Inc Go.Sj.Pln
set_option maxRecDepth 8000
set_option maxHeartbeats 16000000
theorem runR_sz (t : Tys) (p g : Gr) (l : List Opn) (inj : Bool) : (runR t p g l inj).1.length ≤ 5000 ∧ (∀ m ∈ (runR t p g l inj).1, MoB m) ∧ (runR t p g l inj).2.1.length ≤ l.length := by
  by_cases hv : validS t p g = 0
  · by_cases hl : planE p (kn0 p) l = 0
    · have ha := run_agree inj hv hl
      have hz := zvz hv
      have h1 := hz.2.1.nl
      have h2 := hz.2.1.el
      rw [runR_eq inj hv hl] at ha ⊢
      cases hr : runM (extM (seaA t p g inj)) [noMo p] l with
      | none => exact ⟨Nat.zero_le _, fun m hm => (by cases hm), Nat.zero_le _⟩
      | some r =>
        rw [hr] at ha
        rcases ha with h | ⟨_, _, a, _, b, c⟩
        · cases h
        · refine ⟨b, fun m hm => ?_, by omega⟩
          have := c m hm
          exact ⟨by omega, by omega⟩
    · unfold runR
      rw [if_neg (Decidable.not_not.2 hv), if_pos hl]
      exact ⟨Nat.zero_le _, fun m hm => (by cases hm), Nat.zero_le _⟩
  · unfold runR
    rw [if_pos hv]
    exact ⟨Nat.zero_le _, fun m hm => (by cases hm), Nat.zero_le _⟩
theorem PlanRun_spec (t : Tys) (ht : OkT t) (p : Gr) (hp : OkG p) (g : Gr) (hg : OkG g) (l : List Opn) (hl : l.length ≤ 140737488355328) (inj : Bool) : Pure Tryz.prog 3 [cseA t p g, opsA l, AB inj] (AB true) := by
  have sa := awakeP_spec
  have s1 := light17_spec t ht p g hp hg
  have ll : (l.map cOp).length = l.length := by simp
  have s3 := fun (h : l.length ≤ 150) => (CloneOp_spec l (by omega)).pure
  have s4 := fun (h : Small t) (h2 : l.length ≤ 150) => prun_spec t h p g hp hg l (by omega) inj
  have s5 := fun (h : Small t) (h2 : l.length ≤ 150) => gprun_spec t h p g hp hg l (by omega) inj
  obtain ⟨z1, z2, z3⟩ := runR_sz t p g l inj
  generalize runR t p g l inj = R at *
  obtain ⟨M, C, e⟩ := R
  simp only at *
  have s6 := gSameAll_spec M M z2 z2 (by omega) (by omega)
  rw [decide_eq_true rfl] at s6
  have s7 := fun (h2 : l.length ≤ 150) => Equal_spec C C (by omega) (by omega)
  rw [decide_eq_true rfl] at s7
  clear z1 z2
  generalize Small t = Z at *
  obtain ⟨tn, te⟩ := t
  obtain ⟨pn, pe⟩ := p
  obtain ⟨gn, ge⟩ := g
  change Go.Sj.ACalls _ _ [.agg [nodsA tn, edgsA te], .agg [ints pn, edsA pe], .agg [ints gn, edsA ge]] _ _ at s1
  change Pure _ _ [.agg [nodsA tn, edgsA te, ints pn, edsA pe, ints gn, edsA ge], opsA l, AB inj] _
  refine zen Tryz.func3 (by kernel_rfl) rfl Tryz.ntmps3 rfl (by simp) ?_; refine a_seq ?_; refine a_reg ?_; (repeat (first | refine gZ pk ?_ | (show AL _ _ _ _ _ _ _; first | refine jB (fun u => ?_)))); refine zfb 0 3 rfl rfl ?_
  repeat (first | refine gN pk ?_ | (show AL _ _ _ _ _ _ _; first | refine jP sa ?_ | refine zsc (Lc := []) (Lr := []) rfl rfl rfl rfl rfl s1 (SubL.of_eq rfl) (List.Perm.refl _) ?_; rintro _ _ ⟨⟨b1, rfl, hb1⟩, rfl⟩))
  cases b1 with
  | false =>
    repeat (first | refine gA pk ?_ | (show AL _ _ _ _ _ _ _; first | refine jP sa ?_))
    refine finQ ?_
    exact ⟨rfl, rfl⟩
  | true =>
    have hz := hb1 rfl
    by_cases hle : l.length ≤ 150
    rotate_left
    · repeat (first | refine gA pk ?_ | (show AL _ _ _ _ _ _ _; first | refine jP sa ?_))
      refine finQ ?_
      exact ⟨rfl, rfl⟩
    replace s3 := s3 hle
    replace s4 := s4 hz hle
    replace s5 := s5 hz hle
    replace s7 := s7 hle
    change Pure _ _ [.agg [nodsA tn, edgsA te], .agg [ints pn, edsA pe], .agg [ints gn, edsA ge], opsA l, AB inj] _ at s4
    change Pure _ _ [.agg [nodsA tn, edgsA te], .agg [ints pn, edsA pe], .agg [ints gn, edsA ge], opsA l, AB inj] _ at s5
    repeat (first | refine gN pk ?_)
    refine zrg ((List.range 17).map fun i => if inL [7, 9] i = true then .eff else if inL [1, 3, 5] i = true then .read else .pure) [7] [0, 1, 2, 3, 4, 5, 6, 8] (.nd 7 [9, 10, 11, 12, 13, 14, 15, 16] .stop .stop) mixed rfl rfl (by decide +kernel) ?_
    repeat' (first | (with_reducible show AG _ _ _ _ _ _ _ _ _ _; first | exact zgn | refine zgs ?_ | refine znd ?_ ?_) | (show AMid _ _ _ _; first | refine zmf ?_ | refine zmg (by first | exact OSub.refl _ | exact .drop (OSub.refl _) | exact .drop (.drop (OSub.refl _))) ?_) | refine gY pk ?_ | (show AL _ _ _ _ _ _ _; first | refine jP s3 ?_ | refine jP s4 ?_) | fail)
    repeat (first | refine gA pk ?_ | (show AL _ _ _ _ _ _ _; first | refine jP s5 ?_ | refine jP s6 ?_ | refine jP s7 ?_))
    refine finQ ?_
    exact ⟨rfl, rfl⟩
end Go.Proofs.YtimfponihbfimaaGreat
end
