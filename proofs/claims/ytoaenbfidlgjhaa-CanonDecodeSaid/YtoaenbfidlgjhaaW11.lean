/-
  Edges between two nodes, what a code says of them: the reference's walks. Conditions: valid graphs.
-/
import Derived.Test.YtoaenbfidlgjhaaSjQ8
import Derived.Test.YtoaenbfidlgjhaaW9
namespace Go.Proofs.Ytoaenbfidlgjhaa
open Go.Sj Go.Sj.Typ Go.Sj.Sta Go.Sj.Can
set_option linter.unusedVariables false
set_option linter.unusedSimpArgs false
set_option maxHeartbeats 16000000

theorem between_spec (g : Gr) (hg : GV g) (a b : Int) : Pure Try.prog 73 [grA g, AI a, AI b] (ints (bt g a b)) := by
  have le : (g.edges.map cEd).length = g.edges.length := by simp
  have hel := hg.el
  have hsl := fun k => rawK_len g a b k
  have hbt : bt g a b = sortT (tyI g) (rawK g a b g.edges.length) := rfl
  have hmem := fun (k : Nat) (i : Int) (h : i ∈ sortT (tyI g) (rawK g a b k)) => rawK_mem.1 ((sortT_perm _).mem_iff.1 h)
  have het := fun (k : Nat) (h : k < g.edges.length) => hg.edges _ (List.getElem_mem h)
  rw [hbt]
  refine a_enter Try.func73 (by kernel_rfl) rfl Try.ntmps73 rfl (by simp) ?_; refine a_seq ?_; refine a_reg ?_; (repeat (first | refine gZ pk ?_ | (show AL _ _ _ _ _ _ _; first | refine jB (fun u => ?_)))); refine a_frzBox 0 3 rfl rfl ?_
  repeat (first | refine gN pk ?_)
  refine a_loopX (fun k : Nat => [(1, AI a), (2, AI b), (3, grP g), (7, ints (sortT (tyI g) (rawK g a b k))), (8, AI k)]) (fun _ => []) (fun k => k ≤ g.edges.length) (fun k => g.edges.length - k) 0 (Nat.zero_le _) ?_ (OSub.none _) ?_
  · exact subQ
  · intro k hk
    rcases Nat.lt_or_ge k g.edges.length with h | h
    · have hx := List.getElem?_eq_getElem h
      have hty := tyI_get hx
      have hrs := rawK_succ (a := a) (b := b) hx
      have he := het k h
      generalize g.edges[k] = e at hx hty hrs he
      obtain ⟨e1, e2, e3⟩ := e
      simp only at hty hrs he
      have xk : (g.edges.map cEd)[(k : Int).toNat]? = some [AI e1, AI e2, AI e3] := map_get (f := cEd) hx
      by_cases h1 : e2 = a
      · by_cases h2 : e3 = b
        · rw [if_pos ⟨h1, h2⟩] at hrs
          have hss : sortT (tyI g) (rawK g a b (k + 1)) = insT (tyI g) (sortT (tyI g) (rawK g a b k)) k := by rw [hrs, sortT_snoc]
          have hl := hsl k
          have hll : (sortT (tyI g) (rawK g a b k)).length = (rawK g a b k).length := sortT_len _
          have hmk := hmem k
          generalize sortT (tyI g) (rawK g a b k) = S at *
          have lS : (rowI S).length = S.length := by simp
          subst h1; subst h2
          repeat (first | refine gN pk ?_ | (show AL _ _ _ _ _ _ _; first | refine jX tok xk ?_))
          rw [lS]
          refine a_loopX (fun j : Nat => [(1, AI e2), (2, AI e3), (3, grP g), (7, ints S), (8, AI k), (9, AI j)]) (fun _ => []) (fun j => j ≤ S.length ∧ posF (tyI g) S k j = posF (tyI g) S k S.length) (fun j => j) S.length ⟨Nat.le_refl _, rfl⟩ ?_ (OSub.none _) ?_
          · exact subQ
          · rintro j ⟨hj, hp⟩
            have epart1 : ∀ j, ((rowI S).take j).drop 0 = rowI (S.take j) := part_take S
            have epart2 : ∀ j, ((rowI S).take (rowI S).length).drop j = rowI (S.drop j) := fun j => by rw [List.take_length, ← List.map_drop]
            have fin : posF (tyI g) S k j = j → insT (tyI g) S k = S.take j ++ (k : Int) :: S.drop j := fun hq => by
              unfold insT
              rw [← hp, hq]
            have efin' : ∀ j, (([] ++ ((rowI S).take j).drop 0) ++ [[AI k]]) ++ ((rowI S).take (rowI S).length).drop j = rowI (S.take j ++ (k : Int) :: S.drop j) := fun j => by
              rw [part_take, List.take_length, ← List.map_drop]
              simp [cI]
            have lt1 : (S.take j).length ≤ 1000 := by rw [List.length_take]; omega
            have lt2 : (S.drop j).length ≤ 1000 := by rw [List.length_drop]; omega
            cases j with
            | zero =>
              have hf := fin rfl
              have efin := efin' 0
              repeat (first | refine gN pk ?_)
              refine a_regG ((List.range 21).map fun i => .pure) [] [0, 1, 2, 3, 4, 5, 6, 7, 8, 9, 10, 11, 12, 13, 14, 15, 16, 17, 18, 19, 20] .stop mixed rfl rfl (by decide +kernel) ?_
              repeat' (first | (with_reducible show AG _ _ _ _ _ _ _ _ _ _; first | exact ag_none | refine ag_stop ?_ | refine ag_nd ?_ ?_) | (show AMid _ _ _ _; first | refine amid_f ?_ | refine amid_g (by first | exact OSub.refl _ | exact .drop (OSub.refl _) | exact .drop (.drop (OSub.refl _))) ?_) | refine gY pk ?_ | (show AL _ _ _ _ _ _ _; first | refine jX tok xk ?_) | fail)
              repeat (first | refine gN pk ?_)
              refine a_regG ((List.range 13).map fun i => if inL [0, 4, 6, 7, 11] i = true then .eff else .pure) [] [1, 2, 3, 5, 8, 9, 10] (.nd 0 [] (.nd 4 [6, 7, 11, 12] .stop (.nd 6 [4, 7, 11, 12] .stop .stop)) (.nd 6 [0, 4, 7, 11, 12] .stop .stop)) mixed rfl rfl (by decide +kernel) ?_
              repeat' (first | (with_reducible show AG _ _ _ _ _ _ _ _ _ _; first | exact ag_none | refine ag_stop ?_ | refine ag_nd ?_ ?_) | (show AMid _ _ _ _; first | refine amid_f ?_ | refine amid_g (by first | exact OSub.refl _ | exact .drop (OSub.refl _) | exact .drop (.drop (OSub.refl _))) ?_) | refine gY pk ?_ | (show AL _ _ _ _ _ _ _; first | refine s_slice tok (a := 0) (b := 0) rfl rfl rfl rfl rfl rfl rfl rfl (by first | exact rfl | exact ⟨_, rfl⟩) (by first | exact rfl | exact ⟨_, rfl⟩) (by omega) (by omega) ?_ | refine s_slice tok (a := 0) (b := (rowI S).length) rfl rfl rfl rfl rfl rfl rfl rfl (by first | exact rfl | exact ⟨_, rfl⟩) (by first | exact rfl | exact ⟨_, rfl⟩) (by omega) (by omega) ?_ | refine s_build tok (parts := []) rfl rfl rfl rfl rfl rfl rfl rfl (by decide) (by decide) (fun v => ?_) | refine s_build1 tok rfl rfl rfl rfl rfl rfl rfl rfl (fun lv => ?_) | refine s_appendImF tok 0 rfl rfl rfl rfl rfl rfl (by decide) rfl rfl rfl rfl (by rw [epart2]; exact rowI_cell _) (by simp only [List.length_append, List.length_map, List.length_cons, List.length_nil, List.length_take, List.length_drop]; omega) (by simp only [List.length_append, List.length_map, List.length_cons, List.length_nil, List.length_take, List.length_drop]; omega) ?_ | refine s_appendIm tok 0 rfl rfl rfl rfl rfl rfl (by decide) rfl rfl rfl rfl (by rw [epart1]; exact rowI_cell _) (by simp only [List.length_append, List.length_map, List.length_cons, List.length_nil, List.length_take, List.length_drop]; omega) (by simp only [List.length_append, List.length_map, List.length_cons, List.length_nil, List.length_take, List.length_drop]; omega) (fun w => ?_) | refine s_appendIm tok 1 rfl rfl rfl rfl rfl rfl (by decide) rfl rfl rfl rfl (by rw [epart1]; exact rowI_cell _) (by simp only [List.length_append, List.length_map, List.length_cons, List.length_nil, List.length_take, List.length_drop]; omega) (by simp only [List.length_append, List.length_map, List.length_cons, List.length_nil, List.length_take, List.length_drop]; omega) (fun w => ?_) | refine s_append1 tok 0 rfl rfl rfl rfl rfl rfl (by decide) rfl rfl rfl rfl (by simp only [List.length_append, List.length_map, List.length_cons, List.length_nil, List.length_take, List.length_drop]; omega) (by simp only [List.length_append, List.length_map, List.length_cons, List.length_nil, List.length_take, List.length_drop]; omega) (fun w => ?_) | refine s_appendOwn tok 0 1 rfl rfl rfl rfl rfl rfl (by decide) rfl rfl rfl rfl rfl rfl (by simp only [List.length_append, List.length_map, List.length_cons, List.length_nil, List.length_take, List.length_drop]; omega) (by simp only [List.length_append, List.length_map, List.length_cons, List.length_nil, List.length_take, List.length_drop]; omega) (fun w => ?_)) | fail)
              all_goals
                rw [efin]
                repeat (first | refine gA pk ?_)
                refine ⟨k + 1, by omega, by omega, ?_, OSub.none _⟩
                rw [hss, hf]
                exact subQ
            | succ j =>
              have hy := List.getElem?_eq_getElem (l := S) (i := j) (by omega)
              obtain ⟨i, hi, hil, -⟩ := hmk _ (List.getElem_mem (l := S) (n := j) (by omega))
              rw [hi] at hy
              have hye := List.getElem?_eq_getElem (l := g.edges) (i := i) (by omega)
              have htyi := tyI_get hye
              have hei := het i (by omega)
              generalize g.edges[i]'(by omega) = f at hye htyi hei
              obtain ⟨f1, f2, f3⟩ := f
              simp only at htyi hei
              have yk : (rowI S)[(((j + 1 : Nat) : Int) - 1).toNat]? = some [AI i] := by
                rw [show (((j + 1 : Nat) : Int) - 1).toNat = j by omega]
                exact map_get (f := cI) hy
              have ek : (g.edges.map cEd)[(i : Int).toNat]? = some [AI f1, AI f2, AI f3] := map_get (f := cEd) hye
              have hpf : posF (tyI g) S k (j + 1) = if tyI g k < tyI g (S.getD j 0) then posF (tyI g) S k j else j + 1 := rfl
              rw [show S.getD j 0 = (i : Int) by rw [List.getD_eq_getElem?_getD, hy]; rfl, hty, htyi] at hpf
              by_cases hlt : e1 < f1
              · rw [if_pos hlt] at hpf
                repeat (first | refine gN pk ?_)
                refine a_regG ((List.range 21).map fun i => .pure) [] [0, 1, 2, 3, 4, 5, 6, 7, 8, 9, 10, 11, 12, 13, 14, 15, 16, 17, 18, 19, 20] .stop mixed rfl rfl (by decide +kernel) ?_
                repeat' (first | (with_reducible show AG _ _ _ _ _ _ _ _ _ _; first | exact ag_none | refine ag_stop ?_ | refine ag_nd ?_ ?_) | (show AMid _ _ _ _; first | refine amid_f ?_ | refine amid_g (by first | exact OSub.refl _ | exact .drop (OSub.refl _) | exact .drop (.drop (OSub.refl _))) ?_) | refine gY pk ?_ | (show AL _ _ _ _ _ _ _; first | refine jX tok yk ?_ | refine jX tok ek ?_ | refine jX tok xk ?_) | fail)
                repeat (first | refine gA pk ?_)
                refine ⟨j, ⟨by omega, by rw [← hpf]; exact hp⟩, by omega, ?_, OSub.none _⟩
                rw [show (((j + 1 : Nat) : Int) - 1) = j by omega]
                exact subQ
              · rw [if_neg hlt] at hpf
                have hf := fin hpf
                have efin := efin' (j + 1)
                repeat (first | refine gN pk ?_)
                refine a_regG ((List.range 21).map fun i => .pure) [] [0, 1, 2, 3, 4, 5, 6, 7, 8, 9, 10, 11, 12, 13, 14, 15, 16, 17, 18, 19, 20] .stop mixed rfl rfl (by decide +kernel) ?_
                repeat' (first | (with_reducible show AG _ _ _ _ _ _ _ _ _ _; first | exact ag_none | refine ag_stop ?_ | refine ag_nd ?_ ?_) | (show AMid _ _ _ _; first | refine amid_f ?_ | refine amid_g (by first | exact OSub.refl _ | exact .drop (OSub.refl _) | exact .drop (.drop (OSub.refl _))) ?_) | refine gY pk ?_ | (show AL _ _ _ _ _ _ _; first | refine jX tok yk ?_ | refine jX tok ek ?_ | refine jX tok xk ?_) | fail)
                repeat (first | refine gN pk ?_)
                refine a_regG ((List.range 13).map fun i => if inL [0, 4, 6, 7, 11] i = true then .eff else .pure) [] [1, 2, 3, 5, 8, 9, 10] (.nd 0 [] (.nd 4 [6, 7, 11, 12] .stop (.nd 6 [4, 7, 11, 12] .stop .stop)) (.nd 6 [0, 4, 7, 11, 12] .stop .stop)) mixed rfl rfl (by decide +kernel) ?_
                repeat' (first | (with_reducible show AG _ _ _ _ _ _ _ _ _ _; first | exact ag_none | refine ag_stop ?_ | refine ag_nd ?_ ?_) | (show AMid _ _ _ _; first | refine amid_f ?_ | refine amid_g (by first | exact OSub.refl _ | exact .drop (OSub.refl _) | exact .drop (.drop (OSub.refl _))) ?_) | refine gY pk ?_ | (show AL _ _ _ _ _ _ _; first | refine s_slice tok (a := 0) (b := (j + 1)) rfl rfl rfl rfl rfl rfl rfl rfl (by first | exact rfl | exact ⟨_, rfl⟩) (by first | exact rfl | exact ⟨_, rfl⟩) (by omega) (by omega) ?_ | refine s_slice tok (a := (j + 1)) (b := (rowI S).length) rfl rfl rfl rfl rfl rfl rfl rfl (by first | exact rfl | exact ⟨_, rfl⟩) (by first | exact rfl | exact ⟨_, rfl⟩) (by omega) (by omega) ?_ | refine s_build tok (parts := []) rfl rfl rfl rfl rfl rfl rfl rfl (by decide) (by decide) (fun v => ?_) | refine s_build1 tok rfl rfl rfl rfl rfl rfl rfl rfl (fun lv => ?_) | refine s_appendImF tok 0 rfl rfl rfl rfl rfl rfl (by decide) rfl rfl rfl rfl (by rw [epart2]; exact rowI_cell _) (by simp only [List.length_append, List.length_map, List.length_cons, List.length_nil, List.length_take, List.length_drop]; omega) (by simp only [List.length_append, List.length_map, List.length_cons, List.length_nil, List.length_take, List.length_drop]; omega) ?_ | refine s_appendIm tok 0 rfl rfl rfl rfl rfl rfl (by decide) rfl rfl rfl rfl (by rw [epart1]; exact rowI_cell _) (by simp only [List.length_append, List.length_map, List.length_cons, List.length_nil, List.length_take, List.length_drop]; omega) (by simp only [List.length_append, List.length_map, List.length_cons, List.length_nil, List.length_take, List.length_drop]; omega) (fun w => ?_) | refine s_appendIm tok 1 rfl rfl rfl rfl rfl rfl (by decide) rfl rfl rfl rfl (by rw [epart1]; exact rowI_cell _) (by simp only [List.length_append, List.length_map, List.length_cons, List.length_nil, List.length_take, List.length_drop]; omega) (by simp only [List.length_append, List.length_map, List.length_cons, List.length_nil, List.length_take, List.length_drop]; omega) (fun w => ?_) | refine s_append1 tok 0 rfl rfl rfl rfl rfl rfl (by decide) rfl rfl rfl rfl (by simp only [List.length_append, List.length_map, List.length_cons, List.length_nil, List.length_take, List.length_drop]; omega) (by simp only [List.length_append, List.length_map, List.length_cons, List.length_nil, List.length_take, List.length_drop]; omega) (fun w => ?_) | refine s_appendOwn tok 0 1 rfl rfl rfl rfl rfl rfl (by decide) rfl rfl rfl rfl rfl rfl (by simp only [List.length_append, List.length_map, List.length_cons, List.length_nil, List.length_take, List.length_drop]; omega) (by simp only [List.length_append, List.length_map, List.length_cons, List.length_nil, List.length_take, List.length_drop]; omega) (fun w => ?_)) | fail)
                all_goals
                  rw [efin]
                  repeat (first | refine gA pk ?_)
                  refine ⟨k + 1, by omega, by omega, ?_, OSub.none _⟩
                  rw [hss, hf]
                  exact subQ
        · rw [if_neg (fun hh => h2 hh.2), List.append_nil] at hrs
          repeat (first | refine gA pk ?_ | (show AL _ _ _ _ _ _ _; first | refine jX tok xk ?_))
          refine ⟨k + 1, by omega, by omega, ?_, OSub.none _⟩
          rw [hrs]
          exact subQ
      · rw [if_neg (fun hh => h1 hh.1), List.append_nil] at hrs
        repeat (first | refine gA pk ?_ | (show AL _ _ _ _ _ _ _; first | refine jX tok xk ?_))
        refine ⟨k + 1, by omega, by omega, ?_, OSub.none _⟩
        rw [hrs]
        exact subQ
    · obtain rfl : k = g.edges.length := by omega
      repeat (first | refine gA pk ?_)
      refine finQ ?_
      exact ⟨rfl, rfl⟩
end Go.Proofs.Ytoaenbfidlgjhaa
