/-
  Graphs that drafts describe: the walk.
-/
import Derived.Test.YtoaenbfidlgjhaaSjQ8
import Derived.Test.YtoaenbfidlgjhaaW15
import Derived.Test.YtoaenbfidlgjhaaSjL30
import Derived.Test.YtoaenbfidlgjhaaSjM34
namespace Go.Proofs.Ytoaenbfidlgjhaa
open Go.Sj Go.Sj.Typ Go.Sj.Sta Go.Sj.Can
set_option linter.unusedVariables false
set_option linter.unusedSimpArgs false
set_option maxHeartbeats 16000000

theorem made5M_eq (n : Nat) (es : List (Int × Int × Int)) : ∃ M, (M ≤ 10 ∧ M ≤ es.length) ∧ (0 < M → 0 < n) ∧ made5M n es = es.take M ∧ (es.length ≤ M ∨ 10 ≤ M ∨ n = 0) := by
  unfold made5M
  by_cases h : n = 0
  · exact ⟨0, by omega, by omega, by rw [if_pos h]; rfl, by omega⟩
  · exact ⟨min 10 es.length, by omega, by omega, by rw [if_neg h]; exact (List.take_eq_take_iff).2 (by omega), by omega⟩
theorem gMade_spec (d : Dr5) (hd : OkD5 d) : Pure Try.prog 27 [dr5A d] (grA (made5 d)) := by
  obtain ⟨l, es⟩ := d
  obtain ⟨hl, he, hll, hel⟩ := hd
  simp only at hl he hll hel
  have l1 : (l.map c8).length = l.length := by simp
  have l2 : (es.map c83).length = es.length := by simp
  obtain ⟨ns, hns⟩ : ∃ ns, made5N l = ns := ⟨_, rfl⟩
  have hns' : ns = (l.take (min 8 l.length)).map fun x => x % 3 := by
    rw [← hns, made5N]
    congr 1
    exact (List.take_eq_take_iff).2 (by omega)
  have hnl : ns.length ≤ 8 := by rw [hns', List.length_map, List.length_take]; omega
  have lns : (rowI ns).length = ns.length := by simp
  obtain ⟨M, hM1, hM2, hM3, hM4⟩ := made5M_eq ns.length es
  have hgoal : made5 ⟨l, es⟩ = ⟨ns, (es.take M).map (in5 ns.length)⟩ := by rw [made5]; simp only; rw [hns, hM3]
  rw [hgoal]
  refine a_enterC Try.func27 (by kernel_rfl) rfl Try.ntmps27 rfl (tok _ _ rfl) (by simp) ?_
  refine a_seq ?_
  refine a_reg ?_
  repeat (first | refine gZ pk ?_ | (show AL _ _ _ _ _ _ _; first | refine jB (fun u => ?_) | refine jL tok (fun u2 => ?_)))
  refine a_frzBox 1 1 rfl rfl ?_
  repeat (first | refine gN pk ?_ | (show AL _ _ _ _ _ _ _; first | refine jL tok (fun u3 => ?_)))
  refine a_loop2 (fun (i : Nat) (v : Value) => [(1, .ip [bytesA l, .im 3 (es.map c83)]), (2, .pt u2 0 0 0), (3, .pt u3 0 0 0), (4, AI i)]) (fun i v => [(v, .row 3 1 (rowI ((l.take i).map fun x => x % 3))), (u3, .box [.lit v, .lit (.slice none 0 0)]), (u2, .box [.lit (.slice none 0 0), .lit (.slice none 0 0)])]) (fun i v => i ≤ min 8 l.length) (fun i v => min 8 l.length - i) 0 (.slice none 0 0) (Nat.zero_le _) ?_ (.free (OSub.refl _)) ?_
  · exact subQ
  · intro i v hi
    by_cases hlt : i < min 8 l.length
    · have hx := List.getElem?_eq_getElem (l := l) (i := i) (by omega)
      have hr := hl _ (List.getElem_mem (l := l) (n := i) (by omega))
      have hsn : rowI ((l.take (i + 1)).map fun x => x % 3) = rowI ((l.take i).map fun x => x % 3) ++ [[AI (l[i] % 3)]] := by
        rw [List.take_succ_eq_append_getElem (by omega), List.map_append]
        show ((_ ++ [_]).map cI) = _
        rw [List.map_append]; rfl
      generalize l[i] = x at *
      have xk : (l.map c8)[(i : Int).toNat]? = some [A8 x] := map_get (f := c8) hx
      have lr : (rowI ((l.take i).map fun x => x % 3)).length = i := by simp only [List.length_map, List.length_take]; omega
      repeat (first | refine gN pk ?_)
      refine a_regG ((List.range 13).map fun i => if inL [9, 10, 12] i = true then .eff else if inL [1, 3, 5, 6] i = true then .read else .pure) [9] [0, 1, 2, 3, 4, 5, 6, 7, 8] (.nd 9 [10, 11, 12] .stop .stop) mixed rfl rfl (by decide +kernel) ?_
      repeat' (first | (with_reducible show AG _ _ _ _ _ _ _ _ _ _; first | exact ag_none | refine ag_stop ?_ | refine ag_nd ?_ ?_) | (show AMid _ _ _ _; first | refine amid_f ?_ | refine amid_g (by first | exact OSub.refl _ | exact .drop (OSub.refl _) | exact .drop (.drop (OSub.refl _))) ?_) | refine gY pk ?_ | (show AL _ _ _ _ _ _ _; first | refine jO tok 1 ?_ | refine jX tok xk ?_ | refine s_conv tok rfl rfl rfl rfl rfl rfl rfl (IntWalk.i64_in _ (by omega)) ?_ | refine s_rem rfl rfl rfl rfl rfl rfl (by omega) (by omega) ?_ | refine s_build1 tok rfl rfl rfl rfl rfl rfl rfl rfl (fun w => ?_) | refine s_append1K tok 0 rfl rfl rfl rfl rfl rfl (by decide) rfl rfl rfl rfl (by omega) (by omega) (fun v' hv => ?_) | refine s_store (a := .lit v') tok 1 rfl rfl rfl rfl rfl rfl hv rfl (by decide) rfl rfl rfl (Nat.le_of_ble_eq_true rfl) ?_) | fail)
      repeat (first | refine gA pk ?_)
      refine ⟨i + 1, v', by omega, by omega, by exact subQ, ?_⟩
      rw [hsn]
      exact OSub.refl _
    · obtain rfl : i = min 8 l.length := by omega
      rw [← hns']
      refine AWp.mono (Q := fun e st L => e = .exit 0 ∧ GoTo 81 st L (lk [(1, .ip [bytesA l, .im 3 (es.map c83)]), (2, .pt u2 0 0 0), (3, .pt u3 0 0 0)]) [(v, .row 3 1 (rowI ns)), (u3, .box [.lit v, .lit (.slice none 0 0)]), (u2, .box [.lit (.slice none 0 0), .lit (.slice none 0 0)])]) ?_ (fun e st L h => ?_)
      · by_cases hA : min 8 l.length < l.length
        all_goals
          repeat (first | refine gA pk ?_)
          exact ⟨rfl, GoTo.sub (by exact subQ) (OSub.refl _)⟩
      · obtain ⟨rfl, h⟩ := h
        refine a_goto h ?_
        repeat (first | refine gN pk ?_ | (show AL _ _ _ _ _ _ _; first | refine jO tok 1 ?_ | refine s_ownLen tok 0 rfl rfl rfl rfl (by decide) rfl rfl rfl ?_))
        refine a_loop2 (fun (i : Nat) (w : Value) => [(1, .ip [bytesA l, .im 3 (es.map c83)]), (2, .pt u2 0 0 0), (3, .pt u3 0 0 0), (5, AI ns.length), (6, AI i)]) (fun i w => [(w, .row 60 3 (((es.take i).map (in5 ns.length)).map cEd)), (v, .row 3 1 (rowI ns)), (u3, .box [.lit v, .lit w]), (u2, .box [.lit (.slice none 0 0), .lit (.slice none 0 0)])]) (fun i w => i ≤ M) (fun i w => M - i) 0 (.slice none 0 0) (Nat.zero_le _) ?_ (.free (OSub.refl _)) ?_
        · rw [← lns]; exact subQ
        · intro i w hi
          by_cases hlt : i < M
          · have hx := List.getElem?_eq_getElem (l := es) (i := i) (by omega)
            have hr := he _ (List.getElem_mem (l := es) (n := i) (by omega))
            have hp := hM2 (by omega)
            have lr : (((es.take i).map (in5 ns.length)).map cEd).length = i := by simp only [List.length_map, List.length_take]; omega
            have hsn : ((es.take (i + 1)).map (in5 ns.length)).map cEd = ((es.take i).map (in5 ns.length)).map cEd ++ [cEd (in5 ns.length es[i])] := by
              rw [List.take_succ_eq_append_getElem (by omega), List.map_append, List.map_append]; rfl
            generalize es[i] = c at *
            obtain ⟨x, y, z⟩ := c
            unfold In3 at hr
            simp only at hr
            have xk : (es.map c83)[(i : Int).toNat]? = some [A8 x, A8 y, A8 z] := map_get (f := c83) hx
            have hin : cEd (in5 ns.length (x, y, z)) = [AI (x % 2), AI (y % (ns.length : Int)), AI (z % (ns.length : Int))] := rfl
            rw [hin] at hsn
            repeat (first | refine gN pk ?_)
            refine a_regG ((List.range 33).map fun i => if inL [29, 30, 32] i = true then .eff else if inL [1, 3, 5, 6, 7, 11, 13, 14, 15, 20, 22, 23, 24] i = true then .read else .pure) [29] [0, 1, 2, 3, 4, 5, 6, 7, 8, 9, 10, 11, 12, 13, 14, 15, 16, 17, 18, 19, 20, 21, 22, 23, 24, 25, 26, 27, 28] (.nd 29 [30, 31, 32] .stop .stop) mixed rfl rfl (by decide +kernel) ?_
            repeat' (first | (with_reducible show AG _ _ _ _ _ _ _ _ _ _; first | exact ag_none | refine ag_stop ?_ | refine ag_nd ?_ ?_) | (show AMid _ _ _ _; first | refine amid_f ?_ | refine amid_g (by first | exact OSub.refl _ | exact .drop (OSub.refl _) | exact .drop (.drop (OSub.refl _))) ?_) | refine gY pk ?_ | (show AL _ _ _ _ _ _ _; first | refine jO tok 2 ?_ | refine jX tok xk ?_ | refine s_arrIp tok rfl rfl rfl rfl rfl rfl rfl rfl (by decide) (by decide) ?_ | refine s_conv tok rfl rfl rfl rfl rfl rfl rfl (IntWalk.i64_in _ (by omega)) ?_ | refine s_rem rfl rfl rfl rfl rfl rfl (by omega) (by omega) ?_ | refine s_build1A tok rfl rfl rfl rfl rfl rfl rfl rfl (by decide) (fun u => ?_) | refine s_append1K tok 0 rfl rfl rfl rfl rfl rfl (by decide) rfl rfl rfl rfl (by omega) (by omega) (fun v' hv => ?_) | refine s_store (a := .lit v') tok 2 rfl rfl rfl rfl rfl rfl hv rfl (by decide) rfl rfl rfl (Nat.le_of_ble_eq_true rfl) ?_) | fail)
            repeat (first | refine gA pk ?_)
            refine ⟨i + 1, v', by omega, by omega, by exact subQ, ?_⟩
            rw [hsn]
            exact OSub.refl _
          · obtain rfl : i = M := by omega
            refine AWp.mono (Q := fun e st L => e = .exit 2 ∧ GoTo 81 st L (lk [(2, .pt u2 0 0 0), (3, .pt u3 0 0 0)]) [(w, .row 60 3 (((es.take i).map (in5 ns.length)).map cEd)), (v, .row 3 1 (rowI ns)), (u3, .box [.lit v, .lit w]), (u2, .box [.lit (.slice none 0 0), .lit (.slice none 0 0)])]) ?_ (fun e st L h => ?_)
            · have hc : (¬ i < es.length) ∨ (i < es.length ∧ ¬ i < 10) ∨ (i < es.length ∧ i < 10 ∧ ns.length = 0) := by omega
              rcases hc with hc | hc | hc
              all_goals
                repeat (first | refine gA pk ?_)
                exact ⟨rfl, GoTo.sub (by exact subQ) (OSub.refl _)⟩
            · obtain ⟨rfl, h⟩ := h
              refine a_goto h ?_
              refine a_know 0 rfl (fun hw => ?_)
              refine a_know 1 rfl (fun hv => ?_)
              generalize ((es.take i).map (in5 ns.length)) = fs
              repeat (first | refine gV pk ?_ | (show AL _ _ _ _ _ _ _; first | refine jO tok 2 ?_ | refine s_store (a := .agg [.lit v, .lit w]) tok 3 rfl rfl rfl rfl rfl rfl (by simp [AV.storable, AV.cell, hv, hw]) rfl (by decide) rfl rfl rfl (Nat.le_of_ble_eq_true rfl) ?_))
              refine a_ownSub [(w, .row 60 3 (fs.map cEd)), (v, .row 3 1 (rowI ns)), (u2, .box [.lit v, .lit w])] (.keep (.keep (.drop (.keep .nil)))) ?_
              refine a_freeze 0 rfl _ (FZS.refl _) [(v, .row 3 1 (rowI ns)), (u2, .box [.lit v, .im 3 (fs.map cEd)])] ⟨rfl, rfl, rfl, rfl, by simp; exact fun a _ => rfl, FZL.refl _, rfl, ⟨FZ.refl _, FZ.here, trivial⟩, trivial⟩ ?_
              refine a_freeze 0 rfl _ (FZS.refl _) [(u2, .box [.im 1 (rowI ns), .im 3 (fs.map cEd)])] ⟨rfl, ⟨FZ.here, FZ.refl _, trivial⟩, trivial⟩ ?_
              refine a_frzBox 0 2 rfl rfl ?_
              refine a_ret ?_
              exact ⟨.inr rfl, _, .agg [.im 1 (rowI ns), .im 3 (fs.map cEd)], grA ⟨ns, fs⟩, [], rfl, rfl, Turn.of (Sub.refl _) (OSub.refl _), rfl, rfl⟩
end Go.Proofs.Ytoaenbfidlgjhaa
