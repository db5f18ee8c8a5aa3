/- Parts of a proof. -/
import Derived.Test.YtddohheabpiljaaGreatS46
set_option linter.unusedVariables false
set_option linter.unusedSimpArgs false
section
namespace Go.Proofs.YtddohheabpiljaaGreat
open Go.Sj Go.Sj.Typ Go.Sj.Sta Go.Sj.Inc
set_option maxRecDepth 8000
set_option maxHeartbeats 16000000
theorem era_take {A : Type} {l : List A} {i d : Nat} {x : A} (hx : l[i]? = some x) : (l.take (i + 1)).eraseIdx d = if i = d then (l.take i).eraseIdx d else (l.take i).eraseIdx d ++ [x] := by
  have hi := (List.getElem?_eq_some_iff.1 hx).1
  have hl : (l.take i).length = i := by rw [List.length_take]; omega
  rw [List.take_add_one, hx]
  show (l.take i ++ [x]).eraseIdx d = _
  by_cases h : d < i
  · rw [if_neg (by omega), List.eraseIdx_append_of_lt_length (by omega)]
  · have e2 : (l.take i).eraseIdx d = l.take i := List.eraseIdx_of_length_le (by omega)
    rw [List.eraseIdx_append_of_length_le (by omega), hl, e2]
    by_cases h2 : i = d
    · rw [if_pos h2, h2, Nat.sub_self]
      simp
    · obtain ⟨k, hk⟩ : ∃ k, d - i = k + 1 := ⟨d - i - 1, by omega⟩
      rw [if_neg h2, hk]
      simp
theorem gGraph1_spec (g : Gr) (h1 : g.nodes.length ≤ 1000) (h2 : g.edges.length ≤ 1000) (hb : ∀ x ∈ g.edges, (-1000000 ≤ x.fr ∧ x.fr ≤ 1000000) ∧ -1000000 ≤ x.to ∧ x.to ≤ 1000000) (i0 : Int) (ty fr to : Int) : Pure Tryz.prog 24 [grA g, .agg [AI 1, AI i0, AI ty, AI fr, AI to]] (grA ⟨g.nodes ++ [ty], g.edges⟩) := by
  have ln : (rowI g.nodes).length = g.nodes.length := by simp
  have le : (g.edges.map cEd).length = g.edges.length := by simp
  have hr1 : ∀ (l : List Int), ∀ x ∈ rowI l, x.length = 1 := fun l x hx => by
    obtain ⟨y, _, rfl⟩ := List.mem_map.1 hx
    rfl
  have hr3 : ∀ (l : List Ed), ∀ x ∈ l.map cEd, x.length = 3 := fun l x hx => by
    obtain ⟨y, _, rfl⟩ := List.mem_map.1 hx
    rfl
  refine a_enterC Tryz.func24 (by kernel_rfl) rfl Tryz.ntmps24 rfl (tok _ _ rfl) (by simp) ?_
  refine a_seq ?_
  refine a_reg ?_
  repeat (first | refine gZ pk ?_ | (show AL _ _ _ _ _ _ _; first | refine jB (fun ug => ?_) | refine jL tok (fun U4 => ?_)))
  refine a_frzBox 2 2 rfl rfl ?_
  refine a_frzBox 1 3 rfl rfl ?_
  repeat (first | refine gN pk ?_ | (show AL _ _ _ _ _ _ _; first | refine jL tok (fun ub => ?_) | refine jS tok 0 ?_))
  refine a_loopG2 (fun (i : Nat) (vn : Value) => [(2, .ip [ints g.nodes, edsA g.edges]), (3, .ip [AI 1, AI i0, AI ty, AI fr, AI to]), (4, .pt U4 0 0 0), (5, .pt ub 0 0 0), (6, AI i)]) (fun i vn => [(ub, OB.box [.lit vn, nilS]), (vn, OB.row 3 1 (rowI (g.nodes.take i))), (U4, OB.box [nilS, nilS])]) (fun i _ => i ≤ g.nodes.length) (fun i _ => g.nodes.length - i) 0 (.slice none 0 0) (Nat.zero_le _) (.sub (by exact subQ) (.keep (.free (OSub.refl _)))) ?_
  intro i vn hi
  rcases Nat.lt_or_ge i g.nodes.length with h | h
  · have hx := List.getElem?_eq_getElem h
    generalize g.nodes[i] = x at hx
    have xk : (rowI g.nodes)[(i : Int).toNat]? = some [AI x] := map_get (f := cI) hx
    have hset : rowI (g.nodes.take (i + 1)) = rowI (g.nodes.take i) ++ [[AI x]] := by rw [List.take_add_one, hx]; simp [cI]
    have lN : (rowI (g.nodes.take i)).length = i := by simp; omega
    repeat (first | refine gN pk ?_)
    refine a_regG ((List.range 11).map fun i => if inL [7, 8, 10] i = true then .eff else if inL [1, 3, 5, 6] i = true then .read else .pure) [7] [0, 1, 2, 3, 4, 5, 6] (.nd 7 [8, 9, 10] .stop .stop) mixed rfl rfl (by decide +kernel) ?_
    repeat' (first | (with_reducible show AG _ _ _ _ _ _ _ _ _ _; first | exact ag_none | refine ag_stop ?_ | refine ag_nd ?_ ?_) | (show AMid _ _ _ _; first | refine amid_f ?_ | refine amid_g (by first | exact OSub.refl _ | exact .drop (OSub.refl _) | exact .drop (.drop (OSub.refl _))) ?_) | refine gY pk ?_ | (show AL _ _ _ _ _ _ _; first | refine jO tok 0 ?_ | refine jX tok xk ?_ | refine s_build1 tok rfl rfl rfl rfl rfl rfl rfl rfl (fun lv => ?_) | refine s_append1K tok 1 rfl rfl rfl rfl rfl rfl (by decide) rfl rfl rfl rfl (by omega) (by omega) (fun w hw => ?_) | refine s_storeB tok 0 rfl rfl rfl rfl rfl rfl rfl (by assumption) rfl (Nat.le_of_ble_eq_true rfl) rfl ?_) | fail)
    repeat (first | refine gA pk ?_)
    exact ⟨i + 1, w, by omega, by omega, .sub (by exact subQ) (by rw [hset]; exact OSub.refl _)⟩
  · obtain rfl : i = g.nodes.length := by omega
    rw [List.take_length]
    repeat (first | refine gN pk ?_)
    refine a_loopG2 (fun (i : Nat) (ve : Value) => [(2, .ip [ints g.nodes, edsA g.edges]), (3, .ip [AI 1, AI i0, AI ty, AI fr, AI to]), (4, .pt U4 0 0 0), (5, .pt ub 0 0 0), (7, AI i)]) (fun i ve => [(ub, OB.box [.lit vn, .lit ve]), (vn, OB.row 3 1 (rowI g.nodes)), (ve, OB.row 85 3 ((g.edges.take i).map cEd)), (U4, OB.box [nilS, nilS])]) (fun i _ => i ≤ g.edges.length) (fun i _ => g.edges.length - i) 0 (.slice none 0 0) (Nat.zero_le _) (.sub (by exact subQ) (.keep (.keep (.free (OSub.refl _))))) ?_
    intro i ve hi
    rcases Nat.lt_or_ge i g.edges.length with h | h
    · have hx := List.getElem?_eq_getElem h
      have hbx := hb _ (List.getElem_mem h)
      generalize g.edges[i] = x at hx hbx
      obtain ⟨x1, x2, x3⟩ := x
      simp only at hbx
      have xk : (g.edges.map cEd)[(i : Int).toNat]? = some [AI x1, AI x2, AI x3] := map_get (f := cEd) hx
      have hset : (g.edges.take (i + 1)).map cEd = (g.edges.take i).map cEd ++ [[AI x1, AI x2, AI x3]] := by rw [List.take_add_one, hx]; simp [cEd]
      have lE : ((g.edges.take i).map cEd).length = i := by simp; omega
      repeat (first | refine gA pk ?_ | (show AL _ _ _ _ _ _ _; first | refine jL tok (fun ux => ?_) | refine jX tok xk ?_ | refine jS tok 0 ?_ | refine jO tok 0 ?_ | refine jO tok 1 ?_ | refine s_build1A tok rfl rfl rfl rfl rfl rfl rfl rfl (by decide) (fun lv => ?_) | refine s_append1K tok 3 rfl rfl rfl rfl rfl rfl (by decide) rfl rfl rfl rfl (by omega) (by omega) (fun w hw => ?_) | refine s_storeB tok 1 rfl rfl rfl rfl rfl rfl rfl (by assumption) rfl (Nat.le_of_ble_eq_true rfl) rfl ?_))
      exact ⟨i + 1, w, by omega, by omega, .sub (by exact subQ) (by rw [hset]; exact .drop (OSub.refl _))⟩
    · obtain rfl : i = g.edges.length := by omega
      rw [List.take_length]
      have hns : rowI (g.nodes ++ [ty]) = rowI g.nodes ++ [[AI ty]] := by simp [cI]
      repeat (first | refine gZ pk ?_)
      refine a_reg ?_
      repeat (first | refine gZ pk ?_)
      refine a_reg ?_
      repeat (first | refine gZ pk ?_)
      refine a_reg ?_
      repeat (first | refine gZ pk ?_ | (show AL _ _ _ _ _ _ _; first | refine jO tok 0 ?_ | refine s_build1 tok rfl rfl rfl rfl rfl rfl rfl rfl (fun lv => ?_) | refine s_append1K tok 1 rfl rfl rfl rfl rfl rfl (by decide) rfl rfl rfl rfl (by omega) (by omega) (fun w hw => ?_) | refine s_storeB tok 0 rfl rfl rfl rfl rfl rfl rfl (by assumption) rfl (Nat.le_of_ble_eq_true rfl) rfl ?_))
      refine a_reg ?_
      repeat (first | refine gZ pk ?_)
      rw [← hns]
      refine a_goto (GoTo.freeze 1 rfl (FZS.refl _) [(ub, OB.box [ints (g.nodes ++ [ty]), .lit ve]), (ve, OB.row 85 3 (g.edges.map cEd)), (U4, OB.box [nilS, nilS])] (fzo_box ⟨FZ.here, FZ.refl _, trivial⟩ (fzo_row (hr3 _) (fzo_box (FZL.refl _) trivial)))) ?_
      refine a_goto (GoTo.freeze 1 rfl (FZS.refl _) [(ub, OB.box [ints (g.nodes ++ [ty]), edsA g.edges]), (U4, OB.box [nilS, nilS])] (fzo_box ⟨FZ.refl _, FZ.here, trivial⟩ (fzo_box (FZL.refl _) trivial))) ?_
      refine a_frzBox 0 5 rfl rfl ?_
      repeat (first | refine gV pk ?_ | (show AL _ _ _ _ _ _ _; first | refine jS tok 0 ?_))
      refine a_frzBox 0 4 rfl rfl ?_
      refine a_ret ?_
      exact ⟨.inr rfl, _, _, _, _, rfl, rfl, Turn.of (Sub.of_eq rfl) (OSub.none _), rfl, rfl⟩
theorem gGraph2_spec (g : Gr) (h1 : g.nodes.length ≤ 1000) (h2 : g.edges.length ≤ 1000) (hb : ∀ x ∈ g.edges, (-1000000 ≤ x.fr ∧ x.fr ≤ 1000000) ∧ -1000000 ≤ x.to ∧ x.to ≤ 1000000) (i0 : Int) (ty fr to : Int) : Pure Tryz.prog 24 [grA g, .agg [AI 2, AI i0, AI ty, AI fr, AI to]] (grA ⟨g.nodes, g.edges ++ [⟨ty, fr, to⟩]⟩) := by
  have ln : (rowI g.nodes).length = g.nodes.length := by simp
  have le : (g.edges.map cEd).length = g.edges.length := by simp
  have hr1 : ∀ (l : List Int), ∀ x ∈ rowI l, x.length = 1 := fun l x hx => by
    obtain ⟨y, _, rfl⟩ := List.mem_map.1 hx
    rfl
  have hr3 : ∀ (l : List Ed), ∀ x ∈ l.map cEd, x.length = 3 := fun l x hx => by
    obtain ⟨y, _, rfl⟩ := List.mem_map.1 hx
    rfl
  refine a_enterC Tryz.func24 (by kernel_rfl) rfl Tryz.ntmps24 rfl (tok _ _ rfl) (by simp) ?_
  refine a_seq ?_
  refine a_reg ?_
  repeat (first | refine gZ pk ?_ | (show AL _ _ _ _ _ _ _; first | refine jB (fun ug => ?_) | refine jL tok (fun U4 => ?_)))
  refine a_frzBox 2 2 rfl rfl ?_
  refine a_frzBox 1 3 rfl rfl ?_
  repeat (first | refine gN pk ?_ | (show AL _ _ _ _ _ _ _; first | refine jL tok (fun ub => ?_) | refine jS tok 0 ?_))
  refine a_loopG2 (fun (i : Nat) (vn : Value) => [(2, .ip [ints g.nodes, edsA g.edges]), (3, .ip [AI 2, AI i0, AI ty, AI fr, AI to]), (4, .pt U4 0 0 0), (5, .pt ub 0 0 0), (6, AI i)]) (fun i vn => [(ub, OB.box [.lit vn, nilS]), (vn, OB.row 3 1 (rowI (g.nodes.take i))), (U4, OB.box [nilS, nilS])]) (fun i _ => i ≤ g.nodes.length) (fun i _ => g.nodes.length - i) 0 (.slice none 0 0) (Nat.zero_le _) (.sub (by exact subQ) (.keep (.free (OSub.refl _)))) ?_
  intro i vn hi
  rcases Nat.lt_or_ge i g.nodes.length with h | h
  · have hx := List.getElem?_eq_getElem h
    generalize g.nodes[i] = x at hx
    have xk : (rowI g.nodes)[(i : Int).toNat]? = some [AI x] := map_get (f := cI) hx
    have hset : rowI (g.nodes.take (i + 1)) = rowI (g.nodes.take i) ++ [[AI x]] := by rw [List.take_add_one, hx]; simp [cI]
    have lN : (rowI (g.nodes.take i)).length = i := by simp; omega
    repeat (first | refine gN pk ?_)
    refine a_regG ((List.range 11).map fun i => if inL [7, 8, 10] i = true then .eff else if inL [1, 3, 5, 6] i = true then .read else .pure) [7] [0, 1, 2, 3, 4, 5, 6] (.nd 7 [8, 9, 10] .stop .stop) mixed rfl rfl (by decide +kernel) ?_
    repeat' (first | (with_reducible show AG _ _ _ _ _ _ _ _ _ _; first | exact ag_none | refine ag_stop ?_ | refine ag_nd ?_ ?_) | (show AMid _ _ _ _; first | refine amid_f ?_ | refine amid_g (by first | exact OSub.refl _ | exact .drop (OSub.refl _) | exact .drop (.drop (OSub.refl _))) ?_) | refine gY pk ?_ | (show AL _ _ _ _ _ _ _; first | refine jO tok 0 ?_ | refine jX tok xk ?_ | refine s_build1 tok rfl rfl rfl rfl rfl rfl rfl rfl (fun lv => ?_) | refine s_append1K tok 1 rfl rfl rfl rfl rfl rfl (by decide) rfl rfl rfl rfl (by omega) (by omega) (fun w hw => ?_) | refine s_storeB tok 0 rfl rfl rfl rfl rfl rfl rfl (by assumption) rfl (Nat.le_of_ble_eq_true rfl) rfl ?_) | fail)
    repeat (first | refine gA pk ?_)
    exact ⟨i + 1, w, by omega, by omega, .sub (by exact subQ) (by rw [hset]; exact OSub.refl _)⟩
  · obtain rfl : i = g.nodes.length := by omega
    rw [List.take_length]
    repeat (first | refine gN pk ?_)
    refine a_loopG2 (fun (i : Nat) (ve : Value) => [(2, .ip [ints g.nodes, edsA g.edges]), (3, .ip [AI 2, AI i0, AI ty, AI fr, AI to]), (4, .pt U4 0 0 0), (5, .pt ub 0 0 0), (7, AI i)]) (fun i ve => [(ub, OB.box [.lit vn, .lit ve]), (vn, OB.row 3 1 (rowI g.nodes)), (ve, OB.row 85 3 ((g.edges.take i).map cEd)), (U4, OB.box [nilS, nilS])]) (fun i _ => i ≤ g.edges.length) (fun i _ => g.edges.length - i) 0 (.slice none 0 0) (Nat.zero_le _) (.sub (by exact subQ) (.keep (.keep (.free (OSub.refl _))))) ?_
    intro i ve hi
    rcases Nat.lt_or_ge i g.edges.length with h | h
    · have hx := List.getElem?_eq_getElem h
      have hbx := hb _ (List.getElem_mem h)
      generalize g.edges[i] = x at hx hbx
      obtain ⟨x1, x2, x3⟩ := x
      simp only at hbx
      have xk : (g.edges.map cEd)[(i : Int).toNat]? = some [AI x1, AI x2, AI x3] := map_get (f := cEd) hx
      have hset : (g.edges.take (i + 1)).map cEd = (g.edges.take i).map cEd ++ [[AI x1, AI x2, AI x3]] := by rw [List.take_add_one, hx]; simp [cEd]
      have lE : ((g.edges.take i).map cEd).length = i := by simp; omega
      repeat (first | refine gA pk ?_ | (show AL _ _ _ _ _ _ _; first | refine jL tok (fun ux => ?_) | refine jX tok xk ?_ | refine jS tok 0 ?_ | refine jO tok 0 ?_ | refine jO tok 1 ?_ | refine s_build1A tok rfl rfl rfl rfl rfl rfl rfl rfl (by decide) (fun lv => ?_) | refine s_append1K tok 3 rfl rfl rfl rfl rfl rfl (by decide) rfl rfl rfl rfl (by omega) (by omega) (fun w hw => ?_) | refine s_storeB tok 1 rfl rfl rfl rfl rfl rfl rfl (by assumption) rfl (Nat.le_of_ble_eq_true rfl) rfl ?_))
      exact ⟨i + 1, w, by omega, by omega, .sub (by exact subQ) (by rw [hset]; exact .drop (OSub.refl _))⟩
    · obtain rfl : i = g.edges.length := by omega
      rw [List.take_length]
      have hes : (g.edges ++ [(⟨ty, fr, to⟩ : Ed)]).map cEd = g.edges.map cEd ++ [[AI ty, AI fr, AI to]] := by simp [cEd]
      repeat (first | refine gZ pk ?_)
      refine a_reg ?_
      repeat (first | refine gZ pk ?_)
      refine a_reg ?_
      repeat (first | refine gZ pk ?_)
      refine a_reg ?_
      repeat (first | refine gZ pk ?_)
      refine a_reg ?_
      repeat (first | refine gZ pk ?_ | (show AL _ _ _ _ _ _ _; first | refine jO tok 0 ?_ | refine s_build1A tok rfl rfl rfl rfl rfl rfl rfl rfl (by decide) (fun lv => ?_) | refine s_append1K tok 2 rfl rfl rfl rfl rfl rfl (by decide) rfl rfl rfl rfl (by omega) (by omega) (fun w hw => ?_) | refine s_storeB tok 0 rfl rfl rfl rfl rfl rfl rfl (by assumption) rfl (Nat.le_of_ble_eq_true rfl) rfl ?_))
      rw [← hes]
      refine a_goto (GoTo.freeze 1 rfl (FZS.refl _) [(ub, OB.box [ints g.nodes, .lit w]), (w, OB.row 85 3 ((g.edges ++ [(⟨ty, fr, to⟩ : Ed)]).map cEd)), (U4, OB.box [nilS, nilS])] (fzo_box ⟨FZ.here, FZ.refl _, trivial⟩ (fzo_row (hr3 _) (fzo_box (FZL.refl _) trivial)))) ?_
      refine a_goto (GoTo.freeze 1 rfl (FZS.refl _) [(ub, OB.box [ints g.nodes, edsA (g.edges ++ [(⟨ty, fr, to⟩ : Ed)])]), (U4, OB.box [nilS, nilS])] (fzo_box ⟨FZ.refl _, FZ.here, trivial⟩ (fzo_box (FZL.refl _) trivial))) ?_
      refine a_frzBox 0 5 rfl rfl ?_
      repeat (first | refine gV pk ?_ | (show AL _ _ _ _ _ _ _; first | refine jS tok 0 ?_))
      refine a_frzBox 0 4 rfl rfl ?_
      refine a_ret ?_
      exact ⟨.inr rfl, _, _, _, _, rfl, rfl, Turn.of (Sub.of_eq rfl) (OSub.none _), rfl, rfl⟩
theorem gGraph3_spec (g : Gr) (h1 : g.nodes.length ≤ 1000) (h2 : g.edges.length ≤ 1000) (hb : ∀ x ∈ g.edges, (-1000000 ≤ x.fr ∧ x.fr ≤ 1000000) ∧ -1000000 ≤ x.to ∧ x.to ≤ 1000000) (d : Nat) (ty fr to : Int) : Pure Tryz.prog 24 [grA g, .agg [AI 3, AI d, AI ty, AI fr, AI to]] (grA ⟨g.nodes.eraseIdx d, g.edges.map (lesE d)⟩) := by
  have ln : (rowI g.nodes).length = g.nodes.length := by simp
  have le : (g.edges.map cEd).length = g.edges.length := by simp
  have hr1 : ∀ (l : List Int), ∀ x ∈ rowI l, x.length = 1 := fun l x hx => by
    obtain ⟨y, _, rfl⟩ := List.mem_map.1 hx
    rfl
  have hr3 : ∀ (l : List Ed), ∀ x ∈ l.map cEd, x.length = 3 := fun l x hx => by
    obtain ⟨y, _, rfl⟩ := List.mem_map.1 hx
    rfl
  refine a_enterC Tryz.func24 (by kernel_rfl) rfl Tryz.ntmps24 rfl (tok _ _ rfl) (by simp) ?_
  refine a_seq ?_
  refine a_reg ?_
  repeat (first | refine gZ pk ?_ | (show AL _ _ _ _ _ _ _; first | refine jB (fun ug => ?_) | refine jL tok (fun U4 => ?_)))
  refine a_frzBox 2 2 rfl rfl ?_
  refine a_frzBox 1 3 rfl rfl ?_
  repeat (first | refine gN pk ?_ | (show AL _ _ _ _ _ _ _; first | refine jL tok (fun ub => ?_) | refine jS tok 0 ?_))
  refine a_loopG2 (fun (i : Nat) (vn : Value) => [(2, .ip [ints g.nodes, edsA g.edges]), (3, .ip [AI 3, AI d, AI ty, AI fr, AI to]), (4, .pt U4 0 0 0), (5, .pt ub 0 0 0), (6, AI i)]) (fun i vn => [(ub, OB.box [.lit vn, nilS]), (vn, OB.row 3 1 (rowI ((g.nodes.take i).eraseIdx d))), (U4, OB.box [nilS, nilS])]) (fun i _ => i ≤ g.nodes.length) (fun i _ => g.nodes.length - i) 0 (.slice none 0 0) (Nat.zero_le _) (.sub (by exact subQ) (.keep (.free (OSub.refl _)))) ?_
  intro i vn hi
  rcases Nat.lt_or_ge i g.nodes.length with h | h
  · have hx := List.getElem?_eq_getElem h
    generalize g.nodes[i] = x at hx
    have xk : (rowI g.nodes)[(i : Int).toNat]? = some [AI x] := map_get (f := cI) hx
    have hst := era_take (d := d) hx
    have lN : (rowI ((g.nodes.take i).eraseIdx d)).length ≤ i := by
      rw [List.length_map]
      have := List.length_eraseIdx_le (g.nodes.take i) d
      rw [List.length_take] at this
      omega
    by_cases hid : i = d
    · rw [if_pos hid] at hst
      have hset : rowI ((g.nodes.take (i + 1)).eraseIdx d) = rowI ((g.nodes.take i).eraseIdx d) := by rw [hst]
      repeat (first | refine gA pk ?_)
      exact ⟨i + 1, vn, by omega, by omega, .sub (by exact subQ) (by rw [hset]; exact OSub.refl _)⟩
    · rw [if_neg hid] at hst
      have hset : rowI ((g.nodes.take (i + 1)).eraseIdx d) = rowI ((g.nodes.take i).eraseIdx d) ++ [[AI x]] := by rw [hst]; simp [cI]
      repeat (first | refine gN pk ?_)
      refine a_regG ((List.range 11).map fun i => if inL [7, 8, 10] i = true then .eff else if inL [1, 3, 5, 6] i = true then .read else .pure) [7] [0, 1, 2, 3, 4, 5, 6] (.nd 7 [8, 9, 10] .stop .stop) mixed rfl rfl (by decide +kernel) ?_
      repeat' (first | (with_reducible show AG _ _ _ _ _ _ _ _ _ _; first | exact ag_none | refine ag_stop ?_ | refine ag_nd ?_ ?_) | (show AMid _ _ _ _; first | refine amid_f ?_ | refine amid_g (by first | exact OSub.refl _ | exact .drop (OSub.refl _) | exact .drop (.drop (OSub.refl _))) ?_) | refine gY pk ?_ | (show AL _ _ _ _ _ _ _; first | refine jO tok 0 ?_ | refine jX tok xk ?_ | refine s_build1 tok rfl rfl rfl rfl rfl rfl rfl rfl (fun lv => ?_) | refine s_append1K tok 1 rfl rfl rfl rfl rfl rfl (by decide) rfl rfl rfl rfl (by omega) (by omega) (fun w hw => ?_) | refine s_storeB tok 0 rfl rfl rfl rfl rfl rfl rfl (by assumption) rfl (Nat.le_of_ble_eq_true rfl) rfl ?_) | fail)
      repeat (first | refine gA pk ?_)
      exact ⟨i + 1, w, by omega, by omega, .sub (by exact subQ) (by rw [hset]; exact OSub.refl _)⟩
  · obtain rfl : i = g.nodes.length := by omega
    rw [List.take_length]
    repeat (first | refine gN pk ?_)
    refine a_loopG2 (fun (i : Nat) (ve : Value) => [(2, .ip [ints g.nodes, edsA g.edges]), (3, .ip [AI 3, AI d, AI ty, AI fr, AI to]), (4, .pt U4 0 0 0), (5, .pt ub 0 0 0), (7, AI i)]) (fun i ve => [(ub, OB.box [.lit vn, .lit ve]), (vn, OB.row 3 1 (rowI (g.nodes.eraseIdx d))), (ve, OB.row 85 3 (((g.edges.take i).map (lesE d)).map cEd)), (U4, OB.box [nilS, nilS])]) (fun i _ => i ≤ g.edges.length) (fun i _ => g.edges.length - i) 0 (.slice none 0 0) (Nat.zero_le _) (.sub (by exact subQ) (.keep (.keep (.free (OSub.refl _))))) ?_
    intro i ve hi
    rcases Nat.lt_or_ge i g.edges.length with h | h
    · have hx := List.getElem?_eq_getElem h
      have hbx := hb _ (List.getElem_mem h)
      generalize g.edges[i] = x at hx hbx
      obtain ⟨x1, x2, x3⟩ := x
      simp only at hbx
      have xk : (g.edges.map cEd)[(i : Int).toNat]? = some [AI x1, AI x2, AI x3] := map_get (f := cEd) hx
      have hset0 : ((g.edges.take (i + 1)).map (lesE d)).map cEd = ((g.edges.take i).map (lesE d)).map cEd ++ [[AI x1, AI (les d x2), AI (les d x3)]] := by rw [List.take_add_one, hx]; simp [cEd, lesE]
      have lE : (((g.edges.take i).map (lesE d)).map cEd).length = i := by simp; omega
      by_cases c2 : (d : Int) < x2
      · by_cases c3 : (d : Int) < x3
        · have hset := hset0
          rw [show les d x2 = x2 - 1 from if_pos c2, show les d x3 = x3 - 1 from if_pos c3] at hset
          repeat (first | refine gA pk ?_ | (show AL _ _ _ _ _ _ _; first | refine jL tok (fun ux => ?_) | refine jX tok xk ?_ | refine jS tok 0 ?_ | refine jO tok 0 ?_ | refine jO tok 1 ?_ | refine s_build1A tok rfl rfl rfl rfl rfl rfl rfl rfl (by decide) (fun lv => ?_) | refine s_append1K tok 3 rfl rfl rfl rfl rfl rfl (by decide) rfl rfl rfl rfl (by omega) (by omega) (fun w hw => ?_) | refine s_storeB tok 1 rfl rfl rfl rfl rfl rfl rfl (by assumption) rfl (Nat.le_of_ble_eq_true rfl) rfl ?_))
          exact ⟨i + 1, w, by omega, by omega, .sub (by exact subQ) (by rw [hset]; exact .drop (OSub.refl _))⟩
        · have hset := hset0
          rw [show les d x2 = x2 - 1 from if_pos c2, show les d x3 = x3 from if_neg c3] at hset
          repeat (first | refine gA pk ?_ | (show AL _ _ _ _ _ _ _; first | refine jL tok (fun ux => ?_) | refine jX tok xk ?_ | refine jS tok 0 ?_ | refine jO tok 0 ?_ | refine jO tok 1 ?_ | refine s_build1A tok rfl rfl rfl rfl rfl rfl rfl rfl (by decide) (fun lv => ?_) | refine s_append1K tok 3 rfl rfl rfl rfl rfl rfl (by decide) rfl rfl rfl rfl (by omega) (by omega) (fun w hw => ?_) | refine s_storeB tok 1 rfl rfl rfl rfl rfl rfl rfl (by assumption) rfl (Nat.le_of_ble_eq_true rfl) rfl ?_))
          exact ⟨i + 1, w, by omega, by omega, .sub (by exact subQ) (by rw [hset]; exact .drop (OSub.refl _))⟩
      · by_cases c3 : (d : Int) < x3
        · have hset := hset0
          rw [show les d x2 = x2 from if_neg c2, show les d x3 = x3 - 1 from if_pos c3] at hset
          repeat (first | refine gA pk ?_ | (show AL _ _ _ _ _ _ _; first | refine jL tok (fun ux => ?_) | refine jX tok xk ?_ | refine jS tok 0 ?_ | refine jO tok 0 ?_ | refine jO tok 1 ?_ | refine s_build1A tok rfl rfl rfl rfl rfl rfl rfl rfl (by decide) (fun lv => ?_) | refine s_append1K tok 3 rfl rfl rfl rfl rfl rfl (by decide) rfl rfl rfl rfl (by omega) (by omega) (fun w hw => ?_) | refine s_storeB tok 1 rfl rfl rfl rfl rfl rfl rfl (by assumption) rfl (Nat.le_of_ble_eq_true rfl) rfl ?_))
          exact ⟨i + 1, w, by omega, by omega, .sub (by exact subQ) (by rw [hset]; exact .drop (OSub.refl _))⟩
        · have hset := hset0
          rw [show les d x2 = x2 from if_neg c2, show les d x3 = x3 from if_neg c3] at hset
          repeat (first | refine gA pk ?_ | (show AL _ _ _ _ _ _ _; first | refine jL tok (fun ux => ?_) | refine jX tok xk ?_ | refine jS tok 0 ?_ | refine jO tok 0 ?_ | refine jO tok 1 ?_ | refine s_build1A tok rfl rfl rfl rfl rfl rfl rfl rfl (by decide) (fun lv => ?_) | refine s_append1K tok 3 rfl rfl rfl rfl rfl rfl (by decide) rfl rfl rfl rfl (by omega) (by omega) (fun w hw => ?_) | refine s_storeB tok 1 rfl rfl rfl rfl rfl rfl rfl (by assumption) rfl (Nat.le_of_ble_eq_true rfl) rfl ?_))
          exact ⟨i + 1, w, by omega, by omega, .sub (by exact subQ) (by rw [hset]; exact .drop (OSub.refl _))⟩
    · obtain rfl : i = g.edges.length := by omega
      rw [List.take_length]
      repeat (first | refine gZ pk ?_)
      refine a_reg ?_
      repeat (first | refine gZ pk ?_)
      refine a_reg ?_
      repeat (first | refine gZ pk ?_)
      refine a_reg ?_
      repeat (first | refine gZ pk ?_)
      refine a_goto (GoTo.freeze 1 rfl (FZS.refl _) [(ub, OB.box [ints (g.nodes.eraseIdx d), .lit ve]), (ve, OB.row 85 3 ((g.edges.map (lesE d)).map cEd)), (U4, OB.box [nilS, nilS])] (fzo_box ⟨FZ.here, FZ.refl _, trivial⟩ (fzo_row (hr3 _) (fzo_box (FZL.refl _) trivial)))) ?_
      refine a_goto (GoTo.freeze 1 rfl (FZS.refl _) [(ub, OB.box [ints (g.nodes.eraseIdx d), edsA (g.edges.map (lesE d))]), (U4, OB.box [nilS, nilS])] (fzo_box ⟨FZ.refl _, FZ.here, trivial⟩ (fzo_box (FZL.refl _) trivial))) ?_
      refine a_frzBox 0 5 rfl rfl ?_
      repeat (first | refine gV pk ?_ | (show AL _ _ _ _ _ _ _; first | refine jS tok 0 ?_))
      refine a_frzBox 0 4 rfl rfl ?_
      refine a_ret ?_
      exact ⟨.inr rfl, _, _, _, _, rfl, rfl, Turn.of (Sub.of_eq rfl) (OSub.none _), rfl, rfl⟩
theorem gGraph4_spec (g : Gr) (h1 : g.nodes.length ≤ 1000) (h2 : g.edges.length ≤ 1000) (hb : ∀ x ∈ g.edges, (-1000000 ≤ x.fr ∧ x.fr ≤ 1000000) ∧ -1000000 ≤ x.to ∧ x.to ≤ 1000000) (d : Nat) (ty fr to : Int) : Pure Tryz.prog 24 [grA g, .agg [AI 4, AI d, AI ty, AI fr, AI to]] (grA ⟨g.nodes, g.edges.eraseIdx d⟩) := by
  have ln : (rowI g.nodes).length = g.nodes.length := by simp
  have le : (g.edges.map cEd).length = g.edges.length := by simp
  have hr1 : ∀ (l : List Int), ∀ x ∈ rowI l, x.length = 1 := fun l x hx => by
    obtain ⟨y, _, rfl⟩ := List.mem_map.1 hx
    rfl
  have hr3 : ∀ (l : List Ed), ∀ x ∈ l.map cEd, x.length = 3 := fun l x hx => by
    obtain ⟨y, _, rfl⟩ := List.mem_map.1 hx
    rfl
  refine a_enterC Tryz.func24 (by kernel_rfl) rfl Tryz.ntmps24 rfl (tok _ _ rfl) (by simp) ?_
  refine a_seq ?_
  refine a_reg ?_
  repeat (first | refine gZ pk ?_ | (show AL _ _ _ _ _ _ _; first | refine jB (fun ug => ?_) | refine jL tok (fun U4 => ?_)))
  refine a_frzBox 2 2 rfl rfl ?_
  refine a_frzBox 1 3 rfl rfl ?_
  repeat (first | refine gN pk ?_ | (show AL _ _ _ _ _ _ _; first | refine jL tok (fun ub => ?_) | refine jS tok 0 ?_))
  refine a_loopG2 (fun (i : Nat) (vn : Value) => [(2, .ip [ints g.nodes, edsA g.edges]), (3, .ip [AI 4, AI d, AI ty, AI fr, AI to]), (4, .pt U4 0 0 0), (5, .pt ub 0 0 0), (6, AI i)]) (fun i vn => [(ub, OB.box [.lit vn, nilS]), (vn, OB.row 3 1 (rowI (g.nodes.take i))), (U4, OB.box [nilS, nilS])]) (fun i _ => i ≤ g.nodes.length) (fun i _ => g.nodes.length - i) 0 (.slice none 0 0) (Nat.zero_le _) (.sub (by exact subQ) (.keep (.free (OSub.refl _)))) ?_
  intro i vn hi
  rcases Nat.lt_or_ge i g.nodes.length with h | h
  · have hx := List.getElem?_eq_getElem h
    generalize g.nodes[i] = x at hx
    have xk : (rowI g.nodes)[(i : Int).toNat]? = some [AI x] := map_get (f := cI) hx
    have hset : rowI (g.nodes.take (i + 1)) = rowI (g.nodes.take i) ++ [[AI x]] := by rw [List.take_add_one, hx]; simp [cI]
    have lN : (rowI (g.nodes.take i)).length = i := by simp; omega
    repeat (first | refine gN pk ?_)
    refine a_regG ((List.range 11).map fun i => if inL [7, 8, 10] i = true then .eff else if inL [1, 3, 5, 6] i = true then .read else .pure) [7] [0, 1, 2, 3, 4, 5, 6] (.nd 7 [8, 9, 10] .stop .stop) mixed rfl rfl (by decide +kernel) ?_
    repeat' (first | (with_reducible show AG _ _ _ _ _ _ _ _ _ _; first | exact ag_none | refine ag_stop ?_ | refine ag_nd ?_ ?_) | (show AMid _ _ _ _; first | refine amid_f ?_ | refine amid_g (by first | exact OSub.refl _ | exact .drop (OSub.refl _) | exact .drop (.drop (OSub.refl _))) ?_) | refine gY pk ?_ | (show AL _ _ _ _ _ _ _; first | refine jO tok 0 ?_ | refine jX tok xk ?_ | refine s_build1 tok rfl rfl rfl rfl rfl rfl rfl rfl (fun lv => ?_) | refine s_append1K tok 1 rfl rfl rfl rfl rfl rfl (by decide) rfl rfl rfl rfl (by omega) (by omega) (fun w hw => ?_) | refine s_storeB tok 0 rfl rfl rfl rfl rfl rfl rfl (by assumption) rfl (Nat.le_of_ble_eq_true rfl) rfl ?_) | fail)
    repeat (first | refine gA pk ?_)
    exact ⟨i + 1, w, by omega, by omega, .sub (by exact subQ) (by rw [hset]; exact OSub.refl _)⟩
  · obtain rfl : i = g.nodes.length := by omega
    rw [List.take_length]
    repeat (first | refine gN pk ?_)
    refine a_loopG2 (fun (i : Nat) (ve : Value) => [(2, .ip [ints g.nodes, edsA g.edges]), (3, .ip [AI 4, AI d, AI ty, AI fr, AI to]), (4, .pt U4 0 0 0), (5, .pt ub 0 0 0), (7, AI i)]) (fun i ve => [(ub, OB.box [.lit vn, .lit ve]), (vn, OB.row 3 1 (rowI g.nodes)), (ve, OB.row 85 3 (((g.edges.take i).eraseIdx d).map cEd)), (U4, OB.box [nilS, nilS])]) (fun i _ => i ≤ g.edges.length) (fun i _ => g.edges.length - i) 0 (.slice none 0 0) (Nat.zero_le _) (.sub (by exact subQ) (.keep (.keep (.free (OSub.refl _))))) ?_
    intro i ve hi
    rcases Nat.lt_or_ge i g.edges.length with h | h
    · have hx := List.getElem?_eq_getElem h
      have hbx := hb _ (List.getElem_mem h)
      generalize g.edges[i] = x at hx hbx
      obtain ⟨x1, x2, x3⟩ := x
      simp only at hbx
      have xk : (g.edges.map cEd)[(i : Int).toNat]? = some [AI x1, AI x2, AI x3] := map_get (f := cEd) hx
      have hst := era_take (d := d) hx
      have lE : (((g.edges.take i).eraseIdx d).map cEd).length ≤ i := by
        rw [List.length_map]
        have := List.length_eraseIdx_le (g.edges.take i) d
        rw [List.length_take] at this
        omega
      by_cases hid : i = d
      · rw [if_pos hid] at hst
        have hset : ((g.edges.take (i + 1)).eraseIdx d).map cEd = ((g.edges.take i).eraseIdx d).map cEd := by rw [hst]
        repeat (first | refine gA pk ?_)
        exact ⟨i + 1, ve, by omega, by omega, .sub (by exact subQ) (by rw [hset]; exact OSub.refl _)⟩
      · rw [if_neg hid] at hst
        have hset : ((g.edges.take (i + 1)).eraseIdx d).map cEd = ((g.edges.take i).eraseIdx d).map cEd ++ [[AI x1, AI x2, AI x3]] := by rw [hst]; simp [cEd]
        repeat (first | refine gA pk ?_ | (show AL _ _ _ _ _ _ _; first | refine jL tok (fun ux => ?_) | refine jX tok xk ?_ | refine jS tok 0 ?_ | refine jO tok 0 ?_ | refine jO tok 1 ?_ | refine s_build1A tok rfl rfl rfl rfl rfl rfl rfl rfl (by decide) (fun lv => ?_) | refine s_append1K tok 3 rfl rfl rfl rfl rfl rfl (by decide) rfl rfl rfl rfl (by omega) (by omega) (fun w hw => ?_) | refine s_storeB tok 1 rfl rfl rfl rfl rfl rfl rfl (by assumption) rfl (Nat.le_of_ble_eq_true rfl) rfl ?_))
        exact ⟨i + 1, w, by omega, by omega, .sub (by exact subQ) (by rw [hset]; exact .drop (OSub.refl _))⟩
    · obtain rfl : i = g.edges.length := by omega
      rw [List.take_length]
      repeat (first | refine gZ pk ?_)
      refine a_reg ?_
      repeat (first | refine gZ pk ?_)
      refine a_reg ?_
      repeat (first | refine gZ pk ?_)
      refine a_reg ?_
      repeat (first | refine gZ pk ?_)
      refine a_goto (GoTo.freeze 1 rfl (FZS.refl _) [(ub, OB.box [ints g.nodes, .lit ve]), (ve, OB.row 85 3 ((g.edges.eraseIdx d).map cEd)), (U4, OB.box [nilS, nilS])] (fzo_box ⟨FZ.here, FZ.refl _, trivial⟩ (fzo_row (hr3 _) (fzo_box (FZL.refl _) trivial)))) ?_
      refine a_goto (GoTo.freeze 1 rfl (FZS.refl _) [(ub, OB.box [ints g.nodes, edsA (g.edges.eraseIdx d)]), (U4, OB.box [nilS, nilS])] (fzo_box ⟨FZ.refl _, FZ.here, trivial⟩ (fzo_box (FZL.refl _) trivial))) ?_
      refine a_frzBox 0 5 rfl rfl ?_
      repeat (first | refine gV pk ?_ | (show AL _ _ _ _ _ _ _; first | refine jS tok 0 ?_))
      refine a_frzBox 0 4 rfl rfl ?_
      refine a_ret ?_
      exact ⟨.inr rfl, _, _, _, _, rfl, rfl, Turn.of (Sub.of_eq rfl) (OSub.none _), rfl, rfl⟩
end Go.Proofs.YtddohheabpiljaaGreat
end
