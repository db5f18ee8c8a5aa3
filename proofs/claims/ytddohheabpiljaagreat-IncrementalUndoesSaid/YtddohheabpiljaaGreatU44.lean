/- Parts of a proof. -/
import Derived.Test.YtddohheabpiljaaGreatU43
set_option linter.unusedVariables false
set_option linter.unusedSimpArgs false
section
namespace Go.Proofs.YtddohheabpiljaaGreat
open Go.Sj Go.Sj.Typ Go.Sj.Sta Go.Sj.Inc
set_option maxRecDepth 8000
set_option maxHeartbeats 16000000
theorem DeleteI_spec (l : List Int) (k : Nat) (hk : k < l.length) (hl : l.length ≤ 1000) (v : Value) :
    ACalls Tryz.prog 91 [.lit v, AI k, AI (k + 1)] [(v, .row 3 1 (l.map cI))]
      (fun y L => ∃ v', y = .lit v' ∧ L = [(v', .row 3 1 ((l.eraseIdx k).map cI))]) := by
  have ll : (l.map cI).length = l.length := by simp
  have hcell : (l.map cI).all (fun e => e.all AV.cell) = true := List.all_eq_true.2 fun x hx => by
    obtain ⟨y, _, rfl⟩ := List.mem_map.1 hx
    rfl
  refine zen Tryz.func91 (by kernel_rfl) rfl Tryz.ntmps91 rfl (by simp) ?_
  refine a_knowRow 0 rfl (fun a c hv hc hm _ => ?_)
  subst hv
  rw [ll] at hc ⊢
  repeat (first | refine gN pk ?_ | (show AL _ _ _ _ _ _ _; first | refine zol tok 0 rfl rfl rfl rfl (by decide) rfl rfl rfl ?_ | refine s_slice3 tok k (k + 1) l.length rfl rfl rfl rfl rfl rfl rfl rfl rfl rfl (by omega) (by omega) (by omega) (by omega) (by omega) (by omega) ?_))
  refine a_regP mixed (by decide +kernel) ?_
  repeat (first | refine gY pk ?_ | (show AL _ _ _ _ _ _ _; first | refine s_capPart tok 0 k rfl rfl rfl rfl rfl rfl rfl rfl (by first | exact rfl | exact ⟨_, _, rfl, by omega⟩) (by first | exact rfl | exact ⟨_, _, rfl, by omega⟩) (by omega) (by omega) ?_ | refine s_capPart tok (k + 1) l.length rfl rfl rfl rfl rfl rfl rfl rfl (by first | exact rfl | exact ⟨_, _, rfl, by omega⟩) (by first | exact rfl | exact ⟨_, _, rfl, by omega⟩) (by omega) (by omega) ?_ | refine s_appendBack tok 0 k (k + 1) rfl rfl rfl rfl rfl rfl (by decide) rfl rfl rfl rfl (by omega) (by omega) hcell ?_))
  have hl2 : ((l.map cI).take k ++ (l.map cI).drop (k + 1)).length = k + (l.length - (k + 1)) := by simp only [List.length_append, List.length_take, List.length_drop, ll]; omega
  repeat (first | refine gA pk ?_ | (show AL _ _ _ _ _ _ _; first | refine zol tok 0 rfl rfl rfl rfl (by decide) rfl rfl rfl ?_ | refine s_capPart tok (k + (l.length - (k + 1))) l.length rfl rfl rfl rfl rfl rfl rfl rfl (by first | exact rfl | exact ⟨_, _, rfl, by omega⟩) (by first | exact rfl | exact ⟨_, _, rfl, by omega⟩) (by omega) (by omega) ?_ | refine s_clearTail tok 0 (k + (l.length - (k + 1))) l.length rfl rfl rfl rfl rfl rfl rfl rfl (by omega) (by omega) (by omega) rfl ?_))
  refine fin (x := .lit _) (.inr rfl) rfl (Sub.refl _) ⟨_, rfl, rfl⟩ ?_
  rw [List.eraseIdx_eq_take_drop_succ, List.map_append, List.map_take, List.map_drop]
  exact OSub.refl _
theorem DeleteE_spec (l : List Ed) (k : Nat) (hk : k < l.length) (hl : l.length ≤ 1000) (v : Value) :
    ACalls Tryz.prog 93 [.lit v, AI k, AI (k + 1)] [(v, .row 85 3 (l.map cEd))]
      (fun y L => ∃ v', y = .lit v' ∧ L = [(v', .row 85 3 ((l.eraseIdx k).map cEd))]) := by
  have ll : (l.map cEd).length = l.length := by simp
  have hcell : (l.map cEd).all (fun e => e.all AV.cell) = true := List.all_eq_true.2 fun x hx => by
    obtain ⟨y, _, rfl⟩ := List.mem_map.1 hx
    rfl
  refine zen Tryz.func93 (by kernel_rfl) rfl Tryz.ntmps93 rfl (by simp) ?_
  refine a_knowRow 0 rfl (fun a c hv hc hm _ => ?_)
  subst hv
  rw [ll] at hc ⊢
  repeat (first | refine gN pk ?_ | (show AL _ _ _ _ _ _ _; first | refine zol tok 0 rfl rfl rfl rfl (by decide) rfl rfl rfl ?_ | refine s_slice3 tok k (k + 1) l.length rfl rfl rfl rfl rfl rfl rfl rfl rfl rfl (by omega) (by omega) (by omega) (by omega) (by omega) (by omega) ?_))
  refine a_regP mixed (by decide +kernel) ?_
  repeat (first | refine gY pk ?_ | (show AL _ _ _ _ _ _ _; first | refine s_capPart tok 0 k rfl rfl rfl rfl rfl rfl rfl rfl (by first | exact rfl | exact ⟨_, _, rfl, by omega⟩) (by first | exact rfl | exact ⟨_, _, rfl, by omega⟩) (by omega) (by omega) ?_ | refine s_capPart tok (k + 1) l.length rfl rfl rfl rfl rfl rfl rfl rfl (by first | exact rfl | exact ⟨_, _, rfl, by omega⟩) (by first | exact rfl | exact ⟨_, _, rfl, by omega⟩) (by omega) (by omega) ?_ | refine s_appendBack tok 0 k (k + 1) rfl rfl rfl rfl rfl rfl (by decide) rfl rfl rfl rfl (by omega) (by omega) hcell ?_))
  have hl2 : ((l.map cEd).take k ++ (l.map cEd).drop (k + 1)).length = k + (l.length - (k + 1)) := by simp only [List.length_append, List.length_take, List.length_drop, ll]; omega
  repeat (first | refine gA pk ?_ | (show AL _ _ _ _ _ _ _; first | refine zol tok 0 rfl rfl rfl rfl (by decide) rfl rfl rfl ?_ | refine s_capPart tok (k + (l.length - (k + 1))) l.length rfl rfl rfl rfl rfl rfl rfl rfl (by first | exact rfl | exact ⟨_, _, rfl, by omega⟩) (by first | exact rfl | exact ⟨_, _, rfl, by omega⟩) (by omega) (by omega) ?_ | refine s_clearTail tok 0 (k + (l.length - (k + 1))) l.length rfl rfl rfl rfl rfl rfl rfl rfl (by omega) (by omega) (by omega) rfl ?_))
  refine fin (x := .lit _) (.inr rfl) rfl (Sub.refl _) ⟨_, rfl, rfl⟩ ?_
  rw [List.eraseIdx_eq_take_drop_succ, List.map_append, List.map_take, List.map_drop]
  exact OSub.refl _
theorem less_spec (n r : Int) (hn : -1000000 ≤ n ∧ n ≤ 1000000) : Pure Tryz.prog 92 [AI n, AI r] (AI (les r n)) := by
  unfold les
  by_cases h : r < n
  · rw [if_pos h]
    refine zen Tryz.func92 (by kernel_rfl) rfl Tryz.ntmps92 rfl (by simp) ?_
    repeat (first | refine gA pk ?_)
    refine finQ ?_
    exact ⟨rfl, rfl⟩
  · rw [if_neg h]
    refine zen Tryz.func92 (by kernel_rfl) rfl Tryz.ntmps92 rfl (by simp) ?_
    repeat (first | refine gA pk ?_)
    refine finQ ?_
    exact ⟨rfl, rfl⟩
theorem lower_spec (l : List Int) (hl : l.length ≤ 1000000) (hb : ∀ x ∈ l, -1000000 ≤ x ∧ x ≤ 1000000) (r : Int) : Gives Tryz.prog 95 [ints l, AI r] 3 1 (rowI (l.map (les r))) := by
  have s1 := CloneN_spec l (by omega)
  refine zen Tryz.func95 (by kernel_rfl) rfl Tryz.ntmps95 rfl (by simp) ?_
  repeat (first | refine gA pk ?_ | (show AL _ _ _ _ _ _ _; first | refine s_callG rfl rfl rfl rfl rfl (s1) (SubL.of_eq rfl) (fun v => ?_)))
  have ll : (rowI l).length = l.length := by simp
  repeat (first | refine gA pk ?_ | (show AL _ _ _ _ _ _ _; first | refine zol tok 0 rfl rfl rfl rfl (by decide) rfl rfl rfl ?_))
  rw [ll]
  refine zlx (fun k : Nat => [(1, AI r), (5, .lit v), (10, AI l.length), (11, AI k)]) (fun k => [(v, .row 3 1 (rowI ((l.take k).map (les r) ++ l.drop k)))]) (fun k => k ≤ l.length) (fun k => l.length - k) 0 (Nat.zero_le _) ?_ (OSub.refl _) ?_
  · exact subQ
  intro k hk
  have lr : (rowI ((l.take k).map (les r) ++ l.drop k)).length = l.length := by simp; omega
  rcases Nat.lt_or_ge k l.length with h | h
  · have hx := List.getElem?_eq_getElem h
    have hbx := hb _ (List.getElem_mem h)
    generalize l[k] = x at hx hbx
    have s2 := less_spec x r hbx
    have lt : ((l.take k).map (les r)).length = k := by simp; omega
    have gx : ((l.take k).map (les r) ++ l.drop k)[k]? = some x := by rw [List.getElem?_append_right (by omega), lt, Nat.sub_self, List.getElem?_drop, Nat.add_zero]; exact hx
    have hset : ((l.take k).map (les r) ++ l.drop k).set k (les r x) = (l.take (k + 1)).map (les r) ++ l.drop (k + 1) := by
      have hd : l.drop k = x :: l.drop (k + 1) := by rw [List.drop_eq_getElem_cons h, (List.getElem?_eq_some_iff.1 hx).2]
      rw [List.set_append, if_neg (by omega), lt, Nat.sub_self, List.take_add_one, hx, List.map_append, hd, List.append_assoc]
      rfl
    have xk : (rowI ((l.take k).map (les r) ++ l.drop k))[k]? = some [AI x] := zmp (f := cI) gx
    generalize hR : (l.take k).map (les r) ++ l.drop k = R at *
    generalize les r x = y at *
    have e1 : ((k : Nat) : Int).toNat = k := by omega
    have lR : R.length = l.length := by simpa using lr
    have xk' : R[((k : Nat) : Int).toNat]? = some x := by rw [e1]; exact gx
    repeat (first | refine gA pk ?_ | (show AL _ _ _ _ _ _ _; first | refine zol tok 0 rfl rfl rfl rfl (by decide) rfl rfl rfl ?_ | refine zoi tok 0 rfl rfl rfl rfl (by decide) rfl rfl rfl rfl rfl rfl (by omega) (by omega) ?_ | refine s_loadI tok 0 rfl rfl rfl rfl (by decide) rfl rfl rfl rfl xk' ?_ | refine jP s2 ?_ | refine s_storeI tok 0 rfl rfl rfl rfl rfl rfl rfl rfl (by omega) ?_))
    rw [e1, hset]
    exact ⟨k + 1, by omega, by omega, by exact subQ, OSub.refl _⟩
  · obtain rfl : k = l.length := by omega
    rw [List.take_length, List.drop_length, List.append_nil]
    repeat (first | refine gA pk ?_)
    exact fin (x := .lit _) (.inr rfl) rfl (Sub.refl _) ⟨_, rfl, rfl⟩ (OSub.refl _)
def lesB (edge : Bool) (d : Int) (x : Mo) : Mo := if edge = true then (x.1, x.2.map (les d)) else (x.1.map (les d), x.2)
abbrev MoR (x : Mo) : Prop := MoB x ∧ (∀ z ∈ x.1, -1000000 ≤ z ∧ z ≤ 1000000) ∧ ∀ z ∈ x.2, -1000000 ≤ z ∧ z ≤ 1000000
def restL (edge : Bool) (d : Int) (l : List Mo) : List Mo := (l.filter fun x => !hasB edge d x).map (lesB edge d)
theorem restL_snoc (edge : Bool) (d : Int) (l : List Mo) (x : Mo) : restL edge d (l ++ [x]) = restL edge d l ++ (if hasB edge d x = true then [] else [lesB edge d x]) := by
  unfold restL
  rw [List.filter_append, List.map_append]
  congr 1
  cases h : hasB edge d x <;> simp [h]
theorem goneL_snoc (edge : Bool) (d : Int) (l : List Mo) (x : Mo) : (l ++ [x]).filter (hasB edge d) = l.filter (hasB edge d) ++ (if hasB edge d x = true then [x] else []) := by
  rw [List.filter_append]
  congr 1
  cases h : hasB edge d x <;> simp [h]
theorem cut_spec (l : List Mo) (hl : l.length ≤ 1000000) (hb : ∀ x ∈ l, MoR x) (edge : Bool) (k d ty fr to : Int) (hk : (k = 3 ∧ edge = false) ∨ (k = 4 ∧ edge = true)) :
    Pure Tryz.prog 65 [mosA l, .agg [AI k, AI d, AI ty, AI fr, AI to]] (.tup [mosA (restL edge d l), mosA (l.filter (hasB edge d))]) := by
  have ll : (l.map cMo).length = l.length := by simp
  refine zen Tryz.func65 (by kernel_rfl) rfl Tryz.ntmps65 rfl (by simp) ?_
  refine a_seq ?_
  refine a_reg ?_
  repeat (first | refine gZ pk ?_ | (show AL _ _ _ _ _ _ _; first | refine jB (fun u => ?_)))
  refine zfb 0 3 rfl rfl ?_
  repeat (first | refine gA pk ?_)
  rw [ll]
  refine a_loopG3 (fun (i : Nat) (vr vg : Value) => [(3, .ip [AI k, AI d, AI ty, AI fr, AI to]), (6, .lit vr), (7, .lit vg), (11, mosA l), (12, AI l.length), (13, AI i)]) (fun i vr vg => [(vr, .row 95 2 ((restL edge d (l.take i)).map cMo)), (vg, .row 95 2 (((l.take i).filter (hasB edge d)).map cMo))]) (fun i _ _ => i ≤ l.length) (fun i _ _ => l.length - i) 0 (.slice none 0 0) (.slice none 0 0) (Nat.zero_le _) (.sub (by exact subQ) (.free (.free (OSub.none _)))) ?_
  intro i vr vg hi
  have l1 : ((restL edge d (l.take i)).map cMo).length ≤ l.length := by
    rw [List.length_map]
    unfold restL
    rw [List.length_map]
    have := List.length_filter_le (fun x => !hasB edge d x) (l.take i)
    rw [List.length_take] at this
    omega
  have l2 : (((l.take i).filter (hasB edge d)).map cMo).length ≤ l.length := by
    rw [List.length_map]
    have := List.length_filter_le (hasB edge d) (l.take i)
    rw [List.length_take] at this
    omega
  rcases Nat.lt_or_ge i l.length with h | h
  · have hp := List.getElem?_eq_getElem h
    have hbm := hb _ (List.getElem_mem h)
    generalize l[i] = m at hp hbm
    obtain ⟨⟨b1, b2⟩, b3, b4⟩ := hbm
    have hr := restL_snoc edge d (l.take i) m
    have hg := goneL_snoc edge d (l.take i) m
    rw [show l.take i ++ [m] = l.take (i + 1) by rw [List.take_add_one, hp]; rfl] at hr hg
    obtain ⟨m1, m2⟩ := m
    simp only at b1 b2 b3 b4
    have xk : (l.map cMo)[(i : Int).toNat]? = some [ints m1, ints m2] := zmp (f := cMo) hp
    generalize restL edge d (l.take i) = R at *
    generalize (l.take i).filter (hasB edge d) = G at *
    rcases hk with ⟨rfl, rfl⟩ | ⟨rfl, rfl⟩
    · have s1 := ContainsV_spec m1 (by omega) d
      have s2 := (lower_spec m1 (by omega) b3 d).pure
      by_cases hin : d ∈ m1
      · rw [decide_eq_true hin] at s1
        have hh : hasB false d (m1, m2) = true := decide_eq_true hin
        rw [if_pos hh] at hr hg
        rw [List.append_nil] at hr
        repeat (first | refine gN pk ?_ | (show AL _ _ _ _ _ _ _; first | refine jX tok xk ?_ | refine jL tok (fun um => ?_) | refine jS tok 0 ?_))
        refine zrg ((List.range 6).map fun i => if inL [5] i = true then .eff else if inL [2, 4] i = true then .read else .pure) [] [0, 1, 2, 3, 4, 5] .stop mixed rfl rfl (by decide +kernel) ?_
        repeat' (first | (with_reducible show AG _ _ _ _ _ _ _ _ _ _; first | exact zgn | refine zgs ?_ | refine znd ?_ ?_) | (show AMid _ _ _ _; first | refine zmf ?_ | refine zmg (by first | exact OSub.refl _ | exact .drop (OSub.refl _) | exact .drop (.drop (OSub.refl _))) ?_) | refine gY pk ?_ | (show AL _ _ _ _ _ _ _; first | refine jO tok 0 ?_ | refine jP s1 ?_) | fail)
        repeat (first | refine gN pk ?_ | (show AL _ _ _ _ _ _ _; first | refine jO tok 0 ?_ | refine zba tok rfl rfl rfl rfl rfl rfl rfl rfl (by decide) (fun lv => ?_) | refine zak tok 2 rfl rfl rfl rfl rfl rfl (by decide) rfl rfl rfl rfl (by omega) (by omega) (fun w hw => ?_)))
        exact ⟨i + 1, vr, w, by omega, by omega, .sub (by exact subQ) (by rw [hr, hg, List.map_append]; exact .drop (OSub.refl _))⟩
      · rw [decide_eq_false hin] at s1
        have hh : ¬ hasB false d (m1, m2) = true := fun hx => hin (of_decide_eq_true hx)
        rw [if_neg hh] at hr hg
        rw [List.append_nil] at hg
        have hll : lesB false d (m1, m2) = (m1.map (les d), m2) := rfl
        rw [hll] at hr
        repeat (first | refine gN pk ?_ | (show AL _ _ _ _ _ _ _; first | refine jX tok xk ?_ | refine jL tok (fun um => ?_) | refine jS tok 0 ?_))
        refine zrg ((List.range 6).map fun i => if inL [5] i = true then .eff else if inL [2, 4] i = true then .read else .pure) [] [0, 1, 2, 3, 4, 5] .stop mixed rfl rfl (by decide +kernel) ?_
        repeat' (first | (with_reducible show AG _ _ _ _ _ _ _ _ _ _; first | exact zgn | refine zgs ?_ | refine znd ?_ ?_) | (show AMid _ _ _ _; first | refine zmf ?_ | refine zmg (by first | exact OSub.refl _ | exact .drop (OSub.refl _) | exact .drop (.drop (OSub.refl _))) ?_) | refine gY pk ?_ | (show AL _ _ _ _ _ _ _; first | refine jO tok 0 ?_ | refine jP s1 ?_) | fail)
        repeat (first | refine gN pk ?_)
        refine zrg ((List.range 9).map fun i => if inL [6, 8] i = true then .eff else if inL [3, 5] i = true then .read else .pure) [] [0, 1, 2, 3, 4, 5, 6, 7, 8] .stop mixed rfl rfl (by decide +kernel) ?_
        repeat' (first | (with_reducible show AG _ _ _ _ _ _ _ _ _ _; first | exact zgn | refine zgs ?_ | refine znd ?_ ?_) | (show AMid _ _ _ _; first | refine zmf ?_ | refine zmg (by first | exact OSub.refl _ | exact .drop (OSub.refl _) | exact .drop (.drop (OSub.refl _))) ?_) | refine gY pk ?_ | (show AL _ _ _ _ _ _ _; first | refine jO tok 0 ?_ | refine jP s2 ?_ | refine jS tok 0 ?_) | fail)
        repeat (first | refine gN pk ?_ | (show AL _ _ _ _ _ _ _; first | refine jO tok 0 ?_ | refine zba tok rfl rfl rfl rfl rfl rfl rfl rfl (by decide) (fun lv => ?_) | refine zak tok 1 rfl rfl rfl rfl rfl rfl (by decide) rfl rfl rfl rfl (by omega) (by omega) (fun w hw => ?_)))
        exact ⟨i + 1, w, vg, by omega, by omega, .sub (by exact subQ) (by rw [hr, hg, List.map_append]; exact .drop (OSub.refl _))⟩
    · have s1 := ContainsV_spec m2 (by omega) d
      have s2 := (lower_spec m2 (by omega) b4 d).pure
      by_cases hin : d ∈ m2
      · rw [decide_eq_true hin] at s1
        have hh : hasB true d (m1, m2) = true := decide_eq_true hin
        rw [if_pos hh] at hr hg
        rw [List.append_nil] at hr
        repeat (first | refine gN pk ?_ | (show AL _ _ _ _ _ _ _; first | refine jX tok xk ?_ | refine jL tok (fun um => ?_) | refine jS tok 0 ?_))
        refine zrg ((List.range 6).map fun i => if inL [5] i = true then .eff else if inL [2, 4] i = true then .read else .pure) [] [0, 1, 2, 3, 4, 5] .stop mixed rfl rfl (by decide +kernel) ?_
        repeat' (first | (with_reducible show AG _ _ _ _ _ _ _ _ _ _; first | exact zgn | refine zgs ?_ | refine znd ?_ ?_) | (show AMid _ _ _ _; first | refine zmf ?_ | refine zmg (by first | exact OSub.refl _ | exact .drop (OSub.refl _) | exact .drop (.drop (OSub.refl _))) ?_) | refine gY pk ?_ | (show AL _ _ _ _ _ _ _; first | refine jO tok 0 ?_ | refine jP s1 ?_) | fail)
        repeat (first | refine gN pk ?_ | (show AL _ _ _ _ _ _ _; first | refine jO tok 0 ?_ | refine zba tok rfl rfl rfl rfl rfl rfl rfl rfl (by decide) (fun lv => ?_) | refine zak tok 2 rfl rfl rfl rfl rfl rfl (by decide) rfl rfl rfl rfl (by omega) (by omega) (fun w hw => ?_)))
        exact ⟨i + 1, vr, w, by omega, by omega, .sub (by exact subQ) (by rw [hr, hg, List.map_append]; exact .drop (OSub.refl _))⟩
      · rw [decide_eq_false hin] at s1
        have hh : ¬ hasB true d (m1, m2) = true := fun hx => hin (of_decide_eq_true hx)
        rw [if_neg hh] at hr hg
        rw [List.append_nil] at hg
        have hll : lesB true d (m1, m2) = (m1, m2.map (les d)) := rfl
        rw [hll] at hr
        repeat (first | refine gN pk ?_ | (show AL _ _ _ _ _ _ _; first | refine jX tok xk ?_ | refine jL tok (fun um => ?_) | refine jS tok 0 ?_))
        refine zrg ((List.range 6).map fun i => if inL [5] i = true then .eff else if inL [2, 4] i = true then .read else .pure) [] [0, 1, 2, 3, 4, 5] .stop mixed rfl rfl (by decide +kernel) ?_
        repeat' (first | (with_reducible show AG _ _ _ _ _ _ _ _ _ _; first | exact zgn | refine zgs ?_ | refine znd ?_ ?_) | (show AMid _ _ _ _; first | refine zmf ?_ | refine zmg (by first | exact OSub.refl _ | exact .drop (OSub.refl _) | exact .drop (.drop (OSub.refl _))) ?_) | refine gY pk ?_ | (show AL _ _ _ _ _ _ _; first | refine jO tok 0 ?_ | refine jP s1 ?_) | fail)
        repeat (first | refine gN pk ?_)
        refine zrg ((List.range 9).map fun i => if inL [6, 8] i = true then .eff else if inL [3, 5] i = true then .read else .pure) [] [0, 1, 2, 3, 4, 5, 6, 7, 8] .stop mixed rfl rfl (by decide +kernel) ?_
        repeat' (first | (with_reducible show AG _ _ _ _ _ _ _ _ _ _; first | exact zgn | refine zgs ?_ | refine znd ?_ ?_) | (show AMid _ _ _ _; first | refine zmf ?_ | refine zmg (by first | exact OSub.refl _ | exact .drop (OSub.refl _) | exact .drop (.drop (OSub.refl _))) ?_) | refine gY pk ?_ | (show AL _ _ _ _ _ _ _; first | refine jO tok 0 ?_ | refine jP s2 ?_ | refine jS tok 0 ?_) | fail)
        repeat (first | refine gN pk ?_ | (show AL _ _ _ _ _ _ _; first | refine jO tok 0 ?_ | refine zba tok rfl rfl rfl rfl rfl rfl rfl rfl (by decide) (fun lv => ?_) | refine zak tok 1 rfl rfl rfl rfl rfl rfl (by decide) rfl rfl rfl rfl (by omega) (by omega) (fun w hw => ?_)))
        exact ⟨i + 1, w, vg, by omega, by omega, .sub (by exact subQ) (by rw [hr, hg, List.map_append]; exact .drop (OSub.refl _))⟩
  · obtain rfl : i = l.length := by omega
    rw [List.take_length]
    refine a_frz 1 7 rfl rfl ?_
    refine a_frz 0 6 rfl rfl ?_
    repeat (first | refine gA pk ?_)
    exact fin (x := .tup [mosA _, mosA _]) (.inr rfl) rfl (Sub.refl _) ⟨rfl, rfl⟩ (OSub.none _)
end Go.Proofs.YtddohheabpiljaaGreat
end
