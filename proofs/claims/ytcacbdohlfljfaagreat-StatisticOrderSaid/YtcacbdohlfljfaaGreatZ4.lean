/-
  Counts: the number of a key, a number added: the walks of the program. Conditions: short sorted rows, small numbers.
-/
import Derived.Test.YtcacbdohlfljfaaGreatSjQ8
import Derived.Test.YtcacbdohlfljfaaGreatZ3
namespace Go.Proofs.YtcacbdohlfljfaaGreat
open Go.Sj Go.Sj.Typ Go.Sj.Sta
set_option linter.unusedVariables false
set_option linter.unusedSimpArgs false
set_option maxHeartbeats 4000000

theorem has1_spec (c : Cnt) (k : Int) : Pure Tryz.prog 78 [.agg (cCnt c), .ip [AI k]] (AB (decide (c.ty = k))) := by
  obtain ⟨c1, c2, c3, c4⟩ := c
  show Pure Tryz.prog 78 [.agg [AI c1, AI c2, AI c3, AI c4], .ip [AI k]] (AB (decide (c1 = k)))
  refine a_enter Tryz.func78 (by kernel_rfl) rfl Tryz.ntmps78 rfl (by simp) ?_; refine a_seq ?_; refine a_reg ?_; (repeat (first | refine gZ pk ?_ | (show AL _ _ _ _ _ _ _; first | refine jB (fun u => ?_)))); refine a_frzBox 0 2 rfl rfl ?_
  repeat' (first | refine gA pk ?_ | (show AL _ _ _ _ _ _ _; first | (refine s_cmp rfl rfl rfl rfl rfl rfl rfl (fun hb => ?_) (fun hb => ?_) <;> simp only [cmpP] at hb)) | fail)
  all_goals first | ((refine finQ ?_); exact ⟨ABt (by omega), rfl⟩) | ((refine finQ ?_); exact ⟨ABf (by omega), rfl⟩)
theorem has_spec (s : Sta) (k : Int) (hl : s.nodes.length ≤ 1000) : Pure Tryz.prog 45 [staA s, AI k] (AB (hasB s.nodes k)) := by
  have s1 := ContainsFuncC_spec s.nodes (by omega) 78 [.ip [AI k]] (fun c => decide (c.ty = k)) (fun c _ => has1_spec c k)
  unfold hasB
  generalize s.nodes.any (fun c => decide (c.ty = k)) = b at *
  refine a_enter Tryz.func45 (by kernel_rfl) rfl Tryz.ntmps45 rfl (by simp) ?_
  refine a_seq ?_
  refine a_reg ?_
  repeat (first | refine gZ pk ?_ | (show AL _ _ _ _ _ _ _; first | refine jB (fun u => ?_)))
  refine a_frzBox 0 3 rfl rfl ?_
  refine a_frzBox 0 2 rfl rfl ?_
  repeat (first | refine gA pk ?_ | (show AL _ _ _ _ _ _ _; first | refine jP s1 ?_))
  refine finQ ?_
  exact ⟨rfl, rfl⟩
theorem touch1_spec (c : Cnt) (k : Int) : Pure Tryz.prog 58 [.agg (cCnt c), .ip [AI k]] (AB (decide (c.fr = k ∨ c.to = k))) := by
  obtain ⟨c1, c2, c3, c4⟩ := c
  show Pure Tryz.prog 58 [.agg [AI c1, AI c2, AI c3, AI c4], .ip [AI k]] (AB (decide (c2 = k ∨ c3 = k)))
  refine a_enter Tryz.func58 (by kernel_rfl) rfl Tryz.ntmps58 rfl (by simp) ?_; refine a_seq ?_; refine a_reg ?_; (repeat (first | refine gZ pk ?_ | (show AL _ _ _ _ _ _ _; first | refine jB (fun u => ?_)))); refine a_frzBox 0 2 rfl rfl ?_
  repeat' (first | refine gA pk ?_ | (show AL _ _ _ _ _ _ _; first | (refine s_cmp rfl rfl rfl rfl rfl rfl rfl (fun hb => ?_) (fun hb => ?_) <;> simp only [cmpP] at hb)) | fail)
  all_goals first | ((refine finQ ?_); exact ⟨ABt (by omega), rfl⟩) | ((refine finQ ?_); exact ⟨ABf (by omega), rfl⟩)
theorem bin_spec (l : List Cnt) (hs : Srt l) (hl : l.length ≤ 1000) (hm : ∀ c ∈ l, smC c) (x : Cnt) (hx : smC x) :
    Pure Tryz.prog 69 [cntsA l, .agg (cCnt x), .fn (.func 42) [] []] (.tup [AI (plc l x), AB (fndB l x)]) :=
  BinC_spec l hs hl x _ (fun c hc => compare_spec c x (hm c hc) hx)
theorem bin_lend (l : List Cnt) (hs : Srt l) (hl : l.length ≤ 1000) (hm : ∀ c ∈ l, smC c) (x : Cnt) (hx : smC x) (v : Value) :
    ACalls Tryz.prog 69 [.lit v, .agg (cCnt x), .fn (.func 42) [] []] [(v, .row 75 4 (l.map cCnt))]
      (fun y L => y = .tup [AI (plc l x), AB (fndB l x)] ∧ L = [(v, .row 75 4 (l.map cCnt))]) :=
  (ACalls.lendZ (v := v) (E := 75) (args' := [.lit v, .agg (cCnt x), .fn (.func 42) [] []]) (bin_spec l hs hl hm x hx) ⟨FZ.here, FZ.refl _, FZ.refl _, trivial⟩ (by
    rintro _ _ ⟨rfl, rfl⟩
    exact ⟨.tup _ (fun x hx => by simp at hx; rcases hx with rfl | rfl <;> exact .lit _), fun p hp => by cases hp⟩)).mono (by
    rintro _ _ ⟨_, ⟨rfl, rfl⟩, rfl⟩
    exact ⟨rfl, rfl⟩)
theorem number_spec (l : List Cnt) (hs : Srt l) (hl : l.length ≤ 1000) (hm : ∀ c ∈ l, smC c) (x : Cnt) (hx : smC x) : Pure Tryz.prog 55 [cntsA l, .agg (cCnt x)] (AI (numK l x)) := by
  have s1 := bin_spec l hs hl hm x hx
  have ll : (l.map cCnt).length = l.length := by simp
  by_cases hf : ∃ c, l[plc l x]? = some c ∧ keq c x
  · obtain ⟨c, hc, hk⟩ := hf
    have hn := numK_plc hs hc hk
    have hb : fndB l x = true := by unfold fndB; rw [hc]; exact decide_eq_true hk
    rw [hb] at s1
    rw [hn]
    have xk : (l.map cCnt)[((plc l x : Nat) : Int).toNat]? = some (cCnt c) := map_get hc
    have hlt := (List.getElem?_eq_some_iff.1 hc).1
    generalize plc l x = p at *
    obtain ⟨c1, c2, c3, c4⟩ := c
    have xk : (l.map cCnt)[(p : Int).toNat]? = some [AI c1, AI c2, AI c3, AI c4] := xk
    show Pure Tryz.prog 55 [cntsA l, .agg (cCnt x)] (AI c4)
    refine a_enter Tryz.func55 (by kernel_rfl) rfl Tryz.ntmps55 rfl (by simp) ?_; refine a_seq ?_; refine a_reg ?_; (repeat (first | refine gZ pk ?_ | (show AL _ _ _ _ _ _ _; first | refine jB (fun u => ?_)))); refine a_frzBox 0 3 rfl rfl ?_
    repeat (first | refine gA pk ?_ | (show AL _ _ _ _ _ _ _; first | refine jP s1 ?_ | refine jX tok xk ?_))
    refine finQ ?_
    exact ⟨rfl, rfl⟩
  · have hn := numK_none hs (fun c hc hk => hf ⟨c, hc, hk⟩)
    have hb : fndB l x = false := by
      unfold fndB
      cases hc : l[plc l x]? with
      | none => rfl
      | some c => exact decide_eq_false (fun hk => hf ⟨c, hc, hk⟩)
    rw [hb] at s1
    rw [hn]
    generalize plc l x = p at *
    refine a_enter Tryz.func55 (by kernel_rfl) rfl Tryz.ntmps55 rfl (by simp) ?_; refine a_seq ?_; refine a_reg ?_; (repeat (first | refine gZ pk ?_ | (show AL _ _ _ _ _ _ _; first | refine jB (fun u => ?_)))); refine a_frzBox 0 3 rfl rfl ?_
    repeat (first | refine gA pk ?_ | (show AL _ _ _ _ _ _ _; first | refine jP s1 ?_))
    refine finQ ?_
    exact ⟨rfl, rfl⟩
theorem copied_spec (s : Sta) (h1 : s.nodes.length ≤ 1000) (h2 : s.edges.length ≤ 1000) : Pure Tryz.prog 56 [staA s] (staA s) := by
  have s1 := (CloneC_spec s.nodes (by omega)).pure
  have s2 := (CloneC_spec s.edges (by omega)).pure
  refine a_enterC Tryz.func56 (by kernel_rfl) rfl Tryz.ntmps56 rfl (tok _ _ rfl) (by simp) ?_
  refine a_seq ?_
  refine a_reg ?_
  repeat (first | refine gZ pk ?_ | (show AL _ _ _ _ _ _ _; first | refine jB (fun u => ?_) | refine jL tok (fun u => ?_)))
  refine a_frzBox 1 1 rfl rfl ?_
  repeat (first | (show AWp _ _ _ _ _ _; first | refine a_seq ?_ | refine a_reg ?_ | refine a_regO [0, 1, 3, 4, 2, 5, 6, 7] mixed rfl rfl (by decide +kernel) ?_ | refine a_condT rfl ?_ | refine a_condF rfl ?_ | refine a_skip ?_ | refine a_exit ?_ | refine a_block ?_) | refine gY pk ?_ | (show AL _ _ _ _ _ _ _; first | refine jP s1 ?_ | refine jP s2 ?_ | refine jS tok 0 ?_))
  refine a_frzBox 0 2 rfl rfl ?_
  repeat (first | refine gA pk ?_)
  exact ⟨.inr rfl, _, _, _, _, rfl, rfl, Turn.of (Sub.of_eq rfl) (OSub.refl _), rfl, rfl⟩
theorem obat_cnt {E : Nat} {l : List Cnt} {j : Nat} {y : Cnt} (h : l[j]? = some y) : obAt (.row E 4 (l.map cCnt)) j (0 + 3) = some [AI y.nu] := by
  simp only [obAt, List.getElem?_map, h, Option.map_some]; rfl
theorem obset_cnt {E : Nat} {l : List Cnt} {j : Nat} {y : Cnt} (h : l[j]? = some y) (z : Int) : obSet (.row E 4 (l.map cCnt)) j (0 + 3) [AI z] = .row E 4 ((l.set j ⟨y.ty, y.fr, y.to, z⟩).map cCnt) := by
  simp only [obSet, List.map_set]
  congr 2
  rw [List.getD_eq_getElem?_getD, List.getElem?_map, h]
  rfl
theorem counted_spec (l : List Cnt) (hs : Srt l) (hl : l.length ≤ 500) (hm : ∀ c ∈ l, smC c ∧ -1000 ≤ c.nu ∧ c.nu ≤ 1000) (x : Cnt) (hx : smC x ∧ -1000 ≤ x.nu ∧ x.nu ≤ 1000) :
    Pure Tryz.prog 36 [cntsA l, .agg (cCnt x)] (cntsA (addC l x)) := by
  have s1 := CloneC_spec l (by omega)
  have s2 := bin_lend l hs (by omega) (fun c hc => (hm c hc).1) x hx.1
  have ll : (l.map cCnt).length = l.length := by simp
  by_cases hf : ∃ c, l[plc l x]? = some c ∧ keq c x
  · obtain ⟨c, hc, hk⟩ := hf
    have ha := addC_old hc hk
    have hcm := (hm c (List.mem_of_getElem? hc)).2
    have hb : fndB l x = true := by unfold fndB; rw [hc]; exact decide_eq_true hk
    rw [hb] at s2
    have hlt := (List.getElem?_eq_some_iff.1 hc).1
    have s3 := DeleteC_spec l (plc l x) hlt (by omega)
    have o1 := obat_cnt (E := 75) hc
    have o2 := obset_cnt (E := 75) hc (c.nu + x.nu)
    have hset : l.set (plc l x) (addN c x) = l.take (plc l x) ++ ([addN c x] ++ l.drop (plc l x + 1)) := by
      rw [List.set_eq_take_append_cons_drop, if_pos hlt]; rfl
    have hxm := hx.2
    obtain ⟨x1, x2, x3, x4⟩ := x
    obtain ⟨c1, c2, c3, c4⟩ := c
    simp only at hcm hxm o1 o2
    have X1 : Pure Tryz.prog 36 [cntsA l, .agg [AI x1, AI x2, AI x3, AI x4]] (cntsA (addC l ⟨x1, x2, x3, x4⟩)) → Pure Tryz.prog 36 [cntsA l, .agg (cCnt ⟨x1, x2, x3, x4⟩)] (cntsA (addC l ⟨x1, x2, x3, x4⟩)) := fun h => h
    refine X1 ?_
    by_cases hz : c4 + x4 = 0
    · rw [if_pos hz, List.nil_append] at ha
      rw [ha]
      generalize plc l ⟨x1, x2, x3, x4⟩ = p at *
      refine a_enter Tryz.func36 (by kernel_rfl) rfl Tryz.ntmps36 rfl (by simp) ?_; refine a_seq ?_; refine a_reg ?_; (repeat (first | refine gZ pk ?_ | (show AL _ _ _ _ _ _ _; first | refine jB (fun u => ?_)))); refine a_frzBox 0 3 rfl rfl ?_
      repeat (first | (show AWp _ _ _ _ _ _; first | refine a_regR mixed (by decide +kernel) ?_) | refine gN pk ?_ | (show AL _ _ _ _ _ _ _; first | refine s_callG rfl rfl rfl rfl rfl (s1) (SubL.of_eq rfl) (fun v => ?_) | refine s_callO 0 rfl rfl rfl rfl rfl rfl (s2 _) (SubL.of_eq rfl) ?_))
      rintro _ _ ⟨rfl, rfl⟩
      repeat (first | (show AWp _ _ _ _ _ _; first | refine a_regR mixed (by decide +kernel) ?_) | refine gN pk ?_ | (show AL _ _ _ _ _ _ _; first | refine s_ownIndex tok 0 rfl rfl rfl rfl (by decide) rfl rfl rfl rfl rfl rfl (by omega) (by omega) ?_ | refine s_ownLoad tok 0 rfl rfl rfl rfl (by decide) rfl rfl rfl rfl o1 rfl (List.cons_ne_nil _ _) ?_ | refine s_callO 0 rfl rfl rfl rfl rfl rfl (s3 _) (SubL.of_eq rfl) ?_))
      rintro _ _ ⟨v', rfl, rfl⟩
      repeat (first | (show AWp _ _ _ _ _ _; first | refine a_regR mixed (by decide +kernel) ?_) | refine gN pk ?_)
      exact finF 0 (x := .lit _) (.inr rfl) rfl rfl FZ.here ⟨rfl, rfl⟩
    · rw [if_neg hz, ← hset] at ha
      rw [ha]
      generalize plc l ⟨x1, x2, x3, x4⟩ = p at *
      refine a_enter Tryz.func36 (by kernel_rfl) rfl Tryz.ntmps36 rfl (by simp) ?_; refine a_seq ?_; refine a_reg ?_; (repeat (first | refine gZ pk ?_ | (show AL _ _ _ _ _ _ _; first | refine jB (fun u => ?_)))); refine a_frzBox 0 3 rfl rfl ?_
      repeat (first | (show AWp _ _ _ _ _ _; first | refine a_regR mixed (by decide +kernel) ?_) | refine gN pk ?_ | (show AL _ _ _ _ _ _ _; first | refine s_callG rfl rfl rfl rfl rfl (s1) (SubL.of_eq rfl) (fun v => ?_) | refine s_callO 0 rfl rfl rfl rfl rfl rfl (s2 _) (SubL.of_eq rfl) ?_))
      rintro _ _ ⟨rfl, rfl⟩
      repeat (first | (show AWp _ _ _ _ _ _; first | refine a_regR mixed (by decide +kernel) ?_) | refine gN pk ?_ | (show AL _ _ _ _ _ _ _; first | refine s_ownIndex tok 0 rfl rfl rfl rfl (by decide) rfl rfl rfl rfl rfl rfl (by omega) (by omega) ?_ | refine s_ownLoad tok 0 rfl rfl rfl rfl (by decide) rfl rfl rfl rfl o1 rfl (List.cons_ne_nil _ _) ?_ | refine s_storeQ tok 0 rfl rfl rfl rfl rfl rfl rfl rfl (by decide) rfl rfl o1 (Nat.le_refl _) o2 ?_))
      refine a_regRO [0, 1, 2, 3, 4, 5, 6, 7, 8, 9, 10] mixed rfl rfl (by decide +kernel) ?_
      repeat (first | (show AWp _ _ _ _ _ _; first | refine a_regR mixed (by decide +kernel) ?_) | refine gN pk ?_ | (show AL _ _ _ _ _ _ _; first | refine s_ownIndex tok 0 rfl rfl rfl rfl (by decide) rfl rfl rfl rfl rfl rfl (by omega) (by omega) ?_ | refine s_ownLoad tok 0 rfl rfl rfl rfl (by decide) rfl rfl rfl rfl o1 rfl (List.cons_ne_nil _ _) ?_ | refine s_storeQ tok 0 rfl rfl rfl rfl rfl rfl rfl rfl (by decide) rfl rfl o1 (Nat.le_refl _) o2 ?_))
      exact finF 0 (x := .lit _) (.inr rfl) rfl rfl FZ.here ⟨rfl, rfl⟩
  · have ha := addC_new (l := l) (x := x) (fun c hc hk => hf ⟨c, hc, hk⟩)
    have hb : fndB l x = false := by
      unfold fndB
      cases hc : l[plc l x]? with
      | none => rfl
      | some c => exact decide_eq_false (fun hk => hf ⟨c, hc, hk⟩)
    rw [hb] at s2
    have s3 := InsertC_spec l x (plc l x) (plc_le l x) (by omega)
    rw [ha]
    generalize plc l x = p at *
    refine a_enter Tryz.func36 (by kernel_rfl) rfl Tryz.ntmps36 rfl (by simp) ?_; refine a_seq ?_; refine a_reg ?_; (repeat (first | refine gZ pk ?_ | (show AL _ _ _ _ _ _ _; first | refine jB (fun u => ?_)))); refine a_frzBox 0 3 rfl rfl ?_
    repeat (first | (show AWp _ _ _ _ _ _; first | refine a_regR mixed (by decide +kernel) ?_) | refine gN pk ?_ | (show AL _ _ _ _ _ _ _; first | refine s_callG rfl rfl rfl rfl rfl (s1) (SubL.of_eq rfl) (fun v => ?_) | refine s_callO 0 rfl rfl rfl rfl rfl rfl (s2 _) (SubL.of_eq rfl) ?_))
    rintro _ _ ⟨rfl, rfl⟩
    repeat (first | (show AWp _ _ _ _ _ _; first | refine a_regR mixed (by decide +kernel) ?_) | refine gN pk ?_ | (show AL _ _ _ _ _ _ _; first | refine s_build1A tok rfl rfl rfl rfl rfl rfl rfl rfl (by decide) (fun u => ?_)))
    refine s_call (Lc := [(_, .row 75 4 (l.map cCnt)), (_, .row 75 4 [cCnt x])]) (Lr := []) rfl rfl rfl rfl rfl (s3 _ _) (SubL.of_eq rfl) (List.Perm.swap _ _ _) ?_
    rintro _ _ ⟨v', rfl, rfl⟩
    repeat (first | (show AWp _ _ _ _ _ _; first | refine a_regR mixed (by decide +kernel) ?_) | refine gN pk ?_)
    exact finF 0 (x := .lit _) (.inr rfl) rfl rfl FZ.here ⟨rfl, rfl⟩
end Go.Proofs.YtcacbdohlfljfaaGreat
