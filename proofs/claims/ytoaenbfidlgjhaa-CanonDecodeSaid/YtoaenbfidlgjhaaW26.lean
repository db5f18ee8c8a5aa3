/-
  The law on reordered graphs: the walk.
-/
import Derived.Test.YtoaenbfidlgjhaaSjQ8
import Derived.Test.YtoaenbfidlgjhaaW24
import Derived.Test.YtoaenbfidlgjhaaW25
import Derived.Test.YtoaenbfidlgjhaaW19
namespace Go.Proofs.Ytoaenbfidlgjhaa
open Go.Sj Go.Sj.Typ Go.Sj.Sta Go.Sj.Can
set_option linter.unusedVariables false
set_option linter.unusedSimpArgs false
set_option maxHeartbeats 16000000

theorem gv_ok {g : Gr} (h : GV g) : OkG g := ⟨by have := h.nl; omega, by have := h.el; omega⟩
theorem cmpR_eq {a b : Gr} (ha : GV a) (hb : GV b) (na : a.nodes.length ≤ 8) (nb : b.nodes.length ≤ 8) : cmpR a b = (cmpL (codG a) (codG b), 0) := by
  have h1 := cvalid_zero.2 ⟨ha, na⟩
  have h2 := cvalid_zero.2 ⟨hb, nb⟩
  unfold cmpR
  rw [if_neg (Decidable.not_not.2 h1), if_neg (Decidable.not_not.2 h2)]
theorem canR_eq {g : Gr} (h : GV g) (n : g.nodes.length ≤ 8) : canR g = (canG g, canM g, 0) := by
  have h1 := cvalid_zero.2 ⟨h, n⟩
  unfold canR
  rw [if_neg (Decidable.not_not.2 h1)]
theorem COf_ok {g : Gr} (h : GV g) (n : g.nodes.length ≤ 8) (m : g.edges.length < 20) : Pure Try.prog 21 [grA g] (cRes (canG g, canM g, 0)) := by
  have := COf_spec g (gv_ok h) (fun _ => .inl m)
  rw [canR_eq h n] at this
  exact this
theorem CanonReordered_spec (d : Dr5) (hd : OkD5 d) (cs : List Int) (hc : (∀ m ∈ cs, 0 ≤ m ∧ m ≤ 255) ∧ cs.length ≤ 140737488355328) : Pure Try.prog 7 [dr5A d, bytesA cs] (AB true) := by
  have hw := awakeC_spec
  have l1 : (d.nodes.map c8).length = d.nodes.length := by simp
  have l2 : (d.edges.map c83).length = d.edges.length := by simp
  have l3 : (cs.map c8).length = cs.length := by simp
  have k1 := hd.nl
  have k2 := hd.gl
  have k3 := hc.2
  by_cases hl : d.nodes.length ≤ 7 ∧ d.edges.length ≤ 10 ∧ cs.length ≤ 20
  · have s1 := gMade_spec d hd
    obtain ⟨e1, e2⟩ := made5_len d
    have hG := made5_gv d
    obtain ⟨dn, de⟩ := d
    change Pure _ _ [.agg [bytesA dn, .im 3 (de.map c83)]] _ at s1
    change Pure _ _ [.agg [bytesA dn, .im 3 (de.map c83)], bytesA cs] _
    generalize made5 ⟨dn, de⟩ = g at *
    simp only at hl e1 e2 l1 l2 k1 k2
    have hn : g.nodes.length ≤ 7 := by omega
    clear e1
    have s2 := Shuffle_spec g.nodes.length (by omega) cs hc
    have s3 := Shuffle_spec g.edges.length (by omega) cs hc
    have hp := shf_prm g.nodes.length cs
    have hq := shf_prm g.edges.length cs
    have s4 := gReorder_spec g hG _ _ hp hq
    have hH := reG_gv hG hp hq
    have hr := reG_can hG hp hq
    have hco := reG_code hG hp hq
    have hhn := (reG_n hG hp hq).length_eq
    have hhe := (reG_e hG hp hq).length_eq
    rw [List.length_map] at hhe
    generalize shf g.nodes.length cs = p at *
    generalize shf g.edges.length cs = q at *
    generalize reG g p q = h at *
    have hC := canG_valid hG
    obtain ⟨c1, c2⟩ := canG_len hG
    have s5 := COf_ok hG (by omega) (by omega)
    have s6 := COf_ok hH (by omega) (by omega)
    have s7 := COf_ok hC (by omega) (by omega)
    have s8 := CCompare_spec g h (gv_ok hG) (gv_ok hH) (fun _ => .inl (by omega)) (fun _ => .inl (by omega))
    rw [cmpR_eq hG hH (by omega) (by omega), hco, cmpL_self] at s8
    rw [hr] at s6
    have hid : (canM (canG g)).1 = rngI (canG g).nodes.length := by
      show ms (canG g).nodes.length (ordG (canG g)) = _
      rw [c1]
      exact canM_id hG
    have hcm : canM (canG g) = (rngI (canG g).nodes.length, (canM (canG g)).2) := by rw [← hid]
    rw [canG_can hG, hcm] at s7
    have s9 := gSame_spec (canG g) (canG g) ⟨by omega, by omega⟩ ⟨by omega, by omega⟩
    rw [gSame_self] at s9
    have s10 := (Numbers_spec 0 (by omega) (canG g).nodes.length (by omega)).pure
    rw [rngF_zero] at s10
    have s11 := Equal_spec (rngI (canG g).nodes.length) (rngI (canG g).nodes.length) (by simp; omega) (by simp; omega)
    rw [decide_eq_true rfl] at s11
    generalize (canM (canG g)).2 = m4 at *
    generalize canM g = m1 at *
    generalize canM h = m2 at *
    have h2 : (canG g).nodes.length ≤ 8 := by omega
    clear hr hco hH hC hp hq hid hcm c1 c2 hG
    generalize canG g = c at *
    obtain ⟨cn, ce⟩ := c
    obtain ⟨gn, ge⟩ := g
    obtain ⟨hn', he'⟩ := h
    obtain ⟨a1, a2⟩ := m1
    obtain ⟨b1, b2⟩ := m2
    simp only at *
    have lgn : (rowI gn).length = gn.length := by simp
    have lge : (ge.map cEd).length = ge.length := by simp
    have lcn : (rowI cn).length = cn.length := by simp
    rw [← lgn] at s2
    rw [← lge] at s3
    replace s10 : Pure Try.prog 29 [AI 0, AI (rowI cn).length] (ints (rngI cn.length)) := by rw [lcn]; exact s10
    refine a_enter Try.func7 (by kernel_rfl) rfl Try.ntmps7 rfl (by simp) ?_
    refine a_seq ?_
    refine a_reg ?_
    repeat (first | refine gZ pk ?_ | (show AL _ _ _ _ _ _ _; first | refine jB (fun u => ?_)))
    refine a_frzBox 0 2 rfl rfl ?_
    repeat (first | refine gN pk ?_ | (show AL _ _ _ _ _ _ _; first | refine jP hw ?_ | refine jP s1 ?_ | refine jL tok (fun u => ?_) | refine jS tok 0 ?_))
    refine a_frzBox 0 5 rfl rfl ?_
    refine a_regG ((List.range 19).map fun i => if inL [5, 10, 12, 16, 17] i = true then .eff else if inL [0, 2, 3, 7, 8] i = true then .read else .pure) [5, 10, 16] [0, 1, 2, 3, 4, 6, 7, 8, 9] (.nd 5 [] (.nd 10 [11] (.nd 12 [13, 14, 15] (.nd 16 [17, 18] .stop .stop) (.nd 16 [12, 13, 14, 15, 17, 18] .stop .stop)) (.nd 16 [] (.nd 10 [11, 12, 13, 14, 15, 17, 18] .stop .stop) .stop)) (.nd 16 [] (.nd 5 [] (.nd 10 [11, 12, 13, 14, 15, 17, 18] .stop .stop) .stop) .stop)) mixed rfl rfl (by decide +kernel) ?_
    repeat' (first | (with_reducible show AG _ _ _ _ _ _ _ _ _ _; first | exact ag_none | refine ag_stop ?_ | refine ag_nd ?_ ?_) | (show AMid _ _ _ _; first | refine amid_f ?_ | refine amid_g (by first | exact OSub.refl _ | exact .drop (OSub.refl _) | exact .drop (.drop (OSub.refl _))) ?_) | refine gY pk ?_ | (show AL _ _ _ _ _ _ _; first | refine jP s2 ?_ | refine jP s3 ?_ | refine jP s4 ?_ | refine jL tok (fun u => ?_) | refine jS tok 0 ?_ | refine s_ownLen tok 0 rfl rfl rfl rfl (by decide) rfl rfl rfl ?_) | fail)
    all_goals
      refine a_frzBox 0 6 rfl rfl ?_
      repeat (first | refine gN pk ?_ | (show AL _ _ _ _ _ _ _; first | refine jP s5 ?_ | refine jP s6 ?_ | refine jP s7 ?_ | refine jP s8 ?_ | refine jL tok (fun u => ?_) | refine jS tok 0 ?_ | refine jS tok 1 ?_ | refine jS tok 2 ?_ | refine jS tok 3 ?_ | refine jS tok 4 ?_ | refine jS tok 5 ?_ | refine jO tok 0 ?_ | refine jO tok 1 ?_ | refine jO tok 2 ?_ | refine jO tok 3 ?_ | refine jO tok 4 ?_ | refine jO tok 5 ?_))
      refine a_frzBox 0 15 rfl rfl ?_
      refine a_frzBox 0 14 rfl rfl ?_
      refine a_frzBox 1 11 rfl rfl ?_
      refine a_frzBox 2 8 rfl rfl ?_
      refine a_regG ((List.range 42).map fun i => if inL [21, 26, 34, 35] i = true then .eff else if inL [19, 20, 24, 25, 30, 32, 33] i = true then .read else .pure) [34] [0, 1, 2, 3, 4, 5, 6, 7, 8, 9, 10, 11, 12, 13, 14, 15, 16, 17, 18, 19, 20, 21, 22, 23, 24, 25, 26, 27, 28, 29, 30, 31, 32, 33] (.nd 34 [35, 36, 37, 38, 39, 40, 41] .stop .stop) mixed rfl rfl (by decide +kernel) ?_
      repeat' (first | (with_reducible show AG _ _ _ _ _ _ _ _ _ _; first | exact ag_none | refine ag_stop ?_ | refine ag_nd ?_ ?_) | (show AMid _ _ _ _; first | refine amid_f ?_ | refine amid_g (by first | exact OSub.refl _ | exact .drop (OSub.refl _) | exact .drop (.drop (OSub.refl _))) ?_) | refine gY pk ?_ | (show AL _ _ _ _ _ _ _; first | refine jP s9 ?_ | refine jP s10 ?_ | refine jP s11 ?_ | refine s_ownLen tok 0 rfl rfl rfl rfl (by decide) rfl rfl rfl ?_) | fail)
      repeat (first | refine gA pk ?_)
      refine finQ ?_
      exact ⟨rfl, rfl⟩
  · have hc : (7 < d.nodes.length) ∨ (d.nodes.length ≤ 7 ∧ 10 < d.edges.length) ∨ (d.nodes.length ≤ 7 ∧ d.edges.length ≤ 10 ∧ 20 < cs.length) := by omega
    obtain ⟨dn, de⟩ := d
    change Pure _ _ [.agg [bytesA dn, .im 3 (de.map c83)], bytesA cs] _
    simp only at hc l1 l2 k1 k2
    rcases hc with hc | hc | hc
    all_goals
      refine a_enter Try.func7 (by kernel_rfl) rfl Try.ntmps7 rfl (by simp) ?_
      refine a_seq ?_
      refine a_reg ?_
      repeat (first | refine gZ pk ?_ | (show AL _ _ _ _ _ _ _; first | refine jB (fun u => ?_)))
      refine a_frzBox 0 2 rfl rfl ?_
      repeat (first | refine gA pk ?_ | (show AL _ _ _ _ _ _ _; first | refine jP hw ?_))
      refine finQ ?_
      exact ⟨rfl, rfl⟩
end Go.Proofs.Ytoaenbfidlgjhaa
