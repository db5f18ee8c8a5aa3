/-
  The law on codes that are read: the walk.
-/
import Derived.Test.YtoaenbfidlgjhaaSjQ8
import Derived.Test.YtoaenbfidlgjhaaW31
import Derived.Test.YtoaenbfidlgjhaaW26
namespace Go.Proofs.Ytoaenbfidlgjhaa
open Go.Sj Go.Sj.Typ Go.Sj.Sta Go.Sj.Can
set_option linter.unusedVariables false
set_option linter.unusedSimpArgs false
set_option maxHeartbeats 16000000

theorem codeIn_id {g : Gr} {c : List Int} (hg : GV g) (hn : g.nodes.length ≤ 8) (hc : cd (nN g) (tT g) g.nodes.length (rngI g.nodes.length) = c) : codeInR g (rngI g.nodes.length) = (c, 0) := by
  have hC := Cpl.id g.nodes.length
  have h0 : codeInE g (rngI g.nodes.length) = 0 := by
    unfold codeInE
    rw [if_neg (Decidable.not_not.2 (cvalid_zero.2 ⟨hg, hn⟩)), if_neg (Decidable.not_not.2 hC.len), if_neg, if_neg (Decidable.not_not.2 hC.po.nd)]
    intro ha
    obtain ⟨x, hx, hb⟩ := List.any_eq_true.1 ha
    have hr := hC.po.rng x hx
    unfold rngB at hb
    simp only [Bool.or_eq_true, decide_eq_true_eq] at hb
    omega
  unfold codeInR
  rw [if_neg (Decidable.not_not.2 h0), hc]
theorem CanonDecode_spec (c : List Int) (hc : c.length ≤ 140737488355328) : Pure Try.prog 10 [ints c] (AB true) := by
  have hw := awakeC_spec
  have lc : (rowI c).length = c.length := by simp
  by_cases h200 : c.length ≤ 200
  · have s1 := (CloneN_spec c (by omega)).pure
    have s2 := CDecode_spec c (by omega)
    have s3 := GDecode_spec c (by omega)
    cases hd : dec c with
    | none =>
      have hr : decR c = (⟨[], []⟩, 2) := by unfold decR; rw [hd]
      rw [hr] at s2 s3
      have s4 := gSame_spec ⟨[], []⟩ ⟨[], []⟩ ⟨by decide, by decide⟩ ⟨by decide, by decide⟩
      rw [gSame_self] at s4
      refine a_enter Try.func10 (by kernel_rfl) rfl Try.ntmps10 rfl (by simp) ?_
      repeat (first | refine gA pk ?_ | (show AL _ _ _ _ _ _ _; first | refine jP hw ?_ | refine jP s1 ?_ | refine jP s2 ?_ | refine jP s3 ?_ | refine jP s4 ?_ | refine jL tok (fun u => ?_) | refine jS tok 0 ?_ | refine jO tok 0 ?_ | refine jO tok 1 ?_))
      refine finQ ?_
      exact ⟨rfl, rfl⟩
    | some g =>
      have hr : decR c = (g, 0) := by unfold decR; rw [hd]
      rw [hr] at s2 s3
      obtain ⟨hg, hn, hS, hcd⟩ := dec_some hd
      have hel := hg.el
      have s4 := gSame_spec g g ⟨by omega, by omega⟩ ⟨by omega, by omega⟩
      rw [gSame_self] at s4
      have s5 := (Numbers_spec 0 (by omega) g.nodes.length (by omega)).pure
      have s6 := CodeIn_spec g (gv_ok hg) (fun _ => .inr hS) (rngI g.nodes.length) (by simp; omega)
      rw [codeIn_id hg hn hcd] at s6
      have s7 := Equal_spec c c (by omega) (by omega)
      rw [decide_eq_true rfl] at s7
      clear hS hcd hd hr hg
      obtain ⟨gn, ge⟩ := g
      simp only at *
      have lgn : (rowI gn).length = gn.length := by simp
      replace s5 : Pure Try.prog 29 [AI 0, AI (rowI gn).length] (ints (rngI gn.length)) := by
        rw [lgn]
        have hz : (List.range gn.length).map (fun i : Nat => (0 : Int) + i) = rngI gn.length := by unfold rngI; simp
        rw [hz] at s5
        exact s5
      change Pure _ _ _ (.tup [.agg [ints gn, .im 3 (ge.map cEd)], AI 0]) at s2
      change Pure _ _ _ (.tup [.agg [ints gn, .im 3 (ge.map cEd)], AI 0]) at s3
      change Pure _ _ [.agg [ints gn, .im 3 (ge.map cEd)], .agg [ints gn, .im 3 (ge.map cEd)]] _ at s4
      change Pure _ _ [.agg [ints gn, .im 3 (ge.map cEd)], ints (rngI gn.length)] (.tup [ints c, AI 0]) at s6
      refine a_enter Try.func10 (by kernel_rfl) rfl Try.ntmps10 rfl (by simp) ?_
      repeat (first | refine gN pk ?_ | (show AL _ _ _ _ _ _ _; first | refine jP hw ?_ | refine jP s1 ?_ | refine jP s2 ?_ | refine jP s3 ?_ | refine jP s4 ?_ | refine jL tok (fun u => ?_) | refine jS tok 0 ?_ | refine jO tok 0 ?_ | refine jO tok 1 ?_))
      refine a_frzBox 1 3 rfl rfl ?_
      refine a_regG ((List.range 11).map fun i => if inL [4, 5] i = true then .eff else .pure) [] [0, 1, 2, 3, 4, 5, 6, 7, 8, 9, 10] .stop mixed rfl rfl (by decide +kernel) ?_
      repeat' (first | (with_reducible show AG _ _ _ _ _ _ _ _ _ _; first | exact ag_none | refine ag_stop ?_ | refine ag_nd ?_ ?_) | (show AMid _ _ _ _; first | refine amid_f ?_ | refine amid_g (by first | exact OSub.refl _ | exact .drop (OSub.refl _) | exact .drop (.drop (OSub.refl _))) ?_) | refine gY pk ?_ | (show AL _ _ _ _ _ _ _; first | refine jP s5 ?_ | refine jP s6 ?_) | fail)
      repeat (first | refine gA pk ?_ | (show AL _ _ _ _ _ _ _; first | refine jP s7 ?_))
      refine finQ ?_
      exact ⟨rfl, rfl⟩
  · refine a_enter Try.func10 (by kernel_rfl) rfl Try.ntmps10 rfl (by simp) ?_
    repeat (first | refine gA pk ?_ | (show AL _ _ _ _ _ _ _; first | refine jP hw ?_))
    refine finQ ?_
    exact ⟨rfl, rfl⟩
end Go.Proofs.Ytoaenbfidlgjhaa
