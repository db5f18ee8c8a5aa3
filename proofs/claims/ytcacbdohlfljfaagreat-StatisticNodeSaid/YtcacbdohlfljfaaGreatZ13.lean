/-
  The statistic of the example, awake: the walk.
-/
import Derived.Test.YtcacbdohlfljfaaGreatSjQ8
import Derived.Test.YtcacbdohlfljfaaGreatZ11
import Derived.Test.YtcacbdohlfljfaaGreatZ9
import Derived.Test.YtcacbdohlfljfaaGreatY19
namespace Go.Proofs.YtcacbdohlfljfaaGreat
open Go.Sj Go.Sj.Typ Go.Sj.Sta
set_option linter.unusedVariables false
set_option maxHeartbeats 8000000

def exG : Gr := ⟨[3, 1, 1], [⟨0, 0, 1⟩, ⟨0, 0, 2⟩]⟩
def exS : Sta := ⟨[⟨1, 0, 0, 2⟩, ⟨3, 0, 0, 1⟩], [⟨0, 3, 1, 2⟩]⟩
theorem exOf : ofR exTys exG = (exS, 0) := by kernel_rfl
theorem exNodes : nodesR exTys exS 0 = (2, 0) := by decide +kernel
theorem exEdges : edgesR exTys exS 0 3 0 = (2, 0) := by decide +kernel
theorem exSame : sameB exS exS = true := by decide +kernel
theorem awakeS_spec : Pure Tryz.prog 10 [] (AB true) := by
  have s0 := Example_spec
  have s1 : Pure Tryz.prog 13 [tysA exTys, .agg [.im 1 [[AI 3], [AI 1], [AI 1]], .im 3 [[AI 0, AI 0, AI 1], [AI 0, AI 0, AI 2]]]] (.tup [staA exS, AI 0]) := by
    have h := Of_spec exTys exSmall exG ⟨by decide, by decide⟩
    rw [exOf] at h
    exact h
  have s2 := Nodes_spec exTys exSmall exS ⟨by decide, by decide⟩ 0
  have s3 := Edges_spec exTys exSmall exS ⟨by decide, by decide⟩ 0 3 0
  have s4 := refSame_spec exS exS ⟨by decide, by decide⟩ ⟨by decide, by decide⟩
  rw [exNodes] at s2
  rw [exEdges] at s3
  rw [exSame] at s4
  generalize exTys.nodes = N at *
  generalize exTys.edges = E at *
  refine a_enter Tryz.func10 (by kernel_rfl) rfl Tryz.ntmps10 rfl (by simp) ?_
  (repeat (first | refine a_seq ?_ | refine a_block ?_)); refine a_reg ?_
  repeat (first | refine a_seq ?_ | refine tL tok ?_ | refine tI tok ?_ | refine tP tok ?_ | refine tQ tok ?_ | refine tA tok ?_ | refine tU tok ?_ | refine tF tok ?_ | refine AL.nil ?_ | refine s_skip rfl rfl rfl ?_ | refine cT rfl rfl rfl rfl rfl rfl rfl ?_ | refine cF rfl rfl rfl rfl rfl rfl rfl ?_ | refine cA rfl rfl rfl rfl rfl rfl rfl ?_ | refine a_condT rfl ?_ | refine a_condF rfl ?_ | refine a_skip ?_ | refine a_exit ?_ | refine a_ret ?_ | refine a_block ?_)
  (repeat (first | refine a_seq ?_ | refine a_block ?_)); refine a_reg ?_
  repeat (first | refine a_seq ?_ | refine tL tok ?_ | refine tI tok ?_ | refine tP tok ?_ | refine tQ tok ?_ | refine tA tok ?_ | refine tU tok ?_ | refine tF tok ?_ | refine AL.nil ?_ | refine s_skip rfl rfl rfl ?_ | refine cT rfl rfl rfl rfl rfl rfl rfl ?_ | refine cF rfl rfl rfl rfl rfl rfl rfl ?_ | refine cA rfl rfl rfl rfl rfl rfl rfl ?_ | refine s_callP rfl rfl rfl rfl rfl (s0) (SubL.of_eq rfl) ?_ | refine s_alloc tok rfl rfl rfl rfl rfl (fun u => ?_) | refine s_store tok 0 rfl rfl rfl rfl rfl rfl rfl rfl (by decide) rfl rfl rfl (Nat.le_refl _) ?_ | refine a_condT rfl ?_ | refine a_condF rfl ?_ | refine a_skip ?_ | refine a_exit ?_ | refine a_ret ?_ | refine a_block ?_)
  refine a_frzBox 0 1 rfl rfl ?_
  repeat (first | refine a_seq ?_ | refine a_reg ?_ | refine a_regP mixed (by decide +kernel) ?_ | refine tL tok ?_ | refine tI tok ?_ | refine tP tok ?_ | refine tQ tok ?_ | refine tA tok ?_ | refine tU tok ?_ | refine tF tok ?_ | refine AL.nil ?_ | refine s_skip rfl rfl rfl ?_ | refine cT rfl rfl rfl rfl rfl rfl rfl ?_ | refine cF rfl rfl rfl rfl rfl rfl rfl ?_ | refine cA rfl rfl rfl rfl rfl rfl rfl ?_ | refine s_callP rfl rfl rfl rfl rfl (s1) (SubL.of_eq rfl) ?_ | refine s_callP rfl rfl rfl rfl rfl (s2) (SubL.of_eq rfl) ?_ | refine s_callP rfl rfl rfl rfl rfl (s3) (SubL.of_eq rfl) ?_ | refine s_callP rfl rfl rfl rfl rfl (s4) (SubL.of_eq rfl) ?_ | refine s_frzNow 0 rfl rfl rfl (s_build tok rfl rfl rfl rfl rfl rfl rfl rfl (by decide) (by decide) (fun v => AL.nil ⟨v, rfl, rfl, rfl⟩)) ?_ | refine s_alloc tok rfl rfl rfl rfl rfl (fun u => ?_) | refine s_store tok 0 rfl rfl rfl rfl rfl rfl rfl rfl (by decide) rfl rfl rfl (Nat.le_refl _) ?_ | refine s_ownLoad tok 0 rfl rfl rfl rfl (by decide) rfl rfl rfl rfl rfl rfl (List.cons_ne_nil _ _) ?_ | refine s_ownLoad tok 1 rfl rfl rfl rfl (by decide) rfl rfl rfl rfl rfl rfl (List.cons_ne_nil _ _) ?_ | refine a_condT rfl ?_ | refine a_condF rfl ?_ | refine a_skip ?_ | refine a_exit ?_ | refine a_ret ?_ | refine a_block ?_)
  first | refine zL rfl ?_ | refine zI rfl ?_ | refine zT rfl ?_ | refine zU rfl ?_ | refine zV rfl ?_ | refine zA rfl ?_
  exact ⟨rfl, rfl⟩
end Go.Proofs.YtcacbdohlfljfaaGreat
