/-
  The statistic of the example, awake: the walk.
-/
import Derived.Test.YtcacbdohlfljfaaSjQ8
import Derived.Test.YtcacbdohlfljfaaZ11
import Derived.Test.YtcacbdohlfljfaaZ9
import Derived.Test.YtcacbdohlfljfaaY19
namespace Go.Proofs.Ytcacbdohlfljfaa
open Go.Sj Go.Sj.Typ Go.Sj.Sta
set_option linter.unusedVariables false
set_option maxHeartbeats 8000000

def exG : Gr := ⟨[3, 1, 1], [⟨0, 0, 1⟩, ⟨0, 0, 2⟩]⟩
def exS : Sta := ⟨[⟨1, 0, 0, 2⟩, ⟨3, 0, 0, 1⟩], [⟨0, 3, 1, 2⟩]⟩
theorem exOf : ofR exTys exG = (exS, 0) := by kernel_rfl
theorem exNodes : nodesR exTys exS 0 = (2, 0) := by decide +kernel
theorem exEdges : edgesR exTys exS 0 3 0 = (2, 0) := by decide +kernel
theorem exSame : sameB exS exS = true := by decide +kernel
theorem awakeS_spec : Pure Try.prog 4 [] (AB true) := by
  have s0 := Example_spec
  have s1 : Pure Try.prog 6 [tysA exTys, .agg [.im 1 [[AI 3], [AI 1], [AI 1]], .im 3 [[AI 0, AI 0, AI 1], [AI 0, AI 0, AI 2]]]] (.tup [staA exS, AI 0]) := by
    have h := Of_spec exTys exSmall exG ⟨by decide, by decide⟩
    rw [exOf] at h
    exact h
  have s2 := Nodes_spec exTys exSmall exS ⟨by decide, by decide⟩ 0
  have s3 := Edges_spec exTys exSmall exS ⟨by decide, by decide⟩ 0 3 0
  have s4 := refSame_spec exS exS ⟨by decide, by decide⟩ ⟨by decide, by decide⟩
  rw [exNodes] at s2
  rw [exEdges] at s3
  rw [exSame] at s4
  generalize exTys.nodes = N at *
  generalize exTys.edges = E at *
  refine a_enter Try.func4 (by kernel_rfl) rfl Try.ntmps4 rfl (by simp) ?_
  (repeat (first | refine a_seq ?_ | refine a_block ?_)); refine a_reg ?_
  repeat (first | refine gZ pk ?_)
  (repeat (first | refine a_seq ?_ | refine a_block ?_)); refine a_reg ?_
  repeat (first | refine gZ pk ?_ | (show AL _ _ _ _ _ _ _; first | refine jP s0 ?_ | refine jL tok (fun u => ?_) | refine jS tok 0 ?_))
  refine a_frzBox 0 1 rfl rfl ?_
  repeat (first | refine gA pk ?_ | (show AL _ _ _ _ _ _ _; first | refine jP s1 ?_ | refine jP s2 ?_ | refine jP s3 ?_ | refine jP s4 ?_ | refine s_frzNow 0 rfl rfl rfl (s_build tok rfl rfl rfl rfl rfl rfl rfl rfl (by decide) (by decide) (fun v => AL.nil ⟨v, rfl, rfl, rfl⟩)) ?_ | refine jL tok (fun u => ?_) | refine jS tok 0 ?_ | refine jO tok 0 ?_ | refine jO tok 1 ?_))
  refine finQ ?_
  exact ⟨rfl, rfl⟩
end Go.Proofs.Ytcacbdohlfljfaa
