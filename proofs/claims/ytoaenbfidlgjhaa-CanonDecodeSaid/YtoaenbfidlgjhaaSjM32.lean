/-
  Readings of lists of numbers. No condition.
-/
import Derived.Test.YtoaenbfidlgjhaaSjQC
import Derived.Test.YtoaenbfidlgjhaaSjQN
import Derived.Test.YtoaenbfidlgjhaaSjQT
namespace Go.Sj.Can
open Go.Sj Go.Sj.Sta
set_option linter.unusedVariables false
theorem ints_ok {x : List Int} {q : Prop} (h : q ∧ x.length ≤ reachBytes) : x.length ≤ 140737488355328 := by
  have h2 := h.2
  unfold reachBytes at h2
  omega
end Go.Sj.Can
