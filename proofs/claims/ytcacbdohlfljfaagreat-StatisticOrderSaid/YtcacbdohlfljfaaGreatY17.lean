/-
  Meet and Join, by the program and by the reference: the walks.
-/
import Derived.Test.YtcacbdohlfljfaaGreatY16
namespace Go.Proofs.YtcacbdohlfljfaaGreat
open Go.Sj Go.Sj.Typ
set_option linter.unusedVariables false
set_option maxHeartbeats 4000000

theorem find_cons_true {p : Int → Bool} {a : Int} {l : List Int} (h : p a = true) : (a :: l).find? p = some a := by simp [h]
theorem find_cons_false {p : Int → Bool} {a : Int} {l : List Int} (h : p a = false) : (a :: l).find? p = l.find? p := by simp [h]
end Go.Proofs.YtcacbdohlfljfaaGreat
