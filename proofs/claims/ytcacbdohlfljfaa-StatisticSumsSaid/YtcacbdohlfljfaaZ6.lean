/-
  Counts: a number added, by the reference: the walk. Conditions: a short sorted row, small numbers.
-/
import Derived.Test.YtcacbdohlfljfaaZ5
namespace Go.Proofs.Ytcacbdohlfljfaa
open Go.Sj Go.Sj.Typ Go.Sj.Sta
set_option linter.unusedVariables false
set_option linter.unusedSimpArgs false
set_option maxHeartbeats 8000000

def chOut (l : List Cnt) (x : Cnt) (k : Nat) (b : Bool) : List Cnt := if b = true then addC (l.take k) x else l.take k
theorem chOut_len (l : List Cnt) (x : Cnt) (k : Nat) (b : Bool) : (chOut l x k b).length ≤ k + 1 := by
  unfold chOut
  have h := addC_len (l.take k) x
  have h2 : (l.take k).length ≤ k := by rw [List.length_take]; omega
  split <;> omega
theorem take_snoc {A : Type} {l : List A} {k : Nat} {c : A} (hc : l[k]? = some c) : l.take (k + 1) = l.take k ++ [c] := by
  obtain ⟨hk, rfl⟩ := List.getElem?_eq_some_iff.1 hc
  exact List.take_succ_eq_append_getElem hk
end Go.Proofs.Ytcacbdohlfljfaa
