/-
  No cell of these rows narrows 'for every input' (looked for: loops, veiled, ifaces, maps, wideKeys, modest, calm, conditions, laid).
  DERIVED. THE GIVEN ROWS OF THIS SEAT. 9 by the template 'for every input the law returns true; each argument reads behind the call as it read before'; 0 by the template 'total and deterministic' (their statements: YtniboaekigoheaaTotals.lean).
  GIVEN WITH THE SEED: the statements are not yours to turn. If you find one false, say at which input.
  Laid BY PROGRAM, IN A SANDBOX (cutbox-rows.mjs): the forced cells as the released guide's own fill.sh prints them over the translation 41ac3a80512ec355… (all of the seat's roots in one cut). By AI agents, Wed Nov 11 2026. No macro, syntax, notation, axiom, sorry.
-/
import Derived.Test.YtniboaekigoheaaChecked
import GoSem.Claim
import GoSem.ClaimJoined
import GoSem.ClaimMapViews
import Derived.JoinedTies
import Derived.KernelRfl
namespace Go.Proofs.Ytniboaekigoheaa
/- THE CELL 'sum', in the pinned program and in every row, IS THE sha256 OF THE DUMP (.gsa) THAT YtniboaekigoheaaProg.lean LOADS. Nothing in Lean hashes anything: it is a label: what it is worth is what the hold of that sum in a sandbox is worth. -/
noncomputable def Try.pinned : Pinned := { name := "ytniboaekigoheaa", sum := "41ac3a80512ec355bcf38d40cbf95ed3e8c260c4ec3598f527a6dd305b24cdb8", checked := Try.checked }
namespace Rows
def none {H : Type} : Left H := { results := [], args := [] }

/-- 'scarfjointlaw03.DifferenceImplies': WHATEVER THE INPUT: true; the input reads as it did. -/
def differenceImpliesSpec : ChangeSpec := { name := "differenceImplies", fn := fun _ => fun
  | [d1, d2, d3] => { results := [.lit (.bool true)], args := [d1, d2, d3] }
  | _ => none }
def differenceImpliesRow : OpenClaim := { program := "ytniboaekigoheaa", sum := "41ac3a80512ec355bcf38d40cbf95ed3e8c260c4ec3598f527a6dd305b24cdb8", func := "scarfjoint/scarfjointlaw03.DifferenceImplies", spec := "differenceImplies", apart := false }
def DifferenceImpliesSaid : Prop := differenceImpliesRow.holds Try.pinned (OpenSpec.ofChange differenceImpliesSpec)

/-- ITS FALSE NEIGHBOUR: 'it returns false'. Refute it at one input. -/
def differenceImpliesWrong : ChangeSpec := { name := "differenceImplies", fn := fun _ => fun
  | [d1, d2, d3] => { results := [.lit (.bool false)], args := [d1, d2, d3] }
  | _ => none }
def DifferenceImpliesWrongFalsely : Prop := differenceImpliesRow.holds Try.pinned (OpenSpec.ofChange differenceImpliesWrong)

/-- 'scarfjointlaw03.DifferenceEither': WHATEVER THE INPUT: true; the input reads as it did. -/
def differenceEitherSpec : ChangeSpec := { name := "differenceEither", fn := fun _ => fun
  | [d1, d2] => { results := [.lit (.bool true)], args := [d1, d2] }
  | _ => none }
def differenceEitherRow : OpenClaim := { program := "ytniboaekigoheaa", sum := "41ac3a80512ec355bcf38d40cbf95ed3e8c260c4ec3598f527a6dd305b24cdb8", func := "scarfjoint/scarfjointlaw03.DifferenceEither", spec := "differenceEither", apart := false }
def DifferenceEitherSaid : Prop := differenceEitherRow.holds Try.pinned (OpenSpec.ofChange differenceEitherSpec)

/-- ITS FALSE NEIGHBOUR: 'it returns false'. Refute it at one input. -/
def differenceEitherWrong : ChangeSpec := { name := "differenceEither", fn := fun _ => fun
  | [d1, d2] => { results := [.lit (.bool false)], args := [d1, d2] }
  | _ => none }
def DifferenceEitherWrongFalsely : Prop := differenceEitherRow.holds Try.pinned (OpenSpec.ofChange differenceEitherWrong)

/-- 'scarfjointlaw03.DifferenceOpposite': WHATEVER THE INPUT: true; the input reads as it did. -/
def differenceOppositeSpec : ChangeSpec := { name := "differenceOpposite", fn := fun _ => fun
  | [d1, d2, d3] => { results := [.lit (.bool true)], args := [d1, d2, d3] }
  | _ => none }
def differenceOppositeRow : OpenClaim := { program := "ytniboaekigoheaa", sum := "41ac3a80512ec355bcf38d40cbf95ed3e8c260c4ec3598f527a6dd305b24cdb8", func := "scarfjoint/scarfjointlaw03.DifferenceOpposite", spec := "differenceOpposite", apart := false }
def DifferenceOppositeSaid : Prop := differenceOppositeRow.holds Try.pinned (OpenSpec.ofChange differenceOppositeSpec)

/-- ITS FALSE NEIGHBOUR: 'it returns false'. Refute it at one input. -/
def differenceOppositeWrong : ChangeSpec := { name := "differenceOpposite", fn := fun _ => fun
  | [d1, d2, d3] => { results := [.lit (.bool false)], args := [d1, d2, d3] }
  | _ => none }
def DifferenceOppositeWrongFalsely : Prop := differenceOppositeRow.holds Try.pinned (OpenSpec.ofChange differenceOppositeWrong)

/-- 'scarfjointlaw03.DifferenceReduce': WHATEVER THE INPUT: true; the input reads as it did. -/
def differenceReduceSpec : ChangeSpec := { name := "differenceReduce", fn := fun _ => fun
  | [d1, d2] => { results := [.lit (.bool true)], args := [d1, d2] }
  | _ => none }
def differenceReduceRow : OpenClaim := { program := "ytniboaekigoheaa", sum := "41ac3a80512ec355bcf38d40cbf95ed3e8c260c4ec3598f527a6dd305b24cdb8", func := "scarfjoint/scarfjointlaw03.DifferenceReduce", spec := "differenceReduce", apart := false }
def DifferenceReduceSaid : Prop := differenceReduceRow.holds Try.pinned (OpenSpec.ofChange differenceReduceSpec)

/-- ITS FALSE NEIGHBOUR: 'it returns false'. Refute it at one input. -/
def differenceReduceWrong : ChangeSpec := { name := "differenceReduce", fn := fun _ => fun
  | [d1, d2] => { results := [.lit (.bool false)], args := [d1, d2] }
  | _ => none }
def DifferenceReduceWrongFalsely : Prop := differenceReduceRow.holds Try.pinned (OpenSpec.ofChange differenceReduceWrong)

/-- 'scarfjointlaw03.DifferenceRefute': WHATEVER THE INPUT: true; the input reads as it did. -/
def differenceRefuteSpec : ChangeSpec := { name := "differenceRefute", fn := fun _ => fun
  | [d1, d2] => { results := [.lit (.bool true)], args := [d1, d2] }
  | _ => none }
def differenceRefuteRow : OpenClaim := { program := "ytniboaekigoheaa", sum := "41ac3a80512ec355bcf38d40cbf95ed3e8c260c4ec3598f527a6dd305b24cdb8", func := "scarfjoint/scarfjointlaw03.DifferenceRefute", spec := "differenceRefute", unfollowed := true, recurses := true, apart := false }
def DifferenceRefuteSaid : Prop := differenceRefuteRow.holds Try.pinned (OpenSpec.ofChange differenceRefuteSpec)

/-- ITS FALSE NEIGHBOUR: 'it returns false'. Refute it at one input. -/
def differenceRefuteWrong : ChangeSpec := { name := "differenceRefute", fn := fun _ => fun
  | [d1, d2] => { results := [.lit (.bool false)], args := [d1, d2] }
  | _ => none }
def DifferenceRefuteWrongFalsely : Prop := differenceRefuteRow.holds Try.pinned (OpenSpec.ofChange differenceRefuteWrong)

/-- 'scarfjointlaw03.DifferenceCheck': WHATEVER THE INPUT: true; the input reads as it did. -/
def differenceCheckSpec : ChangeSpec := { name := "differenceCheck", fn := fun _ => fun
  | [d1, d2, d3] => { results := [.lit (.bool true)], args := [d1, d2, d3] }
  | _ => none }
def differenceCheckRow : OpenClaim := { program := "ytniboaekigoheaa", sum := "41ac3a80512ec355bcf38d40cbf95ed3e8c260c4ec3598f527a6dd305b24cdb8", func := "scarfjoint/scarfjointlaw03.DifferenceCheck", spec := "differenceCheck", unfollowed := true, recurses := true, apart := false }
def DifferenceCheckSaid : Prop := differenceCheckRow.holds Try.pinned (OpenSpec.ofChange differenceCheckSpec)

/-- ITS FALSE NEIGHBOUR: 'it returns false'. Refute it at one input. -/
def differenceCheckWrong : ChangeSpec := { name := "differenceCheck", fn := fun _ => fun
  | [d1, d2, d3] => { results := [.lit (.bool false)], args := [d1, d2, d3] }
  | _ => none }
def DifferenceCheckWrongFalsely : Prop := differenceCheckRow.holds Try.pinned (OpenSpec.ofChange differenceCheckWrong)

/-- 'scarfjointlaw03.DifferenceTrue': WHATEVER THE INPUT: true; the input reads as it did. -/
def differenceTrueSpec : ChangeSpec := { name := "differenceTrue", fn := fun _ => fun
  | [d1, d2, d3] => { results := [.lit (.bool true)], args := [d1, d2, d3] }
  | _ => none }
def differenceTrueRow : OpenClaim := { program := "ytniboaekigoheaa", sum := "41ac3a80512ec355bcf38d40cbf95ed3e8c260c4ec3598f527a6dd305b24cdb8", func := "scarfjoint/scarfjointlaw03.DifferenceTrue", spec := "differenceTrue", inPlace := ["math/bits.Add64"], unfollowed := true, recurses := true, apart := false }
def DifferenceTrueSaid : Prop := differenceTrueRow.holds Try.pinned (OpenSpec.ofChange differenceTrueSpec)

/-- ITS FALSE NEIGHBOUR: 'it returns false'. Refute it at one input. -/
def differenceTrueWrong : ChangeSpec := { name := "differenceTrue", fn := fun _ => fun
  | [d1, d2, d3] => { results := [.lit (.bool false)], args := [d1, d2, d3] }
  | _ => none }
def DifferenceTrueWrongFalsely : Prop := differenceTrueRow.holds Try.pinned (OpenSpec.ofChange differenceTrueWrong)

/-- 'scarfjointlaw03.DifferenceSolve': WHATEVER THE INPUT: true; the input reads as it did. -/
def differenceSolveSpec : ChangeSpec := { name := "differenceSolve", fn := fun _ => fun
  | [d1, d2] => { results := [.lit (.bool true)], args := [d1, d2] }
  | _ => none }
def differenceSolveRow : OpenClaim := { program := "ytniboaekigoheaa", sum := "41ac3a80512ec355bcf38d40cbf95ed3e8c260c4ec3598f527a6dd305b24cdb8", func := "scarfjoint/scarfjointlaw03.DifferenceSolve", spec := "differenceSolve", inPlace := ["math/bits.Add64"], unfollowed := true, recurses := true, apart := false }
def DifferenceSolveSaid : Prop := differenceSolveRow.holds Try.pinned (OpenSpec.ofChange differenceSolveSpec)

/-- ITS FALSE NEIGHBOUR: 'it returns false'. Refute it at one input. -/
def differenceSolveWrong : ChangeSpec := { name := "differenceSolve", fn := fun _ => fun
  | [d1, d2] => { results := [.lit (.bool false)], args := [d1, d2] }
  | _ => none }
def DifferenceSolveWrongFalsely : Prop := differenceSolveRow.holds Try.pinned (OpenSpec.ofChange differenceSolveWrong)

/-- 'scarfjointlaw03.DifferenceHolds': WHATEVER THE INPUT: true; the input reads as it did. -/
def differenceHoldsSpec : ChangeSpec := { name := "differenceHolds", fn := fun _ => fun
  | [d1, d2] => { results := [.lit (.bool true)], args := [d1, d2] }
  | _ => none }
def differenceHoldsRow : OpenClaim := { program := "ytniboaekigoheaa", sum := "41ac3a80512ec355bcf38d40cbf95ed3e8c260c4ec3598f527a6dd305b24cdb8", func := "scarfjoint/scarfjointlaw03.DifferenceHolds", spec := "differenceHolds", inPlace := ["math/bits.Add64"], unfollowed := true, recurses := true, apart := false }
def DifferenceHoldsSaid : Prop := differenceHoldsRow.holds Try.pinned (OpenSpec.ofChange differenceHoldsSpec)

/-- ITS FALSE NEIGHBOUR: 'it returns false'. Refute it at one input. -/
def differenceHoldsWrong : ChangeSpec := { name := "differenceHolds", fn := fun _ => fun
  | [d1, d2] => { results := [.lit (.bool false)], args := [d1, d2] }
  | _ => none }
def DifferenceHoldsWrongFalsely : Prop := differenceHoldsRow.holds Try.pinned (OpenSpec.ofChange differenceHoldsWrong)

/- THE SECOND FORM. 'bulk': how many values and letters a reading holds, each counted each time it is reached (what is shared counts as often as it is met; a slice's spare places count too). A statement '..UptoSaid' is the law's where the arguments, and the package variables that the reading takes, are together of bulk at most 1048576: NARROWER than '..Said'. Prove '..Said' where nothing that the law and all that it calls make is longer than what came in: it says more and counts as full. Else prove '..UptoSaid'. A law counts once. -/
mutual
def uptoBulk {H : Type} : DataW H → Nat
  | .lit (.string bytes) => bytes.length + 1
  | .lit _ => 1
  | .nil => 1
  | .ptr d => uptoBulk d + 1
  | .slice elems spare => uptoBulkAll elems + uptoBulkAll spare + 1
  | .agg parts => uptoBulkAll parts + 1
  | .iface _ d => uptoBulk d + 1
  | .map entries => uptoBulkEntries entries + 1
  | .held _ => 1
def uptoBulkAll {H : Type} : List (DataW H) → Nat
  | [] => 0
  | d :: r => uptoBulk d + uptoBulkAll r
def uptoBulkEntries {H : Type} : List (Lit × DataW H) → Nat
  | [] => 0
  | x :: r => uptoBulkEntry x + uptoBulkEntries r
def uptoBulkEntry {H : Type} : Lit × DataW H → Nat
  | (.string bytes, d) => bytes.length + uptoBulk d + 1
  | (_, d) => uptoBulk d + 1
 end
def uptoSmall : (H : Type) → List (DataW H) → Bool := fun _ ds => decide (uptoBulkAll ds ≤ 1048576)
def OpenSpec.upto (s : _root_.Go.ChangeSpec) : _root_.Go.OpenSpec := { _root_.Go.OpenSpec.ofChange s with cond := some uptoSmall }

/-- 'scarfjointlaw03.DifferenceImplies', WHERE WHAT IT READS IS OF BULK AT MOST 1048576: true; the input reads as it did. -/
def differenceImpliesUptoRow : OpenClaim := { program := "ytniboaekigoheaa", sum := "41ac3a80512ec355bcf38d40cbf95ed3e8c260c4ec3598f527a6dd305b24cdb8", func := "scarfjoint/scarfjointlaw03.DifferenceImplies", spec := "differenceImplies", apart := false, narrowed := true }
def DifferenceImpliesUptoSaid : Prop := differenceImpliesUptoRow.holds Try.pinned (OpenSpec.upto differenceImpliesSpec)

/-- 'scarfjointlaw03.DifferenceEither', WHERE WHAT IT READS IS OF BULK AT MOST 1048576: true; the input reads as it did. -/
def differenceEitherUptoRow : OpenClaim := { program := "ytniboaekigoheaa", sum := "41ac3a80512ec355bcf38d40cbf95ed3e8c260c4ec3598f527a6dd305b24cdb8", func := "scarfjoint/scarfjointlaw03.DifferenceEither", spec := "differenceEither", apart := false, narrowed := true }
def DifferenceEitherUptoSaid : Prop := differenceEitherUptoRow.holds Try.pinned (OpenSpec.upto differenceEitherSpec)

/-- 'scarfjointlaw03.DifferenceOpposite', WHERE WHAT IT READS IS OF BULK AT MOST 1048576: true; the input reads as it did. -/
def differenceOppositeUptoRow : OpenClaim := { program := "ytniboaekigoheaa", sum := "41ac3a80512ec355bcf38d40cbf95ed3e8c260c4ec3598f527a6dd305b24cdb8", func := "scarfjoint/scarfjointlaw03.DifferenceOpposite", spec := "differenceOpposite", apart := false, narrowed := true }
def DifferenceOppositeUptoSaid : Prop := differenceOppositeUptoRow.holds Try.pinned (OpenSpec.upto differenceOppositeSpec)

/-- 'scarfjointlaw03.DifferenceReduce', WHERE WHAT IT READS IS OF BULK AT MOST 1048576: true; the input reads as it did. -/
def differenceReduceUptoRow : OpenClaim := { program := "ytniboaekigoheaa", sum := "41ac3a80512ec355bcf38d40cbf95ed3e8c260c4ec3598f527a6dd305b24cdb8", func := "scarfjoint/scarfjointlaw03.DifferenceReduce", spec := "differenceReduce", apart := false, narrowed := true }
def DifferenceReduceUptoSaid : Prop := differenceReduceUptoRow.holds Try.pinned (OpenSpec.upto differenceReduceSpec)

/-- 'scarfjointlaw03.DifferenceRefute', WHERE WHAT IT READS IS OF BULK AT MOST 1048576: true; the input reads as it did. -/
def differenceRefuteUptoRow : OpenClaim := { program := "ytniboaekigoheaa", sum := "41ac3a80512ec355bcf38d40cbf95ed3e8c260c4ec3598f527a6dd305b24cdb8", func := "scarfjoint/scarfjointlaw03.DifferenceRefute", spec := "differenceRefute", unfollowed := true, recurses := true, apart := false, narrowed := true }
def DifferenceRefuteUptoSaid : Prop := differenceRefuteUptoRow.holds Try.pinned (OpenSpec.upto differenceRefuteSpec)

/-- 'scarfjointlaw03.DifferenceCheck', WHERE WHAT IT READS IS OF BULK AT MOST 1048576: true; the input reads as it did. -/
def differenceCheckUptoRow : OpenClaim := { program := "ytniboaekigoheaa", sum := "41ac3a80512ec355bcf38d40cbf95ed3e8c260c4ec3598f527a6dd305b24cdb8", func := "scarfjoint/scarfjointlaw03.DifferenceCheck", spec := "differenceCheck", unfollowed := true, recurses := true, apart := false, narrowed := true }
def DifferenceCheckUptoSaid : Prop := differenceCheckUptoRow.holds Try.pinned (OpenSpec.upto differenceCheckSpec)

/-- 'scarfjointlaw03.DifferenceTrue', WHERE WHAT IT READS IS OF BULK AT MOST 1048576: true; the input reads as it did. -/
def differenceTrueUptoRow : OpenClaim := { program := "ytniboaekigoheaa", sum := "41ac3a80512ec355bcf38d40cbf95ed3e8c260c4ec3598f527a6dd305b24cdb8", func := "scarfjoint/scarfjointlaw03.DifferenceTrue", spec := "differenceTrue", inPlace := ["math/bits.Add64"], unfollowed := true, recurses := true, apart := false, narrowed := true }
def DifferenceTrueUptoSaid : Prop := differenceTrueUptoRow.holds Try.pinned (OpenSpec.upto differenceTrueSpec)

/-- 'scarfjointlaw03.DifferenceSolve', WHERE WHAT IT READS IS OF BULK AT MOST 1048576: true; the input reads as it did. -/
def differenceSolveUptoRow : OpenClaim := { program := "ytniboaekigoheaa", sum := "41ac3a80512ec355bcf38d40cbf95ed3e8c260c4ec3598f527a6dd305b24cdb8", func := "scarfjoint/scarfjointlaw03.DifferenceSolve", spec := "differenceSolve", inPlace := ["math/bits.Add64"], unfollowed := true, recurses := true, apart := false, narrowed := true }
def DifferenceSolveUptoSaid : Prop := differenceSolveUptoRow.holds Try.pinned (OpenSpec.upto differenceSolveSpec)

/-- 'scarfjointlaw03.DifferenceHolds', WHERE WHAT IT READS IS OF BULK AT MOST 1048576: true; the input reads as it did. -/
def differenceHoldsUptoRow : OpenClaim := { program := "ytniboaekigoheaa", sum := "41ac3a80512ec355bcf38d40cbf95ed3e8c260c4ec3598f527a6dd305b24cdb8", func := "scarfjoint/scarfjointlaw03.DifferenceHolds", spec := "differenceHolds", inPlace := ["math/bits.Add64"], unfollowed := true, recurses := true, apart := false, narrowed := true }
def DifferenceHoldsUptoSaid : Prop := differenceHoldsUptoRow.holds Try.pinned (OpenSpec.upto differenceHoldsSpec)

end Rows
end Go.Proofs.Ytniboaekigoheaa
