/-
  No cell of these rows narrows 'for every input' (looked for: loops, veiled, ifaces, maps, wideKeys, modest, calm, conditions, laid).
  DERIVED. THE GIVEN ROWS OF THIS SEAT. 7 by the template 'for every input the law returns true; each argument reads behind the call as it read before'; 0 by the template 'total and deterministic' (their statements: YtddohheabpiljaaGreatTotals.lean).
  GIVEN WITH THE SEED: the statements are not yours to turn. If you find one false, say at which input.
  Laid BY PROGRAM, IN A SANDBOX (cutbox-rows.mjs): the forced cells as the released guide's own fill.sh prints them over the translation 8eb451a8e4921853… (all of the seat's roots in one cut). By AI agents, Wed Nov 11 2026. No macro, syntax, notation, axiom, sorry.
-/
import Derived.Test.YtddohheabpiljaaGreatChecked
import GoSem.Claim
import GoSem.ClaimJoined
import GoSem.ClaimMapViews
import Derived.JoinedTies
import Derived.KernelRfl
namespace Go.Proofs.YtddohheabpiljaaGreat
/- THE CELL 'sum', in the pinned program and in every row, IS THE sha256 OF THE DUMP (.gsa) THAT YtddohheabpiljaaGreatProg.lean LOADS. Nothing in Lean hashes anything: it is a label: what it is worth is what the hold of that sum in a sandbox is worth. -/
noncomputable def Tryz.pinned : Pinned := { name := "ytddohheabpiljaagreat", sum := "8eb451a8e492185379414a8f8686cdf45397816dc6ed471ef93c7d624cfa36eb", checked := Tryz.checked }
namespace Rows
def none {H : Type} : Left H := { results := [], args := [] }

/-- 'scarfjointlaw20.IncrementalNew': WHATEVER THE INPUT: true; the input reads as it did. -/
def incrementalNewSpec : ChangeSpec := { name := "incrementalNew", fn := fun _ => fun
  | [d] => { results := [.lit (.bool true)], args := [d] }
  | _ => none }
def incrementalNewRow : OpenClaim := { program := "ytddohheabpiljaagreat", sum := "8eb451a8e492185379414a8f8686cdf45397816dc6ed471ef93c7d624cfa36eb", func := "scarfjoint/scarfjointlaw20.IncrementalNew", spec := "incrementalNew", inPlace := ["internal/bytealg.IndexByteString"], unfollowed := true, recurses := true, apart := false }
def IncrementalNewSaid : Prop := incrementalNewRow.holds Tryz.pinned (OpenSpec.ofChange incrementalNewSpec)

/-- ITS FALSE NEIGHBOUR: 'it returns false'. Refute it at one input. -/
def incrementalNewWrong : ChangeSpec := { name := "incrementalNew", fn := fun _ => fun
  | [d] => { results := [.lit (.bool false)], args := [d] }
  | _ => none }
def IncrementalNewWrongFalsely : Prop := incrementalNewRow.holds Tryz.pinned (OpenSpec.ofChange incrementalNewWrong)

/-- 'scarfjointlaw20.IncrementalApply': WHATEVER THE INPUT: true; the input reads as it did. -/
def incrementalApplySpec : ChangeSpec := { name := "incrementalApply", fn := fun _ => fun
  | [d1, d2] => { results := [.lit (.bool true)], args := [d1, d2] }
  | _ => none }
def incrementalApplyRow : OpenClaim := { program := "ytddohheabpiljaagreat", sum := "8eb451a8e492185379414a8f8686cdf45397816dc6ed471ef93c7d624cfa36eb", func := "scarfjoint/scarfjointlaw20.IncrementalApply", spec := "incrementalApply", inPlace := ["internal/bytealg.IndexByteString"], unfollowed := true, recurses := true, apart := false }
def IncrementalApplySaid : Prop := incrementalApplyRow.holds Tryz.pinned (OpenSpec.ofChange incrementalApplySpec)

/-- ITS FALSE NEIGHBOUR: 'it returns false'. Refute it at one input. -/
def incrementalApplyWrong : ChangeSpec := { name := "incrementalApply", fn := fun _ => fun
  | [d1, d2] => { results := [.lit (.bool false)], args := [d1, d2] }
  | _ => none }
def IncrementalApplyWrongFalsely : Prop := incrementalApplyRow.holds Tryz.pinned (OpenSpec.ofChange incrementalApplyWrong)

/-- 'scarfjointlaw20.IncrementalScratch': WHATEVER THE INPUT: true; the input reads as it did. -/
def incrementalScratchSpec : ChangeSpec := { name := "incrementalScratch", fn := fun _ => fun
  | [d1, d2] => { results := [.lit (.bool true)], args := [d1, d2] }
  | _ => none }
def incrementalScratchRow : OpenClaim := { program := "ytddohheabpiljaagreat", sum := "8eb451a8e492185379414a8f8686cdf45397816dc6ed471ef93c7d624cfa36eb", func := "scarfjoint/scarfjointlaw20.IncrementalScratch", spec := "incrementalScratch", inPlace := ["internal/bytealg.IndexByteString"], unfollowed := true, recurses := true, apart := false }
def IncrementalScratchSaid : Prop := incrementalScratchRow.holds Tryz.pinned (OpenSpec.ofChange incrementalScratchSpec)

/-- ITS FALSE NEIGHBOUR: 'it returns false'. Refute it at one input. -/
def incrementalScratchWrong : ChangeSpec := { name := "incrementalScratch", fn := fun _ => fun
  | [d1, d2] => { results := [.lit (.bool false)], args := [d1, d2] }
  | _ => none }
def IncrementalScratchWrongFalsely : Prop := incrementalScratchRow.holds Tryz.pinned (OpenSpec.ofChange incrementalScratchWrong)

/-- 'scarfjointlaw20.IncrementalCounts': WHATEVER THE INPUT: true; the input reads as it did. -/
def incrementalCountsSpec : ChangeSpec := { name := "incrementalCounts", fn := fun _ => fun
  | [d1, d2] => { results := [.lit (.bool true)], args := [d1, d2] }
  | _ => none }
def incrementalCountsRow : OpenClaim := { program := "ytddohheabpiljaagreat", sum := "8eb451a8e492185379414a8f8686cdf45397816dc6ed471ef93c7d624cfa36eb", func := "scarfjoint/scarfjointlaw20.IncrementalCounts", spec := "incrementalCounts", inPlace := ["internal/bytealg.IndexByteString"], unfollowed := true, recurses := true, apart := false }
def IncrementalCountsSaid : Prop := incrementalCountsRow.holds Tryz.pinned (OpenSpec.ofChange incrementalCountsSpec)

/-- ITS FALSE NEIGHBOUR: 'it returns false'. Refute it at one input. -/
def incrementalCountsWrong : ChangeSpec := { name := "incrementalCounts", fn := fun _ => fun
  | [d1, d2] => { results := [.lit (.bool false)], args := [d1, d2] }
  | _ => none }
def IncrementalCountsWrongFalsely : Prop := incrementalCountsRow.holds Tryz.pinned (OpenSpec.ofChange incrementalCountsWrong)

/-- 'scarfjointlaw20.IncrementalRun': WHATEVER THE INPUT: true; the input reads as it did. -/
def incrementalRunSpec : ChangeSpec := { name := "incrementalRun", fn := fun _ => fun
  | [d1, d2] => { results := [.lit (.bool true)], args := [d1, d2] }
  | _ => none }
def incrementalRunRow : OpenClaim := { program := "ytddohheabpiljaagreat", sum := "8eb451a8e492185379414a8f8686cdf45397816dc6ed471ef93c7d624cfa36eb", func := "scarfjoint/scarfjointlaw20.IncrementalRun", spec := "incrementalRun", inPlace := ["internal/bytealg.IndexByteString"], unfollowed := true, recurses := true, apart := false }
def IncrementalRunSaid : Prop := incrementalRunRow.holds Tryz.pinned (OpenSpec.ofChange incrementalRunSpec)

/-- ITS FALSE NEIGHBOUR: 'it returns false'. Refute it at one input. -/
def incrementalRunWrong : ChangeSpec := { name := "incrementalRun", fn := fun _ => fun
  | [d1, d2] => { results := [.lit (.bool false)], args := [d1, d2] }
  | _ => none }
def IncrementalRunWrongFalsely : Prop := incrementalRunRow.holds Tryz.pinned (OpenSpec.ofChange incrementalRunWrong)

/-- 'scarfjointlaw20.IncrementalOpposite': WHATEVER THE INPUT: true; the input reads as it did. -/
def incrementalOppositeSpec : ChangeSpec := { name := "incrementalOpposite", fn := fun _ => fun
  | [d1, d2] => { results := [.lit (.bool true)], args := [d1, d2] }
  | _ => none }
def incrementalOppositeRow : OpenClaim := { program := "ytddohheabpiljaagreat", sum := "8eb451a8e492185379414a8f8686cdf45397816dc6ed471ef93c7d624cfa36eb", func := "scarfjoint/scarfjointlaw20.IncrementalOpposite", spec := "incrementalOpposite", inPlace := ["internal/bytealg.IndexByteString"], unfollowed := true, recurses := true, apart := false }
def IncrementalOppositeSaid : Prop := incrementalOppositeRow.holds Tryz.pinned (OpenSpec.ofChange incrementalOppositeSpec)

/-- ITS FALSE NEIGHBOUR: 'it returns false'. Refute it at one input. -/
def incrementalOppositeWrong : ChangeSpec := { name := "incrementalOpposite", fn := fun _ => fun
  | [d1, d2] => { results := [.lit (.bool false)], args := [d1, d2] }
  | _ => none }
def IncrementalOppositeWrongFalsely : Prop := incrementalOppositeRow.holds Tryz.pinned (OpenSpec.ofChange incrementalOppositeWrong)

/-- 'scarfjointlaw20.IncrementalUndoes': WHATEVER THE INPUT: true; the input reads as it did. -/
def incrementalUndoesSpec : ChangeSpec := { name := "incrementalUndoes", fn := fun _ => fun
  | [d1, d2] => { results := [.lit (.bool true)], args := [d1, d2] }
  | _ => none }
def incrementalUndoesRow : OpenClaim := { program := "ytddohheabpiljaagreat", sum := "8eb451a8e492185379414a8f8686cdf45397816dc6ed471ef93c7d624cfa36eb", func := "scarfjoint/scarfjointlaw20.IncrementalUndoes", spec := "incrementalUndoes", inPlace := ["internal/bytealg.IndexByteString"], unfollowed := true, recurses := true, apart := false }
def IncrementalUndoesSaid : Prop := incrementalUndoesRow.holds Tryz.pinned (OpenSpec.ofChange incrementalUndoesSpec)

/-- ITS FALSE NEIGHBOUR: 'it returns false'. Refute it at one input. -/
def incrementalUndoesWrong : ChangeSpec := { name := "incrementalUndoes", fn := fun _ => fun
  | [d1, d2] => { results := [.lit (.bool false)], args := [d1, d2] }
  | _ => none }
def IncrementalUndoesWrongFalsely : Prop := incrementalUndoesRow.holds Tryz.pinned (OpenSpec.ofChange incrementalUndoesWrong)

/- THE SECOND FORM. 'bulk': how many values and letters a reading holds, each counted each time it is reached (what is shared counts as often as it is met; a slice's spare places count too). A statement '..UptoSaid' is the law's where the arguments, and the package variables that the reading takes, are together of bulk at most 1048576: NARROWER than '..Said'. Prove '..Said' where nothing that the law and all that it calls make is longer than what came in: it says more and counts as full. Else prove '..UptoSaid'. A law counts once. -/
mutual
def uptoBulk {H : Type} : DataW H → Nat
  | .lit (.string bytes) => bytes.length + 1
  | .lit _ => 1
  | .nil => 1
  | .ptr d => uptoBulk d + 1
  | .slice elems spare => uptoBulkAll elems + uptoBulkAll spare + 1
  | .agg parts => uptoBulkAll parts + 1
  | .iface _ d => uptoBulk d + 1
  | .map entries => uptoBulkEntries entries + 1
  | .held _ => 1
def uptoBulkAll {H : Type} : List (DataW H) → Nat
  | [] => 0
  | d :: r => uptoBulk d + uptoBulkAll r
def uptoBulkEntries {H : Type} : List (Lit × DataW H) → Nat
  | [] => 0
  | x :: r => uptoBulkEntry x + uptoBulkEntries r
def uptoBulkEntry {H : Type} : Lit × DataW H → Nat
  | (.string bytes, d) => bytes.length + uptoBulk d + 1
  | (_, d) => uptoBulk d + 1
 end
def uptoSmall : (H : Type) → List (DataW H) → Bool := fun _ ds => decide (uptoBulkAll ds ≤ 1048576)
def OpenSpec.upto (s : _root_.Go.ChangeSpec) : _root_.Go.OpenSpec := { _root_.Go.OpenSpec.ofChange s with cond := some uptoSmall }

/-- 'scarfjointlaw20.IncrementalNew', WHERE WHAT IT READS IS OF BULK AT MOST 1048576: true; the input reads as it did. -/
def incrementalNewUptoRow : OpenClaim := { program := "ytddohheabpiljaagreat", sum := "8eb451a8e492185379414a8f8686cdf45397816dc6ed471ef93c7d624cfa36eb", func := "scarfjoint/scarfjointlaw20.IncrementalNew", spec := "incrementalNew", inPlace := ["internal/bytealg.IndexByteString"], unfollowed := true, recurses := true, apart := false, narrowed := true }
def IncrementalNewUptoSaid : Prop := incrementalNewUptoRow.holds Tryz.pinned (OpenSpec.upto incrementalNewSpec)

/-- 'scarfjointlaw20.IncrementalApply', WHERE WHAT IT READS IS OF BULK AT MOST 1048576: true; the input reads as it did. -/
def incrementalApplyUptoRow : OpenClaim := { program := "ytddohheabpiljaagreat", sum := "8eb451a8e492185379414a8f8686cdf45397816dc6ed471ef93c7d624cfa36eb", func := "scarfjoint/scarfjointlaw20.IncrementalApply", spec := "incrementalApply", inPlace := ["internal/bytealg.IndexByteString"], unfollowed := true, recurses := true, apart := false, narrowed := true }
def IncrementalApplyUptoSaid : Prop := incrementalApplyUptoRow.holds Tryz.pinned (OpenSpec.upto incrementalApplySpec)

/-- 'scarfjointlaw20.IncrementalScratch', WHERE WHAT IT READS IS OF BULK AT MOST 1048576: true; the input reads as it did. -/
def incrementalScratchUptoRow : OpenClaim := { program := "ytddohheabpiljaagreat", sum := "8eb451a8e492185379414a8f8686cdf45397816dc6ed471ef93c7d624cfa36eb", func := "scarfjoint/scarfjointlaw20.IncrementalScratch", spec := "incrementalScratch", inPlace := ["internal/bytealg.IndexByteString"], unfollowed := true, recurses := true, apart := false, narrowed := true }
def IncrementalScratchUptoSaid : Prop := incrementalScratchUptoRow.holds Tryz.pinned (OpenSpec.upto incrementalScratchSpec)

/-- 'scarfjointlaw20.IncrementalCounts', WHERE WHAT IT READS IS OF BULK AT MOST 1048576: true; the input reads as it did. -/
def incrementalCountsUptoRow : OpenClaim := { program := "ytddohheabpiljaagreat", sum := "8eb451a8e492185379414a8f8686cdf45397816dc6ed471ef93c7d624cfa36eb", func := "scarfjoint/scarfjointlaw20.IncrementalCounts", spec := "incrementalCounts", inPlace := ["internal/bytealg.IndexByteString"], unfollowed := true, recurses := true, apart := false, narrowed := true }
def IncrementalCountsUptoSaid : Prop := incrementalCountsUptoRow.holds Tryz.pinned (OpenSpec.upto incrementalCountsSpec)

/-- 'scarfjointlaw20.IncrementalRun', WHERE WHAT IT READS IS OF BULK AT MOST 1048576: true; the input reads as it did. -/
def incrementalRunUptoRow : OpenClaim := { program := "ytddohheabpiljaagreat", sum := "8eb451a8e492185379414a8f8686cdf45397816dc6ed471ef93c7d624cfa36eb", func := "scarfjoint/scarfjointlaw20.IncrementalRun", spec := "incrementalRun", inPlace := ["internal/bytealg.IndexByteString"], unfollowed := true, recurses := true, apart := false, narrowed := true }
def IncrementalRunUptoSaid : Prop := incrementalRunUptoRow.holds Tryz.pinned (OpenSpec.upto incrementalRunSpec)

/-- 'scarfjointlaw20.IncrementalOpposite', WHERE WHAT IT READS IS OF BULK AT MOST 1048576: true; the input reads as it did. -/
def incrementalOppositeUptoRow : OpenClaim := { program := "ytddohheabpiljaagreat", sum := "8eb451a8e492185379414a8f8686cdf45397816dc6ed471ef93c7d624cfa36eb", func := "scarfjoint/scarfjointlaw20.IncrementalOpposite", spec := "incrementalOpposite", inPlace := ["internal/bytealg.IndexByteString"], unfollowed := true, recurses := true, apart := false, narrowed := true }
def IncrementalOppositeUptoSaid : Prop := incrementalOppositeUptoRow.holds Tryz.pinned (OpenSpec.upto incrementalOppositeSpec)

/-- 'scarfjointlaw20.IncrementalUndoes', WHERE WHAT IT READS IS OF BULK AT MOST 1048576: true; the input reads as it did. -/
def incrementalUndoesUptoRow : OpenClaim := { program := "ytddohheabpiljaagreat", sum := "8eb451a8e492185379414a8f8686cdf45397816dc6ed471ef93c7d624cfa36eb", func := "scarfjoint/scarfjointlaw20.IncrementalUndoes", spec := "incrementalUndoes", inPlace := ["internal/bytealg.IndexByteString"], unfollowed := true, recurses := true, apart := false, narrowed := true }
def IncrementalUndoesUptoSaid : Prop := incrementalUndoesUptoRow.holds Tryz.pinned (OpenSpec.upto incrementalUndoesSpec)

end Rows
end Go.Proofs.YtddohheabpiljaaGreat
