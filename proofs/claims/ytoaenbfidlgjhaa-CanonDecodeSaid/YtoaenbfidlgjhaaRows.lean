/-
  No cell of these rows narrows 'for every input' (looked for: loops, veiled, ifaces, maps, wideKeys, modest, calm, conditions, laid).
  DERIVED. THE GIVEN ROWS OF THIS SEAT. 8 by the template 'for every input the law returns true; each argument reads behind the call as it read before'; 0 by the template 'total and deterministic' (their statements: YtoaenbfidlgjhaaTotals.lean).
  GIVEN WITH THE SEED: the statements are not yours to turn. If you find one false, say at which input.
  Laid BY PROGRAM, IN A SANDBOX (cutbox-rows.mjs): the forced cells as the released guide's own fill.sh prints them over the translation ef876145287fbf90… (all of the seat's roots in one cut). By AI agents, Wed Nov 11 2026. No macro, syntax, notation, axiom, sorry.
-/
import Derived.Test.YtoaenbfidlgjhaaChecked
import GoSem.Claim
import GoSem.ClaimJoined
import GoSem.ClaimMapViews
import Derived.JoinedTies
import Derived.KernelRfl
namespace Go.Proofs.Ytoaenbfidlgjhaa
/- THE CELL 'sum', in the pinned program and in every row, IS THE sha256 OF THE DUMP (.gsa) THAT YtoaenbfidlgjhaaProg.lean LOADS. Nothing in Lean hashes anything: it is a label: what it is worth is what the hold of that sum in a sandbox is worth. -/
noncomputable def Try.pinned : Pinned := { name := "ytoaenbfidlgjhaa", sum := "ef876145287fbf90a1d46430f9d8cec91a7dad07b9debb328f1e4af52440b2fe", checked := Try.checked }
namespace Rows
def none {H : Type} : Left H := { results := [], args := [] }

/-- 'scarfjointlaw09.CanonCodeIn': WHATEVER THE INPUT: true; the input reads as it did. -/
def canonCodeInSpec : ChangeSpec := { name := "canonCodeIn", fn := fun _ => fun
  | [d1, d2] => { results := [.lit (.bool true)], args := [d1, d2] }
  | _ => none }
def canonCodeInRow : OpenClaim := { program := "ytoaenbfidlgjhaa", sum := "ef876145287fbf90a1d46430f9d8cec91a7dad07b9debb328f1e4af52440b2fe", func := "scarfjoint/scarfjointlaw09.CanonCodeIn", spec := "canonCodeIn", unfollowed := true, recurses := true, apart := false }
def CanonCodeInSaid : Prop := canonCodeInRow.holds Try.pinned (OpenSpec.ofChange canonCodeInSpec)

/-- ITS FALSE NEIGHBOUR: 'it returns false'. Refute it at one input. -/
def canonCodeInWrong : ChangeSpec := { name := "canonCodeIn", fn := fun _ => fun
  | [d1, d2] => { results := [.lit (.bool false)], args := [d1, d2] }
  | _ => none }
def CanonCodeInWrongFalsely : Prop := canonCodeInRow.holds Try.pinned (OpenSpec.ofChange canonCodeInWrong)

/-- 'scarfjointlaw09.CanonCode': WHATEVER THE INPUT: true; the input reads as it did. -/
def canonCodeSpec : ChangeSpec := { name := "canonCode", fn := fun _ => fun
  | [d] => { results := [.lit (.bool true)], args := [d] }
  | _ => none }
def canonCodeRow : OpenClaim := { program := "ytoaenbfidlgjhaa", sum := "ef876145287fbf90a1d46430f9d8cec91a7dad07b9debb328f1e4af52440b2fe", func := "scarfjoint/scarfjointlaw09.CanonCode", spec := "canonCode", unfollowed := true, recurses := true, apart := false }
def CanonCodeSaid : Prop := canonCodeRow.holds Try.pinned (OpenSpec.ofChange canonCodeSpec)

/-- ITS FALSE NEIGHBOUR: 'it returns false'. Refute it at one input. -/
def canonCodeWrong : ChangeSpec := { name := "canonCode", fn := fun _ => fun
  | [d] => { results := [.lit (.bool false)], args := [d] }
  | _ => none }
def CanonCodeWrongFalsely : Prop := canonCodeRow.holds Try.pinned (OpenSpec.ofChange canonCodeWrong)

/-- 'scarfjointlaw09.CanonOf': WHATEVER THE INPUT: true; the input reads as it did. -/
def canonOfSpec : ChangeSpec := { name := "canonOf", fn := fun _ => fun
  | [d] => { results := [.lit (.bool true)], args := [d] }
  | _ => none }
def canonOfRow : OpenClaim := { program := "ytoaenbfidlgjhaa", sum := "ef876145287fbf90a1d46430f9d8cec91a7dad07b9debb328f1e4af52440b2fe", func := "scarfjoint/scarfjointlaw09.CanonOf", spec := "canonOf", unfollowed := true, recurses := true, apart := false }
def CanonOfSaid : Prop := canonOfRow.holds Try.pinned (OpenSpec.ofChange canonOfSpec)

/-- ITS FALSE NEIGHBOUR: 'it returns false'. Refute it at one input. -/
def canonOfWrong : ChangeSpec := { name := "canonOf", fn := fun _ => fun
  | [d] => { results := [.lit (.bool false)], args := [d] }
  | _ => none }
def CanonOfWrongFalsely : Prop := canonOfRow.holds Try.pinned (OpenSpec.ofChange canonOfWrong)

/-- 'scarfjointlaw09.CanonCompare': WHATEVER THE INPUT: true; the input reads as it did. -/
def canonCompareSpec : ChangeSpec := { name := "canonCompare", fn := fun _ => fun
  | [d1, d2] => { results := [.lit (.bool true)], args := [d1, d2] }
  | _ => none }
def canonCompareRow : OpenClaim := { program := "ytoaenbfidlgjhaa", sum := "ef876145287fbf90a1d46430f9d8cec91a7dad07b9debb328f1e4af52440b2fe", func := "scarfjoint/scarfjointlaw09.CanonCompare", spec := "canonCompare", unfollowed := true, recurses := true, apart := false }
def CanonCompareSaid : Prop := canonCompareRow.holds Try.pinned (OpenSpec.ofChange canonCompareSpec)

/-- ITS FALSE NEIGHBOUR: 'it returns false'. Refute it at one input. -/
def canonCompareWrong : ChangeSpec := { name := "canonCompare", fn := fun _ => fun
  | [d1, d2] => { results := [.lit (.bool false)], args := [d1, d2] }
  | _ => none }
def CanonCompareWrongFalsely : Prop := canonCompareRow.holds Try.pinned (OpenSpec.ofChange canonCompareWrong)

/-- 'scarfjointlaw09.CanonReordered': WHATEVER THE INPUT: true; the input reads as it did. -/
def canonReorderedSpec : ChangeSpec := { name := "canonReordered", fn := fun _ => fun
  | [d1, d2] => { results := [.lit (.bool true)], args := [d1, d2] }
  | _ => none }
def canonReorderedRow : OpenClaim := { program := "ytoaenbfidlgjhaa", sum := "ef876145287fbf90a1d46430f9d8cec91a7dad07b9debb328f1e4af52440b2fe", func := "scarfjoint/scarfjointlaw09.CanonReordered", spec := "canonReordered", unfollowed := true, recurses := true, apart := false }
def CanonReorderedSaid : Prop := canonReorderedRow.holds Try.pinned (OpenSpec.ofChange canonReorderedSpec)

/-- ITS FALSE NEIGHBOUR: 'it returns false'. Refute it at one input. -/
def canonReorderedWrong : ChangeSpec := { name := "canonReordered", fn := fun _ => fun
  | [d1, d2] => { results := [.lit (.bool false)], args := [d1, d2] }
  | _ => none }
def CanonReorderedWrongFalsely : Prop := canonReorderedRow.holds Try.pinned (OpenSpec.ofChange canonReorderedWrong)

/-- 'scarfjointlaw09.CanonClassify': WHATEVER THE INPUT: true; the input reads as it did. -/
def canonClassifySpec : ChangeSpec := { name := "canonClassify", fn := fun _ => fun
  | [d] => { results := [.lit (.bool true)], args := [d] }
  | _ => none }
def canonClassifyRow : OpenClaim := { program := "ytoaenbfidlgjhaa", sum := "ef876145287fbf90a1d46430f9d8cec91a7dad07b9debb328f1e4af52440b2fe", func := "scarfjoint/scarfjointlaw09.CanonClassify", spec := "canonClassify", unfollowed := true, recurses := true, apart := false }
def CanonClassifySaid : Prop := canonClassifyRow.holds Try.pinned (OpenSpec.ofChange canonClassifySpec)

/-- ITS FALSE NEIGHBOUR: 'it returns false'. Refute it at one input. -/
def canonClassifyWrong : ChangeSpec := { name := "canonClassify", fn := fun _ => fun
  | [d] => { results := [.lit (.bool false)], args := [d] }
  | _ => none }
def CanonClassifyWrongFalsely : Prop := canonClassifyRow.holds Try.pinned (OpenSpec.ofChange canonClassifyWrong)

/-- 'scarfjointlaw09.CanonDifferent': WHATEVER THE INPUT: true; the input reads as it did. -/
def canonDifferentSpec : ChangeSpec := { name := "canonDifferent", fn := fun _ => fun
  | [d1, d2] => { results := [.lit (.bool true)], args := [d1, d2] }
  | _ => none }
def canonDifferentRow : OpenClaim := { program := "ytoaenbfidlgjhaa", sum := "ef876145287fbf90a1d46430f9d8cec91a7dad07b9debb328f1e4af52440b2fe", func := "scarfjoint/scarfjointlaw09.CanonDifferent", spec := "canonDifferent", unfollowed := true, recurses := true, apart := false }
def CanonDifferentSaid : Prop := canonDifferentRow.holds Try.pinned (OpenSpec.ofChange canonDifferentSpec)

/-- ITS FALSE NEIGHBOUR: 'it returns false'. Refute it at one input. -/
def canonDifferentWrong : ChangeSpec := { name := "canonDifferent", fn := fun _ => fun
  | [d1, d2] => { results := [.lit (.bool false)], args := [d1, d2] }
  | _ => none }
def CanonDifferentWrongFalsely : Prop := canonDifferentRow.holds Try.pinned (OpenSpec.ofChange canonDifferentWrong)

/-- 'scarfjointlaw09.CanonDecode': WHATEVER THE INPUT: true; the input reads as it did. -/
def canonDecodeSpec : ChangeSpec := { name := "canonDecode", fn := fun _ => fun
  | [d] => { results := [.lit (.bool true)], args := [d] }
  | _ => none }
def canonDecodeRow : OpenClaim := { program := "ytoaenbfidlgjhaa", sum := "ef876145287fbf90a1d46430f9d8cec91a7dad07b9debb328f1e4af52440b2fe", func := "scarfjoint/scarfjointlaw09.CanonDecode", spec := "canonDecode", unfollowed := true, recurses := true, apart := false }
def CanonDecodeSaid : Prop := canonDecodeRow.holds Try.pinned (OpenSpec.ofChange canonDecodeSpec)

/-- ITS FALSE NEIGHBOUR: 'it returns false'. Refute it at one input. -/
def canonDecodeWrong : ChangeSpec := { name := "canonDecode", fn := fun _ => fun
  | [d] => { results := [.lit (.bool false)], args := [d] }
  | _ => none }
def CanonDecodeWrongFalsely : Prop := canonDecodeRow.holds Try.pinned (OpenSpec.ofChange canonDecodeWrong)

/- THE SECOND FORM. 'bulk': how many values and letters a reading holds, each counted each time it is reached (what is shared counts as often as it is met; a slice's spare places count too). A statement '..UptoSaid' is the law's where the arguments, and the package variables that the reading takes, are together of bulk at most 1048576: NARROWER than '..Said'. Prove '..Said' where nothing that the law and all that it calls make is longer than what came in: it says more and counts as full. Else prove '..UptoSaid'. A law counts once. -/
mutual
def uptoBulk {H : Type} : DataW H → Nat
  | .lit (.string bytes) => bytes.length + 1
  | .lit _ => 1
  | .nil => 1
  | .ptr d => uptoBulk d + 1
  | .slice elems spare => uptoBulkAll elems + uptoBulkAll spare + 1
  | .agg parts => uptoBulkAll parts + 1
  | .iface _ d => uptoBulk d + 1
  | .map entries => uptoBulkEntries entries + 1
  | .held _ => 1
def uptoBulkAll {H : Type} : List (DataW H) → Nat
  | [] => 0
  | d :: r => uptoBulk d + uptoBulkAll r
def uptoBulkEntries {H : Type} : List (Lit × DataW H) → Nat
  | [] => 0
  | x :: r => uptoBulkEntry x + uptoBulkEntries r
def uptoBulkEntry {H : Type} : Lit × DataW H → Nat
  | (.string bytes, d) => bytes.length + uptoBulk d + 1
  | (_, d) => uptoBulk d + 1
 end
def uptoSmall : (H : Type) → List (DataW H) → Bool := fun _ ds => decide (uptoBulkAll ds ≤ 1048576)
def OpenSpec.upto (s : _root_.Go.ChangeSpec) : _root_.Go.OpenSpec := { _root_.Go.OpenSpec.ofChange s with cond := some uptoSmall }

/-- 'scarfjointlaw09.CanonCodeIn', WHERE WHAT IT READS IS OF BULK AT MOST 1048576: true; the input reads as it did. -/
def canonCodeInUptoRow : OpenClaim := { program := "ytoaenbfidlgjhaa", sum := "ef876145287fbf90a1d46430f9d8cec91a7dad07b9debb328f1e4af52440b2fe", func := "scarfjoint/scarfjointlaw09.CanonCodeIn", spec := "canonCodeIn", unfollowed := true, recurses := true, apart := false, narrowed := true }
def CanonCodeInUptoSaid : Prop := canonCodeInUptoRow.holds Try.pinned (OpenSpec.upto canonCodeInSpec)

/-- 'scarfjointlaw09.CanonCode', WHERE WHAT IT READS IS OF BULK AT MOST 1048576: true; the input reads as it did. -/
def canonCodeUptoRow : OpenClaim := { program := "ytoaenbfidlgjhaa", sum := "ef876145287fbf90a1d46430f9d8cec91a7dad07b9debb328f1e4af52440b2fe", func := "scarfjoint/scarfjointlaw09.CanonCode", spec := "canonCode", unfollowed := true, recurses := true, apart := false, narrowed := true }
def CanonCodeUptoSaid : Prop := canonCodeUptoRow.holds Try.pinned (OpenSpec.upto canonCodeSpec)

/-- 'scarfjointlaw09.CanonOf', WHERE WHAT IT READS IS OF BULK AT MOST 1048576: true; the input reads as it did. -/
def canonOfUptoRow : OpenClaim := { program := "ytoaenbfidlgjhaa", sum := "ef876145287fbf90a1d46430f9d8cec91a7dad07b9debb328f1e4af52440b2fe", func := "scarfjoint/scarfjointlaw09.CanonOf", spec := "canonOf", unfollowed := true, recurses := true, apart := false, narrowed := true }
def CanonOfUptoSaid : Prop := canonOfUptoRow.holds Try.pinned (OpenSpec.upto canonOfSpec)

/-- 'scarfjointlaw09.CanonCompare', WHERE WHAT IT READS IS OF BULK AT MOST 1048576: true; the input reads as it did. -/
def canonCompareUptoRow : OpenClaim := { program := "ytoaenbfidlgjhaa", sum := "ef876145287fbf90a1d46430f9d8cec91a7dad07b9debb328f1e4af52440b2fe", func := "scarfjoint/scarfjointlaw09.CanonCompare", spec := "canonCompare", unfollowed := true, recurses := true, apart := false, narrowed := true }
def CanonCompareUptoSaid : Prop := canonCompareUptoRow.holds Try.pinned (OpenSpec.upto canonCompareSpec)

/-- 'scarfjointlaw09.CanonReordered', WHERE WHAT IT READS IS OF BULK AT MOST 1048576: true; the input reads as it did. -/
def canonReorderedUptoRow : OpenClaim := { program := "ytoaenbfidlgjhaa", sum := "ef876145287fbf90a1d46430f9d8cec91a7dad07b9debb328f1e4af52440b2fe", func := "scarfjoint/scarfjointlaw09.CanonReordered", spec := "canonReordered", unfollowed := true, recurses := true, apart := false, narrowed := true }
def CanonReorderedUptoSaid : Prop := canonReorderedUptoRow.holds Try.pinned (OpenSpec.upto canonReorderedSpec)

/-- 'scarfjointlaw09.CanonClassify', WHERE WHAT IT READS IS OF BULK AT MOST 1048576: true; the input reads as it did. -/
def canonClassifyUptoRow : OpenClaim := { program := "ytoaenbfidlgjhaa", sum := "ef876145287fbf90a1d46430f9d8cec91a7dad07b9debb328f1e4af52440b2fe", func := "scarfjoint/scarfjointlaw09.CanonClassify", spec := "canonClassify", unfollowed := true, recurses := true, apart := false, narrowed := true }
def CanonClassifyUptoSaid : Prop := canonClassifyUptoRow.holds Try.pinned (OpenSpec.upto canonClassifySpec)

/-- 'scarfjointlaw09.CanonDifferent', WHERE WHAT IT READS IS OF BULK AT MOST 1048576: true; the input reads as it did. -/
def canonDifferentUptoRow : OpenClaim := { program := "ytoaenbfidlgjhaa", sum := "ef876145287fbf90a1d46430f9d8cec91a7dad07b9debb328f1e4af52440b2fe", func := "scarfjoint/scarfjointlaw09.CanonDifferent", spec := "canonDifferent", unfollowed := true, recurses := true, apart := false, narrowed := true }
def CanonDifferentUptoSaid : Prop := canonDifferentUptoRow.holds Try.pinned (OpenSpec.upto canonDifferentSpec)

/-- 'scarfjointlaw09.CanonDecode', WHERE WHAT IT READS IS OF BULK AT MOST 1048576: true; the input reads as it did. -/
def canonDecodeUptoRow : OpenClaim := { program := "ytoaenbfidlgjhaa", sum := "ef876145287fbf90a1d46430f9d8cec91a7dad07b9debb328f1e4af52440b2fe", func := "scarfjoint/scarfjointlaw09.CanonDecode", spec := "canonDecode", unfollowed := true, recurses := true, apart := false, narrowed := true }
def CanonDecodeUptoSaid : Prop := canonDecodeUptoRow.holds Try.pinned (OpenSpec.upto canonDecodeSpec)

end Rows
end Go.Proofs.Ytoaenbfidlgjhaa
