/-
  No cell of these rows narrows 'for every input' (looked for: loops, veiled, ifaces, maps, wideKeys, modest, calm, conditions, laid).
  DERIVED. THE GIVEN ROWS OF THIS SEAT. 7 by the template 'for every input the law returns true; each argument reads behind the call as it read before'; 0 by the template 'total and deterministic' (their statements: YtjkgjlaockihaaaTotals.lean).
  GIVEN WITH THE SEED: the statements are not yours to turn. If you find one false, say at which input.
  Laid BY PROGRAM, IN A SANDBOX (cutbox-rows.mjs): the forced cells as the released guide's own fill.sh prints them over the translation b9988b45887496e7… (all of the seat's roots in one cut). By AI agents, Wed Nov 11 2026. No macro, syntax, notation, axiom, sorry.
-/
import Derived.Test.YtjkgjlaockihaaaChecked
import GoSem.Claim
import GoSem.ClaimJoined
import GoSem.ClaimMapViews
import Derived.JoinedTies
import Derived.KernelRfl
namespace Go.Proofs.Ytjkgjlaockihaaa
/- THE CELL 'sum', in the pinned program and in every row, IS THE sha256 OF THE DUMP (.gsa) THAT YtjkgjlaockihaaaProg.lean LOADS. Nothing in Lean hashes anything: it is a label: what it is worth is what the hold of that sum in a sandbox is worth. -/
noncomputable def Try.pinned : Pinned := { name := "ytjkgjlaockihaaa", sum := "b9988b45887496e74039300918f633ea2c42a638d9404ae5e054500d55a8ddf2", checked := Try.checked }
namespace Rows
def none {H : Type} : Left H := { results := [], args := [] }

/-- 'scarfjointlaw02.PartitionParts': WHATEVER THE INPUT: true; the input reads as it did. -/
def partitionPartsSpec : ChangeSpec := { name := "partitionParts", fn := fun _ => fun
  | [d1, d2] => { results := [.lit (.bool true)], args := [d1, d2] }
  | _ => none }
def partitionPartsRow : OpenClaim := { program := "ytjkgjlaockihaaa", sum := "b9988b45887496e74039300918f633ea2c42a638d9404ae5e054500d55a8ddf2", func := "scarfjoint/scarfjointlaw02.PartitionParts", spec := "partitionParts", plainKeys := false, apart := false }
def PartitionPartsSaid : Prop := partitionPartsRow.holds Try.pinned (OpenSpec.ofChange partitionPartsSpec)

/-- ITS FALSE NEIGHBOUR: 'it returns false'. Refute it at one input. -/
def partitionPartsWrong : ChangeSpec := { name := "partitionParts", fn := fun _ => fun
  | [d1, d2] => { results := [.lit (.bool false)], args := [d1, d2] }
  | _ => none }
def PartitionPartsWrongFalsely : Prop := partitionPartsRow.holds Try.pinned (OpenSpec.ofChange partitionPartsWrong)

/-- 'scarfjointlaw02.PartitionJoin': WHATEVER THE INPUT: true; the input reads as it did. -/
def partitionJoinSpec : ChangeSpec := { name := "partitionJoin", fn := fun _ => fun
  | [d1, d2] => { results := [.lit (.bool true)], args := [d1, d2] }
  | _ => none }
def partitionJoinRow : OpenClaim := { program := "ytjkgjlaockihaaa", sum := "b9988b45887496e74039300918f633ea2c42a638d9404ae5e054500d55a8ddf2", func := "scarfjoint/scarfjointlaw02.PartitionJoin", spec := "partitionJoin", plainKeys := false, apart := false }
def PartitionJoinSaid : Prop := partitionJoinRow.holds Try.pinned (OpenSpec.ofChange partitionJoinSpec)

/-- ITS FALSE NEIGHBOUR: 'it returns false'. Refute it at one input. -/
def partitionJoinWrong : ChangeSpec := { name := "partitionJoin", fn := fun _ => fun
  | [d1, d2] => { results := [.lit (.bool false)], args := [d1, d2] }
  | _ => none }
def PartitionJoinWrongFalsely : Prop := partitionJoinRow.holds Try.pinned (OpenSpec.ofChange partitionJoinWrong)

/-- 'scarfjointlaw02.PartitionBounds': WHATEVER THE INPUT: true; the input reads as it did. -/
def partitionBoundsSpec : ChangeSpec := { name := "partitionBounds", fn := fun _ => fun
  | [d1, d2, d3] => { results := [.lit (.bool true)], args := [d1, d2, d3] }
  | _ => none }
def partitionBoundsRow : OpenClaim := { program := "ytjkgjlaockihaaa", sum := "b9988b45887496e74039300918f633ea2c42a638d9404ae5e054500d55a8ddf2", func := "scarfjoint/scarfjointlaw02.PartitionBounds", spec := "partitionBounds", plainKeys := false, apart := false }
def PartitionBoundsSaid : Prop := partitionBoundsRow.holds Try.pinned (OpenSpec.ofChange partitionBoundsSpec)

/-- ITS FALSE NEIGHBOUR: 'it returns false'. Refute it at one input. -/
def partitionBoundsWrong : ChangeSpec := { name := "partitionBounds", fn := fun _ => fun
  | [d1, d2, d3] => { results := [.lit (.bool false)], args := [d1, d2, d3] }
  | _ => none }
def PartitionBoundsWrongFalsely : Prop := partitionBoundsRow.holds Try.pinned (OpenSpec.ofChange partitionBoundsWrong)

/-- 'scarfjointlaw02.PartitionLattice': WHATEVER THE INPUT: true; the input reads as it did. -/
def partitionLatticeSpec : ChangeSpec := { name := "partitionLattice", fn := fun _ => fun
  | [d1, d2, d3] => { results := [.lit (.bool true)], args := [d1, d2, d3] }
  | _ => none }
def partitionLatticeRow : OpenClaim := { program := "ytjkgjlaockihaaa", sum := "b9988b45887496e74039300918f633ea2c42a638d9404ae5e054500d55a8ddf2", func := "scarfjoint/scarfjointlaw02.PartitionLattice", spec := "partitionLattice", plainKeys := false, apart := false }
def PartitionLatticeSaid : Prop := partitionLatticeRow.holds Try.pinned (OpenSpec.ofChange partitionLatticeSpec)

/-- ITS FALSE NEIGHBOUR: 'it returns false'. Refute it at one input. -/
def partitionLatticeWrong : ChangeSpec := { name := "partitionLattice", fn := fun _ => fun
  | [d1, d2, d3] => { results := [.lit (.bool false)], args := [d1, d2, d3] }
  | _ => none }
def PartitionLatticeWrongFalsely : Prop := partitionLatticeRow.holds Try.pinned (OpenSpec.ofChange partitionLatticeWrong)

/-- 'scarfjointlaw02.PartitionQuotient': WHATEVER THE INPUT: true; the input reads as it did. -/
def partitionQuotientSpec : ChangeSpec := { name := "partitionQuotient", fn := fun _ => fun
  | [d] => { results := [.lit (.bool true)], args := [d] }
  | _ => none }
def partitionQuotientRow : OpenClaim := { program := "ytjkgjlaockihaaa", sum := "b9988b45887496e74039300918f633ea2c42a638d9404ae5e054500d55a8ddf2", func := "scarfjoint/scarfjointlaw02.PartitionQuotient", spec := "partitionQuotient", plainKeys := false, apart := false }
def PartitionQuotientSaid : Prop := partitionQuotientRow.holds Try.pinned (OpenSpec.ofChange partitionQuotientSpec)

/-- ITS FALSE NEIGHBOUR: 'it returns false'. Refute it at one input. -/
def partitionQuotientWrong : ChangeSpec := { name := "partitionQuotient", fn := fun _ => fun
  | [d] => { results := [.lit (.bool false)], args := [d] }
  | _ => none }
def PartitionQuotientWrongFalsely : Prop := partitionQuotientRow.holds Try.pinned (OpenSpec.ofChange partitionQuotientWrong)

/-- 'scarfjointlaw02.PartitionValid': WHATEVER THE INPUT: true; the input reads as it did. -/
def partitionValidSpec : ChangeSpec := { name := "partitionValid", fn := fun _ => fun
  | [d] => { results := [.lit (.bool true)], args := [d] }
  | _ => none }
def partitionValidRow : OpenClaim := { program := "ytjkgjlaockihaaa", sum := "b9988b45887496e74039300918f633ea2c42a638d9404ae5e054500d55a8ddf2", func := "scarfjoint/scarfjointlaw02.PartitionValid", spec := "partitionValid", plainKeys := false, apart := false }
def PartitionValidSaid : Prop := partitionValidRow.holds Try.pinned (OpenSpec.ofChange partitionValidSpec)

/-- ITS FALSE NEIGHBOUR: 'it returns false'. Refute it at one input. -/
def partitionValidWrong : ChangeSpec := { name := "partitionValid", fn := fun _ => fun
  | [d] => { results := [.lit (.bool false)], args := [d] }
  | _ => none }
def PartitionValidWrongFalsely : Prop := partitionValidRow.holds Try.pinned (OpenSpec.ofChange partitionValidWrong)

/-- 'scarfjointlaw02.PartitionAll': WHATEVER THE INPUT: true; the input reads as it did. -/
def partitionAllSpec : ChangeSpec := { name := "partitionAll", fn := fun _ => fun
  | [d] => { results := [.lit (.bool true)], args := [d] }
  | _ => none }
def partitionAllRow : OpenClaim := { program := "ytjkgjlaockihaaa", sum := "b9988b45887496e74039300918f633ea2c42a638d9404ae5e054500d55a8ddf2", func := "scarfjoint/scarfjointlaw02.PartitionAll", spec := "partitionAll", plainKeys := false, apart := false }
def PartitionAllSaid : Prop := partitionAllRow.holds Try.pinned (OpenSpec.ofChange partitionAllSpec)

/-- ITS FALSE NEIGHBOUR: 'it returns false'. Refute it at one input. -/
def partitionAllWrong : ChangeSpec := { name := "partitionAll", fn := fun _ => fun
  | [d] => { results := [.lit (.bool false)], args := [d] }
  | _ => none }
def PartitionAllWrongFalsely : Prop := partitionAllRow.holds Try.pinned (OpenSpec.ofChange partitionAllWrong)

/- THE SECOND FORM. 'bulk': how many values and letters a reading holds, each counted each time it is reached (what is shared counts as often as it is met; a slice's spare places count too). A statement '..UptoSaid' is the law's where the arguments, and the package variables that the reading takes, are together of bulk at most 1048576: NARROWER than '..Said'. Prove '..Said' where nothing that the law and all that it calls make is longer than what came in: it says more and counts as full. Else prove '..UptoSaid'. A law counts once. -/
mutual
def uptoBulk {H : Type} : DataW H → Nat
  | .lit (.string bytes) => bytes.length + 1
  | .lit _ => 1
  | .nil => 1
  | .ptr d => uptoBulk d + 1
  | .slice elems spare => uptoBulkAll elems + uptoBulkAll spare + 1
  | .agg parts => uptoBulkAll parts + 1
  | .iface _ d => uptoBulk d + 1
  | .map entries => uptoBulkEntries entries + 1
  | .held _ => 1
def uptoBulkAll {H : Type} : List (DataW H) → Nat
  | [] => 0
  | d :: r => uptoBulk d + uptoBulkAll r
def uptoBulkEntries {H : Type} : List (Lit × DataW H) → Nat
  | [] => 0
  | x :: r => uptoBulkEntry x + uptoBulkEntries r
def uptoBulkEntry {H : Type} : Lit × DataW H → Nat
  | (.string bytes, d) => bytes.length + uptoBulk d + 1
  | (_, d) => uptoBulk d + 1
 end
def uptoSmall : (H : Type) → List (DataW H) → Bool := fun _ ds => decide (uptoBulkAll ds ≤ 1048576)
def OpenSpec.upto (s : _root_.Go.ChangeSpec) : _root_.Go.OpenSpec := { _root_.Go.OpenSpec.ofChange s with cond := some uptoSmall }

/-- 'scarfjointlaw02.PartitionParts', WHERE WHAT IT READS IS OF BULK AT MOST 1048576: true; the input reads as it did. -/
def partitionPartsUptoRow : OpenClaim := { program := "ytjkgjlaockihaaa", sum := "b9988b45887496e74039300918f633ea2c42a638d9404ae5e054500d55a8ddf2", func := "scarfjoint/scarfjointlaw02.PartitionParts", spec := "partitionParts", plainKeys := false, apart := false, narrowed := true }
def PartitionPartsUptoSaid : Prop := partitionPartsUptoRow.holds Try.pinned (OpenSpec.upto partitionPartsSpec)

/-- 'scarfjointlaw02.PartitionJoin', WHERE WHAT IT READS IS OF BULK AT MOST 1048576: true; the input reads as it did. -/
def partitionJoinUptoRow : OpenClaim := { program := "ytjkgjlaockihaaa", sum := "b9988b45887496e74039300918f633ea2c42a638d9404ae5e054500d55a8ddf2", func := "scarfjoint/scarfjointlaw02.PartitionJoin", spec := "partitionJoin", plainKeys := false, apart := false, narrowed := true }
def PartitionJoinUptoSaid : Prop := partitionJoinUptoRow.holds Try.pinned (OpenSpec.upto partitionJoinSpec)

/-- 'scarfjointlaw02.PartitionBounds', WHERE WHAT IT READS IS OF BULK AT MOST 1048576: true; the input reads as it did. -/
def partitionBoundsUptoRow : OpenClaim := { program := "ytjkgjlaockihaaa", sum := "b9988b45887496e74039300918f633ea2c42a638d9404ae5e054500d55a8ddf2", func := "scarfjoint/scarfjointlaw02.PartitionBounds", spec := "partitionBounds", plainKeys := false, apart := false, narrowed := true }
def PartitionBoundsUptoSaid : Prop := partitionBoundsUptoRow.holds Try.pinned (OpenSpec.upto partitionBoundsSpec)

/-- 'scarfjointlaw02.PartitionLattice', WHERE WHAT IT READS IS OF BULK AT MOST 1048576: true; the input reads as it did. -/
def partitionLatticeUptoRow : OpenClaim := { program := "ytjkgjlaockihaaa", sum := "b9988b45887496e74039300918f633ea2c42a638d9404ae5e054500d55a8ddf2", func := "scarfjoint/scarfjointlaw02.PartitionLattice", spec := "partitionLattice", plainKeys := false, apart := false, narrowed := true }
def PartitionLatticeUptoSaid : Prop := partitionLatticeUptoRow.holds Try.pinned (OpenSpec.upto partitionLatticeSpec)

/-- 'scarfjointlaw02.PartitionQuotient', WHERE WHAT IT READS IS OF BULK AT MOST 1048576: true; the input reads as it did. -/
def partitionQuotientUptoRow : OpenClaim := { program := "ytjkgjlaockihaaa", sum := "b9988b45887496e74039300918f633ea2c42a638d9404ae5e054500d55a8ddf2", func := "scarfjoint/scarfjointlaw02.PartitionQuotient", spec := "partitionQuotient", plainKeys := false, apart := false, narrowed := true }
def PartitionQuotientUptoSaid : Prop := partitionQuotientUptoRow.holds Try.pinned (OpenSpec.upto partitionQuotientSpec)

/-- 'scarfjointlaw02.PartitionValid', WHERE WHAT IT READS IS OF BULK AT MOST 1048576: true; the input reads as it did. -/
def partitionValidUptoRow : OpenClaim := { program := "ytjkgjlaockihaaa", sum := "b9988b45887496e74039300918f633ea2c42a638d9404ae5e054500d55a8ddf2", func := "scarfjoint/scarfjointlaw02.PartitionValid", spec := "partitionValid", plainKeys := false, apart := false, narrowed := true }
def PartitionValidUptoSaid : Prop := partitionValidUptoRow.holds Try.pinned (OpenSpec.upto partitionValidSpec)

/-- 'scarfjointlaw02.PartitionAll', WHERE WHAT IT READS IS OF BULK AT MOST 1048576: true; the input reads as it did. -/
def partitionAllUptoRow : OpenClaim := { program := "ytjkgjlaockihaaa", sum := "b9988b45887496e74039300918f633ea2c42a638d9404ae5e054500d55a8ddf2", func := "scarfjoint/scarfjointlaw02.PartitionAll", spec := "partitionAll", plainKeys := false, apart := false, narrowed := true }
def PartitionAllUptoSaid : Prop := partitionAllUptoRow.holds Try.pinned (OpenSpec.upto partitionAllSpec)

end Rows
end Go.Proofs.Ytjkgjlaockihaaa
