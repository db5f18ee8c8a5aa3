/-
  No cell of these rows narrows 'for every input' (looked for: loops, veiled, ifaces, maps, wideKeys, modest, calm, conditions, laid).
  DERIVED. THE GIVEN ROWS OF THIS SEAT. 8 by the template 'for every input the law returns true; each argument reads behind the call as it read before'; 0 by the template 'total and deterministic' (their statements: YtebmopjobmjhmaaTotals.lean).
  GIVEN WITH THE SEED: the statements are not yours to turn. If you find one false, say at which input.
  Laid BY PROGRAM, IN A SANDBOX (cutbox-rows.mjs): the forced cells as the released guide's own fill.sh prints them over the translation 2203e5c387419ee1… (all of the seat's roots in one cut). By AI agents, Wed Nov 11 2026. No macro, syntax, notation, axiom, sorry.
-/
import Derived.Test.YtebmopjobmjhmaaChecked
import GoSem.Claim
import GoSem.ClaimJoined
import GoSem.ClaimMapViews
import Derived.JoinedTies
import Derived.KernelRfl
namespace Go.Proofs.Ytebmopjobmjhmaa
/- THE CELL 'sum', in the pinned program and in every row, IS THE sha256 OF THE DUMP (.gsa) THAT YtebmopjobmjhmaaProg.lean LOADS. Nothing in Lean hashes anything: it is a label: what it is worth is what the hold of that sum in a sandbox is worth. -/
noncomputable def Try.pinned : Pinned := { name := "ytebmopjobmjhmaa", sum := "2203e5c387419ee16ad71617f9d5679bbee9c1cf2a923559b274d8ad97ffd810", checked := Try.checked }
namespace Rows
def none {H : Type} : Left H := { results := [], args := [] }

/-- 'scarfjointlaw04.TypesValid': WHATEVER THE INPUT: true; the input reads as it did. -/
def typesValidSpec : ChangeSpec := { name := "typesValid", fn := fun _ => fun
  | [d] => { results := [.lit (.bool true)], args := [d] }
  | _ => none }
def typesValidRow : OpenClaim := { program := "ytebmopjobmjhmaa", sum := "2203e5c387419ee16ad71617f9d5679bbee9c1cf2a923559b274d8ad97ffd810", func := "scarfjoint/scarfjointlaw04.TypesValid", spec := "typesValid", inPlace := ["internal/bytealg.IndexByteString"], unfollowed := true, recurses := true, apart := false }
def TypesValidSaid : Prop := typesValidRow.holds Try.pinned (OpenSpec.ofChange typesValidSpec)

/-- ITS FALSE NEIGHBOUR: 'it returns false'. Refute it at one input. -/
def typesValidWrong : ChangeSpec := { name := "typesValid", fn := fun _ => fun
  | [d] => { results := [.lit (.bool false)], args := [d] }
  | _ => none }
def TypesValidWrongFalsely : Prop := typesValidRow.holds Try.pinned (OpenSpec.ofChange typesValidWrong)

/-- 'scarfjointlaw04.TypesMeet': WHATEVER THE INPUT: true; the input reads as it did. -/
def typesMeetSpec : ChangeSpec := { name := "typesMeet", fn := fun _ => fun
  | [d1, d2, d3] => { results := [.lit (.bool true)], args := [d1, d2, d3] }
  | _ => none }
def typesMeetRow : OpenClaim := { program := "ytebmopjobmjhmaa", sum := "2203e5c387419ee16ad71617f9d5679bbee9c1cf2a923559b274d8ad97ffd810", func := "scarfjoint/scarfjointlaw04.TypesMeet", spec := "typesMeet", inPlace := ["internal/bytealg.IndexByteString"], unfollowed := true, recurses := true, apart := false }
def TypesMeetSaid : Prop := typesMeetRow.holds Try.pinned (OpenSpec.ofChange typesMeetSpec)

/-- ITS FALSE NEIGHBOUR: 'it returns false'. Refute it at one input. -/
def typesMeetWrong : ChangeSpec := { name := "typesMeet", fn := fun _ => fun
  | [d1, d2, d3] => { results := [.lit (.bool false)], args := [d1, d2, d3] }
  | _ => none }
def TypesMeetWrongFalsely : Prop := typesMeetRow.holds Try.pinned (OpenSpec.ofChange typesMeetWrong)

/-- 'scarfjointlaw04.TypesIs': WHATEVER THE INPUT: true; the input reads as it did. -/
def typesIsSpec : ChangeSpec := { name := "typesIs", fn := fun _ => fun
  | [d1, d2, d3] => { results := [.lit (.bool true)], args := [d1, d2, d3] }
  | _ => none }
def typesIsRow : OpenClaim := { program := "ytebmopjobmjhmaa", sum := "2203e5c387419ee16ad71617f9d5679bbee9c1cf2a923559b274d8ad97ffd810", func := "scarfjoint/scarfjointlaw04.TypesIs", spec := "typesIs", inPlace := ["internal/bytealg.IndexByteString"], unfollowed := true, recurses := true, apart := false }
def TypesIsSaid : Prop := typesIsRow.holds Try.pinned (OpenSpec.ofChange typesIsSpec)

/-- ITS FALSE NEIGHBOUR: 'it returns false'. Refute it at one input. -/
def typesIsWrong : ChangeSpec := { name := "typesIs", fn := fun _ => fun
  | [d1, d2, d3] => { results := [.lit (.bool false)], args := [d1, d2, d3] }
  | _ => none }
def TypesIsWrongFalsely : Prop := typesIsRow.holds Try.pinned (OpenSpec.ofChange typesIsWrong)

/-- 'scarfjointlaw04.TypesOrder': WHATEVER THE INPUT: true; the input reads as it did. -/
def typesOrderSpec : ChangeSpec := { name := "typesOrder", fn := fun _ => fun
  | [d1, d2] => { results := [.lit (.bool true)], args := [d1, d2] }
  | _ => none }
def typesOrderRow : OpenClaim := { program := "ytebmopjobmjhmaa", sum := "2203e5c387419ee16ad71617f9d5679bbee9c1cf2a923559b274d8ad97ffd810", func := "scarfjoint/scarfjointlaw04.TypesOrder", spec := "typesOrder", inPlace := ["internal/bytealg.IndexByteString"], unfollowed := true, recurses := true, apart := false }
def TypesOrderSaid : Prop := typesOrderRow.holds Try.pinned (OpenSpec.ofChange typesOrderSpec)

/-- ITS FALSE NEIGHBOUR: 'it returns false'. Refute it at one input. -/
def typesOrderWrong : ChangeSpec := { name := "typesOrder", fn := fun _ => fun
  | [d1, d2] => { results := [.lit (.bool false)], args := [d1, d2] }
  | _ => none }
def TypesOrderWrongFalsely : Prop := typesOrderRow.holds Try.pinned (OpenSpec.ofChange typesOrderWrong)

/-- 'scarfjointlaw04.TypesBounds': WHATEVER THE INPUT: true; the input reads as it did. -/
def typesBoundsSpec : ChangeSpec := { name := "typesBounds", fn := fun _ => fun
  | [d1, d2] => { results := [.lit (.bool true)], args := [d1, d2] }
  | _ => none }
def typesBoundsRow : OpenClaim := { program := "ytebmopjobmjhmaa", sum := "2203e5c387419ee16ad71617f9d5679bbee9c1cf2a923559b274d8ad97ffd810", func := "scarfjoint/scarfjointlaw04.TypesBounds", spec := "typesBounds", inPlace := ["internal/bytealg.IndexByteString"], unfollowed := true, recurses := true, apart := false }
def TypesBoundsSaid : Prop := typesBoundsRow.holds Try.pinned (OpenSpec.ofChange typesBoundsSpec)

/-- ITS FALSE NEIGHBOUR: 'it returns false'. Refute it at one input. -/
def typesBoundsWrong : ChangeSpec := { name := "typesBounds", fn := fun _ => fun
  | [d1, d2] => { results := [.lit (.bool false)], args := [d1, d2] }
  | _ => none }
def TypesBoundsWrongFalsely : Prop := typesBoundsRow.holds Try.pinned (OpenSpec.ofChange typesBoundsWrong)

/-- 'scarfjointlaw04.TypesFits': WHATEVER THE INPUT: true; the input reads as it did. -/
def typesFitsSpec : ChangeSpec := { name := "typesFits", fn := fun _ => fun
  | [d1, d2] => { results := [.lit (.bool true)], args := [d1, d2] }
  | _ => none }
def typesFitsRow : OpenClaim := { program := "ytebmopjobmjhmaa", sum := "2203e5c387419ee16ad71617f9d5679bbee9c1cf2a923559b274d8ad97ffd810", func := "scarfjoint/scarfjointlaw04.TypesFits", spec := "typesFits", inPlace := ["internal/bytealg.IndexByteString"], unfollowed := true, recurses := true, apart := false }
def TypesFitsSaid : Prop := typesFitsRow.holds Try.pinned (OpenSpec.ofChange typesFitsSpec)

/-- ITS FALSE NEIGHBOUR: 'it returns false'. Refute it at one input. -/
def typesFitsWrong : ChangeSpec := { name := "typesFits", fn := fun _ => fun
  | [d1, d2] => { results := [.lit (.bool false)], args := [d1, d2] }
  | _ => none }
def TypesFitsWrongFalsely : Prop := typesFitsRow.holds Try.pinned (OpenSpec.ofChange typesFitsWrong)

/-- 'scarfjointlaw04.TypesLists': WHATEVER THE INPUT: true; the input reads as it did. -/
def typesListsSpec : ChangeSpec := { name := "typesLists", fn := fun _ => fun
  | [d1, d2] => { results := [.lit (.bool true)], args := [d1, d2] }
  | _ => none }
def typesListsRow : OpenClaim := { program := "ytebmopjobmjhmaa", sum := "2203e5c387419ee16ad71617f9d5679bbee9c1cf2a923559b274d8ad97ffd810", func := "scarfjoint/scarfjointlaw04.TypesLists", spec := "typesLists", inPlace := ["internal/bytealg.IndexByteString"], unfollowed := true, recurses := true, apart := false }
def TypesListsSaid : Prop := typesListsRow.holds Try.pinned (OpenSpec.ofChange typesListsSpec)

/-- ITS FALSE NEIGHBOUR: 'it returns false'. Refute it at one input. -/
def typesListsWrong : ChangeSpec := { name := "typesLists", fn := fun _ => fun
  | [d1, d2] => { results := [.lit (.bool false)], args := [d1, d2] }
  | _ => none }
def TypesListsWrongFalsely : Prop := typesListsRow.holds Try.pinned (OpenSpec.ofChange typesListsWrong)

/-- 'scarfjointlaw04.TypesInherit': WHATEVER THE INPUT: true; the input reads as it did. -/
def typesInheritSpec : ChangeSpec := { name := "typesInherit", fn := fun _ => fun
  | [d1, d2, d3] => { results := [.lit (.bool true)], args := [d1, d2, d3] }
  | _ => none }
def typesInheritRow : OpenClaim := { program := "ytebmopjobmjhmaa", sum := "2203e5c387419ee16ad71617f9d5679bbee9c1cf2a923559b274d8ad97ffd810", func := "scarfjoint/scarfjointlaw04.TypesInherit", spec := "typesInherit", inPlace := ["internal/bytealg.IndexByteString"], unfollowed := true, recurses := true, apart := false }
def TypesInheritSaid : Prop := typesInheritRow.holds Try.pinned (OpenSpec.ofChange typesInheritSpec)

/-- ITS FALSE NEIGHBOUR: 'it returns false'. Refute it at one input. -/
def typesInheritWrong : ChangeSpec := { name := "typesInherit", fn := fun _ => fun
  | [d1, d2, d3] => { results := [.lit (.bool false)], args := [d1, d2, d3] }
  | _ => none }
def TypesInheritWrongFalsely : Prop := typesInheritRow.holds Try.pinned (OpenSpec.ofChange typesInheritWrong)

/- THE SECOND FORM. 'bulk': how many values and letters a reading holds, each counted each time it is reached (what is shared counts as often as it is met; a slice's spare places count too). A statement '..UptoSaid' is the law's where the arguments, and the package variables that the reading takes, are together of bulk at most 1048576: NARROWER than '..Said'. Prove '..Said' where nothing that the law and all that it calls make is longer than what came in: it says more and counts as full. Else prove '..UptoSaid'. A law counts once. -/
mutual
def uptoBulk {H : Type} : DataW H → Nat
  | .lit (.string bytes) => bytes.length + 1
  | .lit _ => 1
  | .nil => 1
  | .ptr d => uptoBulk d + 1
  | .slice elems spare => uptoBulkAll elems + uptoBulkAll spare + 1
  | .agg parts => uptoBulkAll parts + 1
  | .iface _ d => uptoBulk d + 1
  | .map entries => uptoBulkEntries entries + 1
  | .held _ => 1
def uptoBulkAll {H : Type} : List (DataW H) → Nat
  | [] => 0
  | d :: r => uptoBulk d + uptoBulkAll r
def uptoBulkEntries {H : Type} : List (Lit × DataW H) → Nat
  | [] => 0
  | x :: r => uptoBulkEntry x + uptoBulkEntries r
def uptoBulkEntry {H : Type} : Lit × DataW H → Nat
  | (.string bytes, d) => bytes.length + uptoBulk d + 1
  | (_, d) => uptoBulk d + 1
 end
def uptoSmall : (H : Type) → List (DataW H) → Bool := fun _ ds => decide (uptoBulkAll ds ≤ 1048576)
def OpenSpec.upto (s : _root_.Go.ChangeSpec) : _root_.Go.OpenSpec := { _root_.Go.OpenSpec.ofChange s with cond := some uptoSmall }

/-- 'scarfjointlaw04.TypesValid', WHERE WHAT IT READS IS OF BULK AT MOST 1048576: true; the input reads as it did. -/
def typesValidUptoRow : OpenClaim := { program := "ytebmopjobmjhmaa", sum := "2203e5c387419ee16ad71617f9d5679bbee9c1cf2a923559b274d8ad97ffd810", func := "scarfjoint/scarfjointlaw04.TypesValid", spec := "typesValid", inPlace := ["internal/bytealg.IndexByteString"], unfollowed := true, recurses := true, apart := false, narrowed := true }
def TypesValidUptoSaid : Prop := typesValidUptoRow.holds Try.pinned (OpenSpec.upto typesValidSpec)

/-- 'scarfjointlaw04.TypesMeet', WHERE WHAT IT READS IS OF BULK AT MOST 1048576: true; the input reads as it did. -/
def typesMeetUptoRow : OpenClaim := { program := "ytebmopjobmjhmaa", sum := "2203e5c387419ee16ad71617f9d5679bbee9c1cf2a923559b274d8ad97ffd810", func := "scarfjoint/scarfjointlaw04.TypesMeet", spec := "typesMeet", inPlace := ["internal/bytealg.IndexByteString"], unfollowed := true, recurses := true, apart := false, narrowed := true }
def TypesMeetUptoSaid : Prop := typesMeetUptoRow.holds Try.pinned (OpenSpec.upto typesMeetSpec)

/-- 'scarfjointlaw04.TypesIs', WHERE WHAT IT READS IS OF BULK AT MOST 1048576: true; the input reads as it did. -/
def typesIsUptoRow : OpenClaim := { program := "ytebmopjobmjhmaa", sum := "2203e5c387419ee16ad71617f9d5679bbee9c1cf2a923559b274d8ad97ffd810", func := "scarfjoint/scarfjointlaw04.TypesIs", spec := "typesIs", inPlace := ["internal/bytealg.IndexByteString"], unfollowed := true, recurses := true, apart := false, narrowed := true }
def TypesIsUptoSaid : Prop := typesIsUptoRow.holds Try.pinned (OpenSpec.upto typesIsSpec)

/-- 'scarfjointlaw04.TypesOrder', WHERE WHAT IT READS IS OF BULK AT MOST 1048576: true; the input reads as it did. -/
def typesOrderUptoRow : OpenClaim := { program := "ytebmopjobmjhmaa", sum := "2203e5c387419ee16ad71617f9d5679bbee9c1cf2a923559b274d8ad97ffd810", func := "scarfjoint/scarfjointlaw04.TypesOrder", spec := "typesOrder", inPlace := ["internal/bytealg.IndexByteString"], unfollowed := true, recurses := true, apart := false, narrowed := true }
def TypesOrderUptoSaid : Prop := typesOrderUptoRow.holds Try.pinned (OpenSpec.upto typesOrderSpec)

/-- 'scarfjointlaw04.TypesBounds', WHERE WHAT IT READS IS OF BULK AT MOST 1048576: true; the input reads as it did. -/
def typesBoundsUptoRow : OpenClaim := { program := "ytebmopjobmjhmaa", sum := "2203e5c387419ee16ad71617f9d5679bbee9c1cf2a923559b274d8ad97ffd810", func := "scarfjoint/scarfjointlaw04.TypesBounds", spec := "typesBounds", inPlace := ["internal/bytealg.IndexByteString"], unfollowed := true, recurses := true, apart := false, narrowed := true }
def TypesBoundsUptoSaid : Prop := typesBoundsUptoRow.holds Try.pinned (OpenSpec.upto typesBoundsSpec)

/-- 'scarfjointlaw04.TypesFits', WHERE WHAT IT READS IS OF BULK AT MOST 1048576: true; the input reads as it did. -/
def typesFitsUptoRow : OpenClaim := { program := "ytebmopjobmjhmaa", sum := "2203e5c387419ee16ad71617f9d5679bbee9c1cf2a923559b274d8ad97ffd810", func := "scarfjoint/scarfjointlaw04.TypesFits", spec := "typesFits", inPlace := ["internal/bytealg.IndexByteString"], unfollowed := true, recurses := true, apart := false, narrowed := true }
def TypesFitsUptoSaid : Prop := typesFitsUptoRow.holds Try.pinned (OpenSpec.upto typesFitsSpec)

/-- 'scarfjointlaw04.TypesLists', WHERE WHAT IT READS IS OF BULK AT MOST 1048576: true; the input reads as it did. -/
def typesListsUptoRow : OpenClaim := { program := "ytebmopjobmjhmaa", sum := "2203e5c387419ee16ad71617f9d5679bbee9c1cf2a923559b274d8ad97ffd810", func := "scarfjoint/scarfjointlaw04.TypesLists", spec := "typesLists", inPlace := ["internal/bytealg.IndexByteString"], unfollowed := true, recurses := true, apart := false, narrowed := true }
def TypesListsUptoSaid : Prop := typesListsUptoRow.holds Try.pinned (OpenSpec.upto typesListsSpec)

/-- 'scarfjointlaw04.TypesInherit', WHERE WHAT IT READS IS OF BULK AT MOST 1048576: true; the input reads as it did. -/
def typesInheritUptoRow : OpenClaim := { program := "ytebmopjobmjhmaa", sum := "2203e5c387419ee16ad71617f9d5679bbee9c1cf2a923559b274d8ad97ffd810", func := "scarfjoint/scarfjointlaw04.TypesInherit", spec := "typesInherit", inPlace := ["internal/bytealg.IndexByteString"], unfollowed := true, recurses := true, apart := false, narrowed := true }
def TypesInheritUptoSaid : Prop := typesInheritUptoRow.holds Try.pinned (OpenSpec.upto typesInheritSpec)

end Rows
end Go.Proofs.Ytebmopjobmjhmaa
