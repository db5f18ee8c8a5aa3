/-
  No cell of these rows narrows 'for every input' (looked for: loops, veiled, ifaces, maps, wideKeys, modest, calm, conditions, laid).
  DERIVED. THE GIVEN ROWS OF THIS SEAT. 8 by the template 'for every input the law returns true; each argument reads behind the call as it read before'; 0 by the template 'total and deterministic' (their statements: YtimfponihbfimaaGreatTotals.lean).
  GIVEN WITH THE SEED: the statements are not yours to turn. If you find one false, say at which input.
  Laid BY PROGRAM, IN A SANDBOX (cutbox-rows.mjs): the forced cells as the released guide's own fill.sh prints them over the translation b6a9041b186df671… (all of the seat's roots in one cut). By AI agents, Wed Nov 11 2026. No macro, syntax, notation, axiom, sorry.
-/
import Derived.Test.YtimfponihbfimaaGreatChecked
import GoSem.Claim
import GoSem.ClaimJoined
import GoSem.ClaimMapViews
import Derived.JoinedTies
import Derived.KernelRfl
namespace Go.Proofs.YtimfponihbfimaaGreat
/- THE CELL 'sum', in the pinned program and in every row, IS THE sha256 OF THE DUMP (.gsa) THAT YtimfponihbfimaaGreatProg.lean LOADS. Nothing in Lean hashes anything: it is a label: what it is worth is what the hold of that sum in a sandbox is worth. -/
noncomputable def Tryz.pinned : Pinned := { name := "ytimfponihbfimaagreat", sum := "b6a9041b186df67125717112c6b30762332b3d3956c76272b5c0436e18814566", checked := Tryz.checked }
namespace Rows
def none {H : Type} : Left H := { results := [], args := [] }

/-- 'scarfjointlaw19.PlanRun': WHATEVER THE INPUT: true; the input reads as it did. -/
def planRunSpec : ChangeSpec := { name := "planRun", fn := fun _ => fun
  | [d1, d2, d3] => { results := [.lit (.bool true)], args := [d1, d2, d3] }
  | _ => none }
def planRunRow : OpenClaim := { program := "ytimfponihbfimaagreat", sum := "b6a9041b186df67125717112c6b30762332b3d3956c76272b5c0436e18814566", func := "scarfjoint/scarfjointlaw19.PlanRun", spec := "planRun", inPlace := ["internal/bytealg.IndexByteString"], unfollowed := true, recurses := true, apart := false }
def PlanRunSaid : Prop := planRunRow.holds Tryz.pinned (OpenSpec.ofChange planRunSpec)

/-- ITS FALSE NEIGHBOUR: 'it returns false'. Refute it at one input. -/
def planRunWrong : ChangeSpec := { name := "planRun", fn := fun _ => fun
  | [d1, d2, d3] => { results := [.lit (.bool false)], args := [d1, d2, d3] }
  | _ => none }
def PlanRunWrongFalsely : Prop := planRunRow.holds Tryz.pinned (OpenSpec.ofChange planRunWrong)

/-- 'scarfjointlaw19.PlanAgrees': WHATEVER THE INPUT: true; the input reads as it did. -/
def planAgreesSpec : ChangeSpec := { name := "planAgrees", fn := fun _ => fun
  | [d1, d2, d3] => { results := [.lit (.bool true)], args := [d1, d2, d3] }
  | _ => none }
def planAgreesRow : OpenClaim := { program := "ytimfponihbfimaagreat", sum := "b6a9041b186df67125717112c6b30762332b3d3956c76272b5c0436e18814566", func := "scarfjoint/scarfjointlaw19.PlanAgrees", spec := "planAgrees", inPlace := ["internal/bytealg.IndexByteString"], unfollowed := true, recurses := true, apart := false }
def PlanAgreesSaid : Prop := planAgreesRow.holds Tryz.pinned (OpenSpec.ofChange planAgreesSpec)

/-- ITS FALSE NEIGHBOUR: 'it returns false'. Refute it at one input. -/
def planAgreesWrong : ChangeSpec := { name := "planAgrees", fn := fun _ => fun
  | [d1, d2, d3] => { results := [.lit (.bool false)], args := [d1, d2, d3] }
  | _ => none }
def PlanAgreesWrongFalsely : Prop := planAgreesRow.holds Tryz.pinned (OpenSpec.ofChange planAgreesWrong)

/-- 'scarfjointlaw19.PlanInjective': WHATEVER THE INPUT: true; the input reads as it did. -/
def planInjectiveSpec : ChangeSpec := { name := "planInjective", fn := fun _ => fun
  | [d1, d2] => { results := [.lit (.bool true)], args := [d1, d2] }
  | _ => none }
def planInjectiveRow : OpenClaim := { program := "ytimfponihbfimaagreat", sum := "b6a9041b186df67125717112c6b30762332b3d3956c76272b5c0436e18814566", func := "scarfjoint/scarfjointlaw19.PlanInjective", spec := "planInjective", inPlace := ["internal/bytealg.IndexByteString"], unfollowed := true, recurses := true, apart := false }
def PlanInjectiveSaid : Prop := planInjectiveRow.holds Tryz.pinned (OpenSpec.ofChange planInjectiveSpec)

/-- ITS FALSE NEIGHBOUR: 'it returns false'. Refute it at one input. -/
def planInjectiveWrong : ChangeSpec := { name := "planInjective", fn := fun _ => fun
  | [d1, d2] => { results := [.lit (.bool false)], args := [d1, d2] }
  | _ => none }
def PlanInjectiveWrongFalsely : Prop := planInjectiveRow.holds Tryz.pinned (OpenSpec.ofChange planInjectiveWrong)

/-- 'scarfjointlaw19.PlanMade': WHATEVER THE INPUT: true; the input reads as it did. -/
def planMadeSpec : ChangeSpec := { name := "planMade", fn := fun _ => fun
  | [d1, d2] => { results := [.lit (.bool true)], args := [d1, d2] }
  | _ => none }
def planMadeRow : OpenClaim := { program := "ytimfponihbfimaagreat", sum := "b6a9041b186df67125717112c6b30762332b3d3956c76272b5c0436e18814566", func := "scarfjoint/scarfjointlaw19.PlanMade", spec := "planMade", inPlace := ["internal/bytealg.IndexByteString"], unfollowed := true, recurses := true, apart := false }
def PlanMadeSaid : Prop := planMadeRow.holds Tryz.pinned (OpenSpec.ofChange planMadeSpec)

/-- ITS FALSE NEIGHBOUR: 'it returns false'. Refute it at one input. -/
def planMadeWrong : ChangeSpec := { name := "planMade", fn := fun _ => fun
  | [d1, d2] => { results := [.lit (.bool false)], args := [d1, d2] }
  | _ => none }
def PlanMadeWrongFalsely : Prop := planMadeRow.holds Tryz.pinned (OpenSpec.ofChange planMadeWrong)

/-- 'scarfjointlaw19.PlanCost': WHATEVER THE INPUT: true; the input reads as it did. -/
def planCostSpec : ChangeSpec := { name := "planCost", fn := fun _ => fun
  | [d1, d2] => { results := [.lit (.bool true)], args := [d1, d2] }
  | _ => none }
def planCostRow : OpenClaim := { program := "ytimfponihbfimaagreat", sum := "b6a9041b186df67125717112c6b30762332b3d3956c76272b5c0436e18814566", func := "scarfjoint/scarfjointlaw19.PlanCost", spec := "planCost", inPlace := ["internal/bytealg.IndexByteString"], unfollowed := true, recurses := true, apart := false }
def PlanCostSaid : Prop := planCostRow.holds Tryz.pinned (OpenSpec.ofChange planCostSpec)

/-- ITS FALSE NEIGHBOUR: 'it returns false'. Refute it at one input. -/
def planCostWrong : ChangeSpec := { name := "planCost", fn := fun _ => fun
  | [d1, d2] => { results := [.lit (.bool false)], args := [d1, d2] }
  | _ => none }
def PlanCostWrongFalsely : Prop := planCostRow.holds Tryz.pinned (OpenSpec.ofChange planCostWrong)

/-- 'scarfjointlaw19.PlanBest': WHATEVER THE INPUT: true; the input reads as it did. -/
def planBestSpec : ChangeSpec := { name := "planBest", fn := fun _ => fun
  | [d1, d2] => { results := [.lit (.bool true)], args := [d1, d2] }
  | _ => none }
def planBestRow : OpenClaim := { program := "ytimfponihbfimaagreat", sum := "b6a9041b186df67125717112c6b30762332b3d3956c76272b5c0436e18814566", func := "scarfjoint/scarfjointlaw19.PlanBest", spec := "planBest", inPlace := ["internal/bytealg.IndexByteString"], unfollowed := true, recurses := true, apart := false }
def PlanBestSaid : Prop := planBestRow.holds Tryz.pinned (OpenSpec.ofChange planBestSpec)

/-- ITS FALSE NEIGHBOUR: 'it returns false'. Refute it at one input. -/
def planBestWrong : ChangeSpec := { name := "planBest", fn := fun _ => fun
  | [d1, d2] => { results := [.lit (.bool false)], args := [d1, d2] }
  | _ => none }
def PlanBestWrongFalsely : Prop := planBestRow.holds Tryz.pinned (OpenSpec.ofChange planBestWrong)

/-- 'scarfjointlaw19.PlanExact': WHATEVER THE INPUT: true; the input reads as it did. -/
def planExactSpec : ChangeSpec := { name := "planExact", fn := fun _ => fun
  | [d1, d2] => { results := [.lit (.bool true)], args := [d1, d2] }
  | _ => none }
def planExactRow : OpenClaim := { program := "ytimfponihbfimaagreat", sum := "b6a9041b186df67125717112c6b30762332b3d3956c76272b5c0436e18814566", func := "scarfjoint/scarfjointlaw19.PlanExact", spec := "planExact", inPlace := ["internal/bytealg.IndexByteString"], unfollowed := true, recurses := true, apart := false }
def PlanExactSaid : Prop := planExactRow.holds Tryz.pinned (OpenSpec.ofChange planExactSpec)

/-- ITS FALSE NEIGHBOUR: 'it returns false'. Refute it at one input. -/
def planExactWrong : ChangeSpec := { name := "planExact", fn := fun _ => fun
  | [d1, d2] => { results := [.lit (.bool false)], args := [d1, d2] }
  | _ => none }
def PlanExactWrongFalsely : Prop := planExactRow.holds Tryz.pinned (OpenSpec.ofChange planExactWrong)

/-- 'scarfjointlaw19.PlanValid': WHATEVER THE INPUT: true; the input reads as it did. -/
def planValidSpec : ChangeSpec := { name := "planValid", fn := fun _ => fun
  | [d1, d2] => { results := [.lit (.bool true)], args := [d1, d2] }
  | _ => none }
def planValidRow : OpenClaim := { program := "ytimfponihbfimaagreat", sum := "b6a9041b186df67125717112c6b30762332b3d3956c76272b5c0436e18814566", func := "scarfjoint/scarfjointlaw19.PlanValid", spec := "planValid", inPlace := ["internal/bytealg.IndexByteString"], unfollowed := true, recurses := true, apart := false }
def PlanValidSaid : Prop := planValidRow.holds Tryz.pinned (OpenSpec.ofChange planValidSpec)

/-- ITS FALSE NEIGHBOUR: 'it returns false'. Refute it at one input. -/
def planValidWrong : ChangeSpec := { name := "planValid", fn := fun _ => fun
  | [d1, d2] => { results := [.lit (.bool false)], args := [d1, d2] }
  | _ => none }
def PlanValidWrongFalsely : Prop := planValidRow.holds Tryz.pinned (OpenSpec.ofChange planValidWrong)

/- THE SECOND FORM. 'bulk': how many values and letters a reading holds, each counted each time it is reached (what is shared counts as often as it is met; a slice's spare places count too). A statement '..UptoSaid' is the law's where the arguments, and the package variables that the reading takes, are together of bulk at most 1048576: NARROWER than '..Said'. Prove '..Said' where nothing that the law and all that it calls make is longer than what came in: it says more and counts as full. Else prove '..UptoSaid'. A law counts once. -/
mutual
def uptoBulk {H : Type} : DataW H → Nat
  | .lit (.string bytes) => bytes.length + 1
  | .lit _ => 1
  | .nil => 1
  | .ptr d => uptoBulk d + 1
  | .slice elems spare => uptoBulkAll elems + uptoBulkAll spare + 1
  | .agg parts => uptoBulkAll parts + 1
  | .iface _ d => uptoBulk d + 1
  | .map entries => uptoBulkEntries entries + 1
  | .held _ => 1
def uptoBulkAll {H : Type} : List (DataW H) → Nat
  | [] => 0
  | d :: r => uptoBulk d + uptoBulkAll r
def uptoBulkEntries {H : Type} : List (Lit × DataW H) → Nat
  | [] => 0
  | x :: r => uptoBulkEntry x + uptoBulkEntries r
def uptoBulkEntry {H : Type} : Lit × DataW H → Nat
  | (.string bytes, d) => bytes.length + uptoBulk d + 1
  | (_, d) => uptoBulk d + 1
 end
def uptoSmall : (H : Type) → List (DataW H) → Bool := fun _ ds => decide (uptoBulkAll ds ≤ 1048576)
def OpenSpec.upto (s : _root_.Go.ChangeSpec) : _root_.Go.OpenSpec := { _root_.Go.OpenSpec.ofChange s with cond := some uptoSmall }

/-- 'scarfjointlaw19.PlanRun', WHERE WHAT IT READS IS OF BULK AT MOST 1048576: true; the input reads as it did. -/
def planRunUptoRow : OpenClaim := { program := "ytimfponihbfimaagreat", sum := "b6a9041b186df67125717112c6b30762332b3d3956c76272b5c0436e18814566", func := "scarfjoint/scarfjointlaw19.PlanRun", spec := "planRun", inPlace := ["internal/bytealg.IndexByteString"], unfollowed := true, recurses := true, apart := false, narrowed := true }
def PlanRunUptoSaid : Prop := planRunUptoRow.holds Tryz.pinned (OpenSpec.upto planRunSpec)

/-- 'scarfjointlaw19.PlanAgrees', WHERE WHAT IT READS IS OF BULK AT MOST 1048576: true; the input reads as it did. -/
def planAgreesUptoRow : OpenClaim := { program := "ytimfponihbfimaagreat", sum := "b6a9041b186df67125717112c6b30762332b3d3956c76272b5c0436e18814566", func := "scarfjoint/scarfjointlaw19.PlanAgrees", spec := "planAgrees", inPlace := ["internal/bytealg.IndexByteString"], unfollowed := true, recurses := true, apart := false, narrowed := true }
def PlanAgreesUptoSaid : Prop := planAgreesUptoRow.holds Tryz.pinned (OpenSpec.upto planAgreesSpec)

/-- 'scarfjointlaw19.PlanInjective', WHERE WHAT IT READS IS OF BULK AT MOST 1048576: true; the input reads as it did. -/
def planInjectiveUptoRow : OpenClaim := { program := "ytimfponihbfimaagreat", sum := "b6a9041b186df67125717112c6b30762332b3d3956c76272b5c0436e18814566", func := "scarfjoint/scarfjointlaw19.PlanInjective", spec := "planInjective", inPlace := ["internal/bytealg.IndexByteString"], unfollowed := true, recurses := true, apart := false, narrowed := true }
def PlanInjectiveUptoSaid : Prop := planInjectiveUptoRow.holds Tryz.pinned (OpenSpec.upto planInjectiveSpec)

/-- 'scarfjointlaw19.PlanMade', WHERE WHAT IT READS IS OF BULK AT MOST 1048576: true; the input reads as it did. -/
def planMadeUptoRow : OpenClaim := { program := "ytimfponihbfimaagreat", sum := "b6a9041b186df67125717112c6b30762332b3d3956c76272b5c0436e18814566", func := "scarfjoint/scarfjointlaw19.PlanMade", spec := "planMade", inPlace := ["internal/bytealg.IndexByteString"], unfollowed := true, recurses := true, apart := false, narrowed := true }
def PlanMadeUptoSaid : Prop := planMadeUptoRow.holds Tryz.pinned (OpenSpec.upto planMadeSpec)

/-- 'scarfjointlaw19.PlanCost', WHERE WHAT IT READS IS OF BULK AT MOST 1048576: true; the input reads as it did. -/
def planCostUptoRow : OpenClaim := { program := "ytimfponihbfimaagreat", sum := "b6a9041b186df67125717112c6b30762332b3d3956c76272b5c0436e18814566", func := "scarfjoint/scarfjointlaw19.PlanCost", spec := "planCost", inPlace := ["internal/bytealg.IndexByteString"], unfollowed := true, recurses := true, apart := false, narrowed := true }
def PlanCostUptoSaid : Prop := planCostUptoRow.holds Tryz.pinned (OpenSpec.upto planCostSpec)

/-- 'scarfjointlaw19.PlanBest', WHERE WHAT IT READS IS OF BULK AT MOST 1048576: true; the input reads as it did. -/
def planBestUptoRow : OpenClaim := { program := "ytimfponihbfimaagreat", sum := "b6a9041b186df67125717112c6b30762332b3d3956c76272b5c0436e18814566", func := "scarfjoint/scarfjointlaw19.PlanBest", spec := "planBest", inPlace := ["internal/bytealg.IndexByteString"], unfollowed := true, recurses := true, apart := false, narrowed := true }
def PlanBestUptoSaid : Prop := planBestUptoRow.holds Tryz.pinned (OpenSpec.upto planBestSpec)

/-- 'scarfjointlaw19.PlanExact', WHERE WHAT IT READS IS OF BULK AT MOST 1048576: true; the input reads as it did. -/
def planExactUptoRow : OpenClaim := { program := "ytimfponihbfimaagreat", sum := "b6a9041b186df67125717112c6b30762332b3d3956c76272b5c0436e18814566", func := "scarfjoint/scarfjointlaw19.PlanExact", spec := "planExact", inPlace := ["internal/bytealg.IndexByteString"], unfollowed := true, recurses := true, apart := false, narrowed := true }
def PlanExactUptoSaid : Prop := planExactUptoRow.holds Tryz.pinned (OpenSpec.upto planExactSpec)

/-- 'scarfjointlaw19.PlanValid', WHERE WHAT IT READS IS OF BULK AT MOST 1048576: true; the input reads as it did. -/
def planValidUptoRow : OpenClaim := { program := "ytimfponihbfimaagreat", sum := "b6a9041b186df67125717112c6b30762332b3d3956c76272b5c0436e18814566", func := "scarfjoint/scarfjointlaw19.PlanValid", spec := "planValid", inPlace := ["internal/bytealg.IndexByteString"], unfollowed := true, recurses := true, apart := false, narrowed := true }
def PlanValidUptoSaid : Prop := planValidUptoRow.holds Tryz.pinned (OpenSpec.upto planValidSpec)

end Rows
end Go.Proofs.YtimfponihbfimaaGreat
