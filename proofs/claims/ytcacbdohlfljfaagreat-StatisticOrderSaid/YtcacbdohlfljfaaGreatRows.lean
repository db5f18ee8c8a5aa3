/-
  No cell of these rows narrows 'for every input' (looked for: loops, veiled, ifaces, maps, wideKeys, modest, calm, conditions, laid).
  DERIVED. THE GIVEN ROWS OF THIS SEAT. 7 by the template 'for every input the law returns true; each argument reads behind the call as it read before'; 0 by the template 'total and deterministic' (their statements: YtcacbdohlfljfaaGreatTotals.lean).
  GIVEN WITH THE SEED: the statements are not yours to turn. If you find one false, say at which input.
  Laid BY PROGRAM, IN A SANDBOX (cutbox-rows.mjs): the forced cells as the released guide's own fill.sh prints them over the translation ccf7dbb3638531ff… (all of the seat's roots in one cut). By AI agents, Wed Nov 11 2026. No macro, syntax, notation, axiom, sorry.
-/
import Derived.Test.YtcacbdohlfljfaaGreatChecked
import GoSem.Claim
import GoSem.ClaimJoined
import GoSem.ClaimMapViews
import Derived.JoinedTies
import Derived.KernelRfl
namespace Go.Proofs.YtcacbdohlfljfaaGreat
/- THE CELL 'sum', in the pinned program and in every row, IS THE sha256 OF THE DUMP (.gsa) THAT YtcacbdohlfljfaaGreatProg.lean LOADS. Nothing in Lean hashes anything: it is a label: what it is worth is what the hold of that sum in a sandbox is worth. -/
noncomputable def Tryz.pinned : Pinned := { name := "ytcacbdohlfljfaagreat", sum := "ccf7dbb3638531ff0b923bd188c697d3e32a2e6a1d4b42659dfe78a4a30873d1", checked := Tryz.checked }
namespace Rows
def none {H : Type} : Left H := { results := [], args := [] }

/-- 'scarfjointlaw18.StatisticOf': WHATEVER THE INPUT: true; the input reads as it did. -/
def statisticOfSpec : ChangeSpec := { name := "statisticOf", fn := fun _ => fun
  | [d1, d2] => { results := [.lit (.bool true)], args := [d1, d2] }
  | _ => none }
def statisticOfRow : OpenClaim := { program := "ytcacbdohlfljfaagreat", sum := "ccf7dbb3638531ff0b923bd188c697d3e32a2e6a1d4b42659dfe78a4a30873d1", func := "scarfjoint/scarfjointlaw18.StatisticOf", spec := "statisticOf", inPlace := ["internal/bytealg.IndexByteString", "slices.overlaps[scarfjoint/api.Count]"], unfollowed := true, recurses := true, apart := false }
def StatisticOfSaid : Prop := statisticOfRow.holds Tryz.pinned (OpenSpec.ofChange statisticOfSpec)

/-- ITS FALSE NEIGHBOUR: 'it returns false'. Refute it at one input. -/
def statisticOfWrong : ChangeSpec := { name := "statisticOf", fn := fun _ => fun
  | [d1, d2] => { results := [.lit (.bool false)], args := [d1, d2] }
  | _ => none }
def StatisticOfWrongFalsely : Prop := statisticOfRow.holds Tryz.pinned (OpenSpec.ofChange statisticOfWrong)

/-- 'scarfjointlaw18.StatisticCounts': WHATEVER THE INPUT: true; the input reads as it did. -/
def statisticCountsSpec : ChangeSpec := { name := "statisticCounts", fn := fun _ => fun
  | [d1, d2, d3] => { results := [.lit (.bool true)], args := [d1, d2, d3] }
  | _ => none }
def statisticCountsRow : OpenClaim := { program := "ytcacbdohlfljfaagreat", sum := "ccf7dbb3638531ff0b923bd188c697d3e32a2e6a1d4b42659dfe78a4a30873d1", func := "scarfjoint/scarfjointlaw18.StatisticCounts", spec := "statisticCounts", inPlace := ["internal/bytealg.IndexByteString", "slices.overlaps[scarfjoint/api.Count]"], unfollowed := true, recurses := true, apart := false }
def StatisticCountsSaid : Prop := statisticCountsRow.holds Tryz.pinned (OpenSpec.ofChange statisticCountsSpec)

/-- ITS FALSE NEIGHBOUR: 'it returns false'. Refute it at one input. -/
def statisticCountsWrong : ChangeSpec := { name := "statisticCounts", fn := fun _ => fun
  | [d1, d2, d3] => { results := [.lit (.bool false)], args := [d1, d2, d3] }
  | _ => none }
def StatisticCountsWrongFalsely : Prop := statisticCountsRow.holds Tryz.pinned (OpenSpec.ofChange statisticCountsWrong)

/-- 'scarfjointlaw18.StatisticValid': WHATEVER THE INPUT: true; the input reads as it did. -/
def statisticValidSpec : ChangeSpec := { name := "statisticValid", fn := fun _ => fun
  | [d1, d2, d3] => { results := [.lit (.bool true)], args := [d1, d2, d3] }
  | _ => none }
def statisticValidRow : OpenClaim := { program := "ytcacbdohlfljfaagreat", sum := "ccf7dbb3638531ff0b923bd188c697d3e32a2e6a1d4b42659dfe78a4a30873d1", func := "scarfjoint/scarfjointlaw18.StatisticValid", spec := "statisticValid", inPlace := ["internal/bytealg.IndexByteString", "slices.overlaps[scarfjoint/api.Count]"], unfollowed := true, recurses := true, apart := false }
def StatisticValidSaid : Prop := statisticValidRow.holds Tryz.pinned (OpenSpec.ofChange statisticValidSpec)

/-- ITS FALSE NEIGHBOUR: 'it returns false'. Refute it at one input. -/
def statisticValidWrong : ChangeSpec := { name := "statisticValid", fn := fun _ => fun
  | [d1, d2, d3] => { results := [.lit (.bool false)], args := [d1, d2, d3] }
  | _ => none }
def StatisticValidWrongFalsely : Prop := statisticValidRow.holds Tryz.pinned (OpenSpec.ofChange statisticValidWrong)

/-- 'scarfjointlaw18.StatisticEdge': WHATEVER THE INPUT: true; the input reads as it did. -/
def statisticEdgeSpec : ChangeSpec := { name := "statisticEdge", fn := fun _ => fun
  | [d1, d2, d3] => { results := [.lit (.bool true)], args := [d1, d2, d3] }
  | _ => none }
def statisticEdgeRow : OpenClaim := { program := "ytcacbdohlfljfaagreat", sum := "ccf7dbb3638531ff0b923bd188c697d3e32a2e6a1d4b42659dfe78a4a30873d1", func := "scarfjoint/scarfjointlaw18.StatisticEdge", spec := "statisticEdge", inPlace := ["internal/bytealg.IndexByteString", "slices.overlaps[scarfjoint/api.Count]"], unfollowed := true, recurses := true, apart := false }
def StatisticEdgeSaid : Prop := statisticEdgeRow.holds Tryz.pinned (OpenSpec.ofChange statisticEdgeSpec)

/-- ITS FALSE NEIGHBOUR: 'it returns false'. Refute it at one input. -/
def statisticEdgeWrong : ChangeSpec := { name := "statisticEdge", fn := fun _ => fun
  | [d1, d2, d3] => { results := [.lit (.bool false)], args := [d1, d2, d3] }
  | _ => none }
def StatisticEdgeWrongFalsely : Prop := statisticEdgeRow.holds Tryz.pinned (OpenSpec.ofChange statisticEdgeWrong)

/-- 'scarfjointlaw18.StatisticNode': WHATEVER THE INPUT: true; the input reads as it did. -/
def statisticNodeSpec : ChangeSpec := { name := "statisticNode", fn := fun _ => fun
  | [d1, d2, d3] => { results := [.lit (.bool true)], args := [d1, d2, d3] }
  | _ => none }
def statisticNodeRow : OpenClaim := { program := "ytcacbdohlfljfaagreat", sum := "ccf7dbb3638531ff0b923bd188c697d3e32a2e6a1d4b42659dfe78a4a30873d1", func := "scarfjoint/scarfjointlaw18.StatisticNode", spec := "statisticNode", inPlace := ["internal/bytealg.IndexByteString", "slices.overlaps[scarfjoint/api.Count]"], unfollowed := true, recurses := true, apart := false }
def StatisticNodeSaid : Prop := statisticNodeRow.holds Tryz.pinned (OpenSpec.ofChange statisticNodeSpec)

/-- ITS FALSE NEIGHBOUR: 'it returns false'. Refute it at one input. -/
def statisticNodeWrong : ChangeSpec := { name := "statisticNode", fn := fun _ => fun
  | [d1, d2, d3] => { results := [.lit (.bool false)], args := [d1, d2, d3] }
  | _ => none }
def StatisticNodeWrongFalsely : Prop := statisticNodeRow.holds Tryz.pinned (OpenSpec.ofChange statisticNodeWrong)

/-- 'scarfjointlaw18.StatisticOrder': WHATEVER THE INPUT: true; the input reads as it did. -/
def statisticOrderSpec : ChangeSpec := { name := "statisticOrder", fn := fun _ => fun
  | [d1, d2] => { results := [.lit (.bool true)], args := [d1, d2] }
  | _ => none }
def statisticOrderRow : OpenClaim := { program := "ytcacbdohlfljfaagreat", sum := "ccf7dbb3638531ff0b923bd188c697d3e32a2e6a1d4b42659dfe78a4a30873d1", func := "scarfjoint/scarfjointlaw18.StatisticOrder", spec := "statisticOrder", inPlace := ["internal/bytealg.IndexByteString", "slices.overlaps[scarfjoint/api.Count]"], unfollowed := true, recurses := true, apart := false }
def StatisticOrderSaid : Prop := statisticOrderRow.holds Tryz.pinned (OpenSpec.ofChange statisticOrderSpec)

/-- ITS FALSE NEIGHBOUR: 'it returns false'. Refute it at one input. -/
def statisticOrderWrong : ChangeSpec := { name := "statisticOrder", fn := fun _ => fun
  | [d1, d2] => { results := [.lit (.bool false)], args := [d1, d2] }
  | _ => none }
def StatisticOrderWrongFalsely : Prop := statisticOrderRow.holds Tryz.pinned (OpenSpec.ofChange statisticOrderWrong)

/-- 'scarfjointlaw18.StatisticAdds': WHATEVER THE INPUT: true; the input reads as it did. -/
def statisticAddsSpec : ChangeSpec := { name := "statisticAdds", fn := fun _ => fun
  | [d1, d2] => { results := [.lit (.bool true)], args := [d1, d2] }
  | _ => none }
def statisticAddsRow : OpenClaim := { program := "ytcacbdohlfljfaagreat", sum := "ccf7dbb3638531ff0b923bd188c697d3e32a2e6a1d4b42659dfe78a4a30873d1", func := "scarfjoint/scarfjointlaw18.StatisticAdds", spec := "statisticAdds", inPlace := ["internal/bytealg.IndexByteString", "slices.overlaps[scarfjoint/api.Count]"], unfollowed := true, recurses := true, apart := false }
def StatisticAddsSaid : Prop := statisticAddsRow.holds Tryz.pinned (OpenSpec.ofChange statisticAddsSpec)

/-- ITS FALSE NEIGHBOUR: 'it returns false'. Refute it at one input. -/
def statisticAddsWrong : ChangeSpec := { name := "statisticAdds", fn := fun _ => fun
  | [d1, d2] => { results := [.lit (.bool false)], args := [d1, d2] }
  | _ => none }
def StatisticAddsWrongFalsely : Prop := statisticAddsRow.holds Tryz.pinned (OpenSpec.ofChange statisticAddsWrong)

/- THE SECOND FORM. 'bulk': how many values and letters a reading holds, each counted each time it is reached (what is shared counts as often as it is met; a slice's spare places count too). A statement '..UptoSaid' is the law's where the arguments, and the package variables that the reading takes, are together of bulk at most 1048576: NARROWER than '..Said'. Prove '..Said' where nothing that the law and all that it calls make is longer than what came in: it says more and counts as full. Else prove '..UptoSaid'. A law counts once. -/
mutual
def uptoBulk {H : Type} : DataW H → Nat
  | .lit (.string bytes) => bytes.length + 1
  | .lit _ => 1
  | .nil => 1
  | .ptr d => uptoBulk d + 1
  | .slice elems spare => uptoBulkAll elems + uptoBulkAll spare + 1
  | .agg parts => uptoBulkAll parts + 1
  | .iface _ d => uptoBulk d + 1
  | .map entries => uptoBulkEntries entries + 1
  | .held _ => 1
def uptoBulkAll {H : Type} : List (DataW H) → Nat
  | [] => 0
  | d :: r => uptoBulk d + uptoBulkAll r
def uptoBulkEntries {H : Type} : List (Lit × DataW H) → Nat
  | [] => 0
  | x :: r => uptoBulkEntry x + uptoBulkEntries r
def uptoBulkEntry {H : Type} : Lit × DataW H → Nat
  | (.string bytes, d) => bytes.length + uptoBulk d + 1
  | (_, d) => uptoBulk d + 1
 end
def uptoSmall : (H : Type) → List (DataW H) → Bool := fun _ ds => decide (uptoBulkAll ds ≤ 1048576)
def OpenSpec.upto (s : _root_.Go.ChangeSpec) : _root_.Go.OpenSpec := { _root_.Go.OpenSpec.ofChange s with cond := some uptoSmall }

/-- 'scarfjointlaw18.StatisticOf', WHERE WHAT IT READS IS OF BULK AT MOST 1048576: true; the input reads as it did. -/
def statisticOfUptoRow : OpenClaim := { program := "ytcacbdohlfljfaagreat", sum := "ccf7dbb3638531ff0b923bd188c697d3e32a2e6a1d4b42659dfe78a4a30873d1", func := "scarfjoint/scarfjointlaw18.StatisticOf", spec := "statisticOf", inPlace := ["internal/bytealg.IndexByteString", "slices.overlaps[scarfjoint/api.Count]"], unfollowed := true, recurses := true, apart := false, narrowed := true }
def StatisticOfUptoSaid : Prop := statisticOfUptoRow.holds Tryz.pinned (OpenSpec.upto statisticOfSpec)

/-- 'scarfjointlaw18.StatisticCounts', WHERE WHAT IT READS IS OF BULK AT MOST 1048576: true; the input reads as it did. -/
def statisticCountsUptoRow : OpenClaim := { program := "ytcacbdohlfljfaagreat", sum := "ccf7dbb3638531ff0b923bd188c697d3e32a2e6a1d4b42659dfe78a4a30873d1", func := "scarfjoint/scarfjointlaw18.StatisticCounts", spec := "statisticCounts", inPlace := ["internal/bytealg.IndexByteString", "slices.overlaps[scarfjoint/api.Count]"], unfollowed := true, recurses := true, apart := false, narrowed := true }
def StatisticCountsUptoSaid : Prop := statisticCountsUptoRow.holds Tryz.pinned (OpenSpec.upto statisticCountsSpec)

/-- 'scarfjointlaw18.StatisticValid', WHERE WHAT IT READS IS OF BULK AT MOST 1048576: true; the input reads as it did. -/
def statisticValidUptoRow : OpenClaim := { program := "ytcacbdohlfljfaagreat", sum := "ccf7dbb3638531ff0b923bd188c697d3e32a2e6a1d4b42659dfe78a4a30873d1", func := "scarfjoint/scarfjointlaw18.StatisticValid", spec := "statisticValid", inPlace := ["internal/bytealg.IndexByteString", "slices.overlaps[scarfjoint/api.Count]"], unfollowed := true, recurses := true, apart := false, narrowed := true }
def StatisticValidUptoSaid : Prop := statisticValidUptoRow.holds Tryz.pinned (OpenSpec.upto statisticValidSpec)

/-- 'scarfjointlaw18.StatisticEdge', WHERE WHAT IT READS IS OF BULK AT MOST 1048576: true; the input reads as it did. -/
def statisticEdgeUptoRow : OpenClaim := { program := "ytcacbdohlfljfaagreat", sum := "ccf7dbb3638531ff0b923bd188c697d3e32a2e6a1d4b42659dfe78a4a30873d1", func := "scarfjoint/scarfjointlaw18.StatisticEdge", spec := "statisticEdge", inPlace := ["internal/bytealg.IndexByteString", "slices.overlaps[scarfjoint/api.Count]"], unfollowed := true, recurses := true, apart := false, narrowed := true }
def StatisticEdgeUptoSaid : Prop := statisticEdgeUptoRow.holds Tryz.pinned (OpenSpec.upto statisticEdgeSpec)

/-- 'scarfjointlaw18.StatisticNode', WHERE WHAT IT READS IS OF BULK AT MOST 1048576: true; the input reads as it did. -/
def statisticNodeUptoRow : OpenClaim := { program := "ytcacbdohlfljfaagreat", sum := "ccf7dbb3638531ff0b923bd188c697d3e32a2e6a1d4b42659dfe78a4a30873d1", func := "scarfjoint/scarfjointlaw18.StatisticNode", spec := "statisticNode", inPlace := ["internal/bytealg.IndexByteString", "slices.overlaps[scarfjoint/api.Count]"], unfollowed := true, recurses := true, apart := false, narrowed := true }
def StatisticNodeUptoSaid : Prop := statisticNodeUptoRow.holds Tryz.pinned (OpenSpec.upto statisticNodeSpec)

/-- 'scarfjointlaw18.StatisticOrder', WHERE WHAT IT READS IS OF BULK AT MOST 1048576: true; the input reads as it did. -/
def statisticOrderUptoRow : OpenClaim := { program := "ytcacbdohlfljfaagreat", sum := "ccf7dbb3638531ff0b923bd188c697d3e32a2e6a1d4b42659dfe78a4a30873d1", func := "scarfjoint/scarfjointlaw18.StatisticOrder", spec := "statisticOrder", inPlace := ["internal/bytealg.IndexByteString", "slices.overlaps[scarfjoint/api.Count]"], unfollowed := true, recurses := true, apart := false, narrowed := true }
def StatisticOrderUptoSaid : Prop := statisticOrderUptoRow.holds Tryz.pinned (OpenSpec.upto statisticOrderSpec)

/-- 'scarfjointlaw18.StatisticAdds', WHERE WHAT IT READS IS OF BULK AT MOST 1048576: true; the input reads as it did. -/
def statisticAddsUptoRow : OpenClaim := { program := "ytcacbdohlfljfaagreat", sum := "ccf7dbb3638531ff0b923bd188c697d3e32a2e6a1d4b42659dfe78a4a30873d1", func := "scarfjoint/scarfjointlaw18.StatisticAdds", spec := "statisticAdds", inPlace := ["internal/bytealg.IndexByteString", "slices.overlaps[scarfjoint/api.Count]"], unfollowed := true, recurses := true, apart := false, narrowed := true }
def StatisticAddsUptoSaid : Prop := statisticAddsUptoRow.holds Tryz.pinned (OpenSpec.upto statisticAddsSpec)

end Rows
end Go.Proofs.YtcacbdohlfljfaaGreat
