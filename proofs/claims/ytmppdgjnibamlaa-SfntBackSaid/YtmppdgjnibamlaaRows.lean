/-
  No cell of these rows narrows 'for every input' (looked for: loops, veiled, ifaces, maps, wideKeys, modest, calm, conditions, laid).
  DERIVED. THE GIVEN ROWS OF THIS SEAT. 12 by the template 'for every input the law returns true; each argument reads behind the call as it read before'; 0 by the template 'total and deterministic' (their statements: YtmppdgjnibamlaaTotals.lean).
  GIVEN WITH THE SEED: the statements are not yours to turn. If you find one false, say at which input.
  Laid BY PROGRAM, IN A SANDBOX (cutbox-rows.mjs): the forced cells as the released guide's own fill.sh prints them over the translation 08ba1a43943fd0ab… (all of the seat's roots in one cut). By AI agents, Wed Nov 11 2026. No macro, syntax, notation, axiom, sorry.
-/
import Derived.Test.YtmppdgjnibamlaaChecked
import GoSem.Claim
import GoSem.ClaimJoined
import GoSem.ClaimMapViews
import Derived.JoinedTies
import Derived.KernelRfl
namespace Go.Proofs.Ytmppdgjnibamlaa
/- THE CELL 'sum', in the pinned program and in every row, IS THE sha256 OF THE DUMP (.gsa) THAT YtmppdgjnibamlaaProg.lean LOADS. Nothing in Lean hashes anything: it is a label: what it is worth is what the hold of that sum in a sandbox is worth. -/
noncomputable def Try.pinned : Pinned := { name := "ytmppdgjnibamlaa", sum := "08ba1a43943fd0ab2a222400024a36e6d9d9d328d8024cb0c4f378f0890bdce2", checked := Try.checked }
namespace Rows
def none {H : Type} : Left H := { results := [], args := [] }

/-- 'foundrylaw04.OctetsBack': WHATEVER THE INPUT: true; the input reads as it did. -/
def octetsBackSpec : ChangeSpec := { name := "octetsBack", fn := fun _ => fun
  | [d1, d2] => { results := [.lit (.bool true)], args := [d1, d2] }
  | _ => none }
def octetsBackRow : OpenClaim := { program := "ytmppdgjnibamlaa", sum := "08ba1a43943fd0ab2a222400024a36e6d9d9d328d8024cb0c4f378f0890bdce2", func := "foundry/foundrylaw04.OctetsBack", spec := "octetsBack", apart := false }
def OctetsBackSaid : Prop := octetsBackRow.holds Try.pinned (OpenSpec.ofChange octetsBackSpec)

/-- ITS FALSE NEIGHBOUR: 'it returns false'. Refute it at one input. -/
def octetsBackWrong : ChangeSpec := { name := "octetsBack", fn := fun _ => fun
  | [d1, d2] => { results := [.lit (.bool false)], args := [d1, d2] }
  | _ => none }
def OctetsBackWrongFalsely : Prop := octetsBackRow.holds Try.pinned (OpenSpec.ofChange octetsBackWrong)

/-- 'foundrylaw04.OctetsLater': WHATEVER THE INPUT: true; the input reads as it did. -/
def octetsLaterSpec : ChangeSpec := { name := "octetsLater", fn := fun _ => fun
  | [d] => { results := [.lit (.bool true)], args := [d] }
  | _ => none }
def octetsLaterRow : OpenClaim := { program := "ytmppdgjnibamlaa", sum := "08ba1a43943fd0ab2a222400024a36e6d9d9d328d8024cb0c4f378f0890bdce2", func := "foundry/foundrylaw04.OctetsLater", spec := "octetsLater", apart := false }
def OctetsLaterSaid : Prop := octetsLaterRow.holds Try.pinned (OpenSpec.ofChange octetsLaterSpec)

/-- ITS FALSE NEIGHBOUR: 'it returns false'. Refute it at one input. -/
def octetsLaterWrong : ChangeSpec := { name := "octetsLater", fn := fun _ => fun
  | [d] => { results := [.lit (.bool false)], args := [d] }
  | _ => none }
def OctetsLaterWrongFalsely : Prop := octetsLaterRow.holds Try.pinned (OpenSpec.ofChange octetsLaterWrong)

/-- 'foundrylaw11.PackedShort': WHATEVER THE INPUT: true; the input reads as it did. -/
def packedShortSpec : ChangeSpec := { name := "packedShort", fn := fun _ => fun
  | [d1, d2] => { results := [.lit (.bool true)], args := [d1, d2] }
  | _ => none }
def packedShortRow : OpenClaim := { program := "ytmppdgjnibamlaa", sum := "08ba1a43943fd0ab2a222400024a36e6d9d9d328d8024cb0c4f378f0890bdce2", func := "foundry/foundrylaw11.PackedShort", spec := "packedShort", unfollowed := true, recurses := true, apart := false }
def PackedShortSaid : Prop := packedShortRow.holds Try.pinned (OpenSpec.ofChange packedShortSpec)

/-- ITS FALSE NEIGHBOUR: 'it returns false'. Refute it at one input. -/
def packedShortWrong : ChangeSpec := { name := "packedShort", fn := fun _ => fun
  | [d1, d2] => { results := [.lit (.bool false)], args := [d1, d2] }
  | _ => none }
def PackedShortWrongFalsely : Prop := packedShortRow.holds Try.pinned (OpenSpec.ofChange packedShortWrong)

/-- 'foundrylaw04.OctetsFails': WHATEVER THE INPUT: true; the input reads as it did. -/
def octetsFailsSpec : ChangeSpec := { name := "octetsFails", fn := fun _ => fun
  | [d1, d2] => { results := [.lit (.bool true)], args := [d1, d2] }
  | _ => none }
def octetsFailsRow : OpenClaim := { program := "ytmppdgjnibamlaa", sum := "08ba1a43943fd0ab2a222400024a36e6d9d9d328d8024cb0c4f378f0890bdce2", func := "foundry/foundrylaw04.OctetsFails", spec := "octetsFails", apart := false }
def OctetsFailsSaid : Prop := octetsFailsRow.holds Try.pinned (OpenSpec.ofChange octetsFailsSpec)

/-- ITS FALSE NEIGHBOUR: 'it returns false'. Refute it at one input. -/
def octetsFailsWrong : ChangeSpec := { name := "octetsFails", fn := fun _ => fun
  | [d1, d2] => { results := [.lit (.bool false)], args := [d1, d2] }
  | _ => none }
def OctetsFailsWrongFalsely : Prop := octetsFailsRow.holds Try.pinned (OpenSpec.ofChange octetsFailsWrong)

/-- 'foundrylaw11.PackedPoints': WHATEVER THE INPUT: true; the input reads as it did. -/
def packedPointsSpec : ChangeSpec := { name := "packedPoints", fn := fun _ => fun
  | [d1, d2] => { results := [.lit (.bool true)], args := [d1, d2] }
  | _ => none }
def packedPointsRow : OpenClaim := { program := "ytmppdgjnibamlaa", sum := "08ba1a43943fd0ab2a222400024a36e6d9d9d328d8024cb0c4f378f0890bdce2", func := "foundry/foundrylaw11.PackedPoints", spec := "packedPoints", unfollowed := true, recurses := true, apart := false }
def PackedPointsSaid : Prop := packedPointsRow.holds Try.pinned (OpenSpec.ofChange packedPointsSpec)

/-- ITS FALSE NEIGHBOUR: 'it returns false'. Refute it at one input. -/
def packedPointsWrong : ChangeSpec := { name := "packedPoints", fn := fun _ => fun
  | [d1, d2] => { results := [.lit (.bool false)], args := [d1, d2] }
  | _ => none }
def PackedPointsWrongFalsely : Prop := packedPointsRow.holds Try.pinned (OpenSpec.ofChange packedPointsWrong)

/-- 'foundrylaw05.SfntTurned': WHATEVER THE INPUT: true; the input reads as it did. -/
def sfntTurnedSpec : ChangeSpec := { name := "sfntTurned", fn := fun _ => fun
  | [d1, d2, d3] => { results := [.lit (.bool true)], args := [d1, d2, d3] }
  | _ => none }
def sfntTurnedRow : OpenClaim := { program := "ytmppdgjnibamlaa", sum := "08ba1a43943fd0ab2a222400024a36e6d9d9d328d8024cb0c4f378f0890bdce2", func := "foundry/foundrylaw05.SfntTurned", spec := "sfntTurned", unfollowed := true, recurses := true, apart := false }
def SfntTurnedSaid : Prop := sfntTurnedRow.holds Try.pinned (OpenSpec.ofChange sfntTurnedSpec)

/-- ITS FALSE NEIGHBOUR: 'it returns false'. Refute it at one input. -/
def sfntTurnedWrong : ChangeSpec := { name := "sfntTurned", fn := fun _ => fun
  | [d1, d2, d3] => { results := [.lit (.bool false)], args := [d1, d2, d3] }
  | _ => none }
def SfntTurnedWrongFalsely : Prop := sfntTurnedRow.holds Try.pinned (OpenSpec.ofChange sfntTurnedWrong)

/-- 'foundrylaw04.OctetsPages': WHATEVER THE INPUT: true; the input reads as it did. -/
def octetsPagesSpec : ChangeSpec := { name := "octetsPages", fn := fun _ => fun
  | [d1, d2] => { results := [.lit (.bool true)], args := [d1, d2] }
  | _ => none }
def octetsPagesRow : OpenClaim := { program := "ytmppdgjnibamlaa", sum := "08ba1a43943fd0ab2a222400024a36e6d9d9d328d8024cb0c4f378f0890bdce2", func := "foundry/foundrylaw04.OctetsPages", spec := "octetsPages", apart := false }
def OctetsPagesSaid : Prop := octetsPagesRow.holds Try.pinned (OpenSpec.ofChange octetsPagesSpec)

/-- ITS FALSE NEIGHBOUR: 'it returns false'. Refute it at one input. -/
def octetsPagesWrong : ChangeSpec := { name := "octetsPages", fn := fun _ => fun
  | [d1, d2] => { results := [.lit (.bool false)], args := [d1, d2] }
  | _ => none }
def OctetsPagesWrongFalsely : Prop := octetsPagesRow.holds Try.pinned (OpenSpec.ofChange octetsPagesWrong)

/-- 'foundrylaw05.SfntBack': WHATEVER THE INPUT: true; the input reads as it did. -/
def sfntBackSpec : ChangeSpec := { name := "sfntBack", fn := fun _ => fun
  | [d] => { results := [.lit (.bool true)], args := [d] }
  | _ => none }
def sfntBackRow : OpenClaim := { program := "ytmppdgjnibamlaa", sum := "08ba1a43943fd0ab2a222400024a36e6d9d9d328d8024cb0c4f378f0890bdce2", func := "foundry/foundrylaw05.SfntBack", spec := "sfntBack", unfollowed := true, recurses := true, apart := false }
def SfntBackSaid : Prop := sfntBackRow.holds Try.pinned (OpenSpec.ofChange sfntBackSpec)

/-- ITS FALSE NEIGHBOUR: 'it returns false'. Refute it at one input. -/
def sfntBackWrong : ChangeSpec := { name := "sfntBack", fn := fun _ => fun
  | [d] => { results := [.lit (.bool false)], args := [d] }
  | _ => none }
def SfntBackWrongFalsely : Prop := sfntBackRow.holds Try.pinned (OpenSpec.ofChange sfntBackWrong)

/-- 'foundrylaw12.OutlineMoved': WHATEVER THE INPUT: true; the input reads as it did. -/
def outlineMovedSpec : ChangeSpec := { name := "outlineMoved", fn := fun _ => fun
  | [d1, d2] => { results := [.lit (.bool true)], args := [d1, d2] }
  | _ => none }
def outlineMovedRow : OpenClaim := { program := "ytmppdgjnibamlaa", sum := "08ba1a43943fd0ab2a222400024a36e6d9d9d328d8024cb0c4f378f0890bdce2", func := "foundry/foundrylaw12.OutlineMoved", spec := "outlineMoved", apart := false }
def OutlineMovedSaid : Prop := outlineMovedRow.holds Try.pinned (OpenSpec.ofChange outlineMovedSpec)

/-- ITS FALSE NEIGHBOUR: 'it returns false'. Refute it at one input. -/
def outlineMovedWrong : ChangeSpec := { name := "outlineMoved", fn := fun _ => fun
  | [d1, d2] => { results := [.lit (.bool false)], args := [d1, d2] }
  | _ => none }
def OutlineMovedWrongFalsely : Prop := outlineMovedRow.holds Try.pinned (OpenSpec.ofChange outlineMovedWrong)

/-- 'foundrylaw11.PackedChanges': WHATEVER THE INPUT: true; the input reads as it did. -/
def packedChangesSpec : ChangeSpec := { name := "packedChanges", fn := fun _ => fun
  | [d1, d2, d3] => { results := [.lit (.bool true)], args := [d1, d2, d3] }
  | _ => none }
def packedChangesRow : OpenClaim := { program := "ytmppdgjnibamlaa", sum := "08ba1a43943fd0ab2a222400024a36e6d9d9d328d8024cb0c4f378f0890bdce2", func := "foundry/foundrylaw11.PackedChanges", spec := "packedChanges", unfollowed := true, recurses := true, apart := false }
def PackedChangesSaid : Prop := packedChangesRow.holds Try.pinned (OpenSpec.ofChange packedChangesSpec)

/-- ITS FALSE NEIGHBOUR: 'it returns false'. Refute it at one input. -/
def packedChangesWrong : ChangeSpec := { name := "packedChanges", fn := fun _ => fun
  | [d1, d2, d3] => { results := [.lit (.bool false)], args := [d1, d2, d3] }
  | _ => none }
def PackedChangesWrongFalsely : Prop := packedChangesRow.holds Try.pinned (OpenSpec.ofChange packedChangesWrong)

/-- 'foundrylaw11.PackedBack': WHATEVER THE INPUT: true; the input reads as it did. -/
def packedBackSpec : ChangeSpec := { name := "packedBack", fn := fun _ => fun
  | [d1, d2, d3] => { results := [.lit (.bool true)], args := [d1, d2, d3] }
  | _ => none }
def packedBackRow : OpenClaim := { program := "ytmppdgjnibamlaa", sum := "08ba1a43943fd0ab2a222400024a36e6d9d9d328d8024cb0c4f378f0890bdce2", func := "foundry/foundrylaw11.PackedBack", spec := "packedBack", unfollowed := true, recurses := true, apart := false }
def PackedBackSaid : Prop := packedBackRow.holds Try.pinned (OpenSpec.ofChange packedBackSpec)

/-- ITS FALSE NEIGHBOUR: 'it returns false'. Refute it at one input. -/
def packedBackWrong : ChangeSpec := { name := "packedBack", fn := fun _ => fun
  | [d1, d2, d3] => { results := [.lit (.bool false)], args := [d1, d2, d3] }
  | _ => none }
def PackedBackWrongFalsely : Prop := packedBackRow.holds Try.pinned (OpenSpec.ofChange packedBackWrong)

/-- 'foundrylaw11.PackedCuts': WHATEVER THE INPUT: true; the input reads as it did. -/
def packedCutsSpec : ChangeSpec := { name := "packedCuts", fn := fun _ => fun
  | [d1, d2, d3] => { results := [.lit (.bool true)], args := [d1, d2, d3] }
  | _ => none }
def packedCutsRow : OpenClaim := { program := "ytmppdgjnibamlaa", sum := "08ba1a43943fd0ab2a222400024a36e6d9d9d328d8024cb0c4f378f0890bdce2", func := "foundry/foundrylaw11.PackedCuts", spec := "packedCuts", unfollowed := true, recurses := true, apart := false }
def PackedCutsSaid : Prop := packedCutsRow.holds Try.pinned (OpenSpec.ofChange packedCutsSpec)

/-- ITS FALSE NEIGHBOUR: 'it returns false'. Refute it at one input. -/
def packedCutsWrong : ChangeSpec := { name := "packedCuts", fn := fun _ => fun
  | [d1, d2, d3] => { results := [.lit (.bool false)], args := [d1, d2, d3] }
  | _ => none }
def PackedCutsWrongFalsely : Prop := packedCutsRow.holds Try.pinned (OpenSpec.ofChange packedCutsWrong)

/- THE SECOND FORM. 'bulk': how many values and letters a reading holds, each counted each time it is reached (what is shared counts as often as it is met; a slice's spare places count too). A statement '..UptoSaid' is the law's where the arguments, and the package variables that the reading takes, are together of bulk at most 1048576: NARROWER than '..Said'. Prove '..Said' where nothing that the law and all that it calls make is longer than what came in: it says more and counts as full. Else prove '..UptoSaid'. A law counts once. -/
mutual
def uptoBulk {H : Type} : DataW H → Nat
  | .lit (.string bytes) => bytes.length + 1
  | .lit _ => 1
  | .nil => 1
  | .ptr d => uptoBulk d + 1
  | .slice elems spare => uptoBulkAll elems + uptoBulkAll spare + 1
  | .agg parts => uptoBulkAll parts + 1
  | .iface _ d => uptoBulk d + 1
  | .map entries => uptoBulkEntries entries + 1
  | .held _ => 1
def uptoBulkAll {H : Type} : List (DataW H) → Nat
  | [] => 0
  | d :: r => uptoBulk d + uptoBulkAll r
def uptoBulkEntries {H : Type} : List (Lit × DataW H) → Nat
  | [] => 0
  | x :: r => uptoBulkEntry x + uptoBulkEntries r
def uptoBulkEntry {H : Type} : Lit × DataW H → Nat
  | (.string bytes, d) => bytes.length + uptoBulk d + 1
  | (_, d) => uptoBulk d + 1
 end
def uptoSmall : (H : Type) → List (DataW H) → Bool := fun _ ds => decide (uptoBulkAll ds ≤ 1048576)
def OpenSpec.upto (s : _root_.Go.ChangeSpec) : _root_.Go.OpenSpec := { _root_.Go.OpenSpec.ofChange s with cond := some uptoSmall }

/-- 'foundrylaw04.OctetsBack', WHERE WHAT IT READS IS OF BULK AT MOST 1048576: true; the input reads as it did. -/
def octetsBackUptoRow : OpenClaim := { program := "ytmppdgjnibamlaa", sum := "08ba1a43943fd0ab2a222400024a36e6d9d9d328d8024cb0c4f378f0890bdce2", func := "foundry/foundrylaw04.OctetsBack", spec := "octetsBack", apart := false, narrowed := true }
def OctetsBackUptoSaid : Prop := octetsBackUptoRow.holds Try.pinned (OpenSpec.upto octetsBackSpec)

/-- 'foundrylaw04.OctetsLater', WHERE WHAT IT READS IS OF BULK AT MOST 1048576: true; the input reads as it did. -/
def octetsLaterUptoRow : OpenClaim := { program := "ytmppdgjnibamlaa", sum := "08ba1a43943fd0ab2a222400024a36e6d9d9d328d8024cb0c4f378f0890bdce2", func := "foundry/foundrylaw04.OctetsLater", spec := "octetsLater", apart := false, narrowed := true }
def OctetsLaterUptoSaid : Prop := octetsLaterUptoRow.holds Try.pinned (OpenSpec.upto octetsLaterSpec)

/-- 'foundrylaw11.PackedShort', WHERE WHAT IT READS IS OF BULK AT MOST 1048576: true; the input reads as it did. -/
def packedShortUptoRow : OpenClaim := { program := "ytmppdgjnibamlaa", sum := "08ba1a43943fd0ab2a222400024a36e6d9d9d328d8024cb0c4f378f0890bdce2", func := "foundry/foundrylaw11.PackedShort", spec := "packedShort", unfollowed := true, recurses := true, apart := false, narrowed := true }
def PackedShortUptoSaid : Prop := packedShortUptoRow.holds Try.pinned (OpenSpec.upto packedShortSpec)

/-- 'foundrylaw04.OctetsFails', WHERE WHAT IT READS IS OF BULK AT MOST 1048576: true; the input reads as it did. -/
def octetsFailsUptoRow : OpenClaim := { program := "ytmppdgjnibamlaa", sum := "08ba1a43943fd0ab2a222400024a36e6d9d9d328d8024cb0c4f378f0890bdce2", func := "foundry/foundrylaw04.OctetsFails", spec := "octetsFails", apart := false, narrowed := true }
def OctetsFailsUptoSaid : Prop := octetsFailsUptoRow.holds Try.pinned (OpenSpec.upto octetsFailsSpec)

/-- 'foundrylaw11.PackedPoints', WHERE WHAT IT READS IS OF BULK AT MOST 1048576: true; the input reads as it did. -/
def packedPointsUptoRow : OpenClaim := { program := "ytmppdgjnibamlaa", sum := "08ba1a43943fd0ab2a222400024a36e6d9d9d328d8024cb0c4f378f0890bdce2", func := "foundry/foundrylaw11.PackedPoints", spec := "packedPoints", unfollowed := true, recurses := true, apart := false, narrowed := true }
def PackedPointsUptoSaid : Prop := packedPointsUptoRow.holds Try.pinned (OpenSpec.upto packedPointsSpec)

/-- 'foundrylaw05.SfntTurned', WHERE WHAT IT READS IS OF BULK AT MOST 1048576: true; the input reads as it did. -/
def sfntTurnedUptoRow : OpenClaim := { program := "ytmppdgjnibamlaa", sum := "08ba1a43943fd0ab2a222400024a36e6d9d9d328d8024cb0c4f378f0890bdce2", func := "foundry/foundrylaw05.SfntTurned", spec := "sfntTurned", unfollowed := true, recurses := true, apart := false, narrowed := true }
def SfntTurnedUptoSaid : Prop := sfntTurnedUptoRow.holds Try.pinned (OpenSpec.upto sfntTurnedSpec)

/-- 'foundrylaw04.OctetsPages', WHERE WHAT IT READS IS OF BULK AT MOST 1048576: true; the input reads as it did. -/
def octetsPagesUptoRow : OpenClaim := { program := "ytmppdgjnibamlaa", sum := "08ba1a43943fd0ab2a222400024a36e6d9d9d328d8024cb0c4f378f0890bdce2", func := "foundry/foundrylaw04.OctetsPages", spec := "octetsPages", apart := false, narrowed := true }
def OctetsPagesUptoSaid : Prop := octetsPagesUptoRow.holds Try.pinned (OpenSpec.upto octetsPagesSpec)

/-- 'foundrylaw05.SfntBack', WHERE WHAT IT READS IS OF BULK AT MOST 1048576: true; the input reads as it did. -/
def sfntBackUptoRow : OpenClaim := { program := "ytmppdgjnibamlaa", sum := "08ba1a43943fd0ab2a222400024a36e6d9d9d328d8024cb0c4f378f0890bdce2", func := "foundry/foundrylaw05.SfntBack", spec := "sfntBack", unfollowed := true, recurses := true, apart := false, narrowed := true }
def SfntBackUptoSaid : Prop := sfntBackUptoRow.holds Try.pinned (OpenSpec.upto sfntBackSpec)

/-- 'foundrylaw12.OutlineMoved', WHERE WHAT IT READS IS OF BULK AT MOST 1048576: true; the input reads as it did. -/
def outlineMovedUptoRow : OpenClaim := { program := "ytmppdgjnibamlaa", sum := "08ba1a43943fd0ab2a222400024a36e6d9d9d328d8024cb0c4f378f0890bdce2", func := "foundry/foundrylaw12.OutlineMoved", spec := "outlineMoved", apart := false, narrowed := true }
def OutlineMovedUptoSaid : Prop := outlineMovedUptoRow.holds Try.pinned (OpenSpec.upto outlineMovedSpec)

/-- 'foundrylaw11.PackedChanges', WHERE WHAT IT READS IS OF BULK AT MOST 1048576: true; the input reads as it did. -/
def packedChangesUptoRow : OpenClaim := { program := "ytmppdgjnibamlaa", sum := "08ba1a43943fd0ab2a222400024a36e6d9d9d328d8024cb0c4f378f0890bdce2", func := "foundry/foundrylaw11.PackedChanges", spec := "packedChanges", unfollowed := true, recurses := true, apart := false, narrowed := true }
def PackedChangesUptoSaid : Prop := packedChangesUptoRow.holds Try.pinned (OpenSpec.upto packedChangesSpec)

/-- 'foundrylaw11.PackedBack', WHERE WHAT IT READS IS OF BULK AT MOST 1048576: true; the input reads as it did. -/
def packedBackUptoRow : OpenClaim := { program := "ytmppdgjnibamlaa", sum := "08ba1a43943fd0ab2a222400024a36e6d9d9d328d8024cb0c4f378f0890bdce2", func := "foundry/foundrylaw11.PackedBack", spec := "packedBack", unfollowed := true, recurses := true, apart := false, narrowed := true }
def PackedBackUptoSaid : Prop := packedBackUptoRow.holds Try.pinned (OpenSpec.upto packedBackSpec)

/-- 'foundrylaw11.PackedCuts', WHERE WHAT IT READS IS OF BULK AT MOST 1048576: true; the input reads as it did. -/
def packedCutsUptoRow : OpenClaim := { program := "ytmppdgjnibamlaa", sum := "08ba1a43943fd0ab2a222400024a36e6d9d9d328d8024cb0c4f378f0890bdce2", func := "foundry/foundrylaw11.PackedCuts", spec := "packedCuts", unfollowed := true, recurses := true, apart := false, narrowed := true }
def PackedCutsUptoSaid : Prop := packedCutsUptoRow.holds Try.pinned (OpenSpec.upto packedCutsSpec)

end Rows
end Go.Proofs.Ytmppdgjnibamlaa
