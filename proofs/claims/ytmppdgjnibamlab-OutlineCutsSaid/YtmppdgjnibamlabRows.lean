/-
  No cell of these rows narrows 'for every input' (looked for: loops, veiled, ifaces, maps, wideKeys, modest, calm, conditions, laid).
  DERIVED. THE GIVEN ROWS OF THIS SEAT. 11 by the template 'for every input the law returns true; each argument reads behind the call as it read before'; 0 by the template 'total and deterministic' (their statements: YtmppdgjnibamlabTotals.lean).
  GIVEN WITH THE SEED: the statements are not yours to turn. If you find one false, say at which input.
  Laid BY PROGRAM, IN A SANDBOX (cutbox-rows.mjs): the forced cells as the released guide's own fill.sh prints them over the translation 2f987218834eb62b… (all of the seat's roots in one cut). By AI agents, Wed Nov 11 2026. No macro, syntax, notation, axiom, sorry.
-/
import Derived.Test.YtmppdgjnibamlabChecked
import GoSem.Claim
import GoSem.ClaimJoined
import GoSem.ClaimMapViews
import Derived.JoinedTies
import Derived.KernelRfl
namespace Go.Proofs.Ytmppdgjnibamlab
/- THE CELL 'sum', in the pinned program and in every row, IS THE sha256 OF THE DUMP (.gsa) THAT YtmppdgjnibamlabProg.lean LOADS. Nothing in Lean hashes anything: it is a label: what it is worth is what the hold of that sum in a sandbox is worth. -/
noncomputable def Try.pinned : Pinned := { name := "ytmppdgjnibamlab", sum := "2f987218834eb62b5502ebc4eea8db02b57c89daddd251ac4b5c79d5fbee542b", checked := Try.checked }
namespace Rows
def none {H : Type} : Left H := { results := [], args := [] }

/-- 'foundrylaw12.OutlineBytes': WHATEVER THE INPUT: true; the input reads as it did. -/
def outlineBytesSpec : ChangeSpec := { name := "outlineBytes", fn := fun _ => fun
  | [d1, d2] => { results := [.lit (.bool true)], args := [d1, d2] }
  | _ => none }
def outlineBytesRow : OpenClaim := { program := "ytmppdgjnibamlab", sum := "2f987218834eb62b5502ebc4eea8db02b57c89daddd251ac4b5c79d5fbee542b", func := "foundry/foundrylaw12.OutlineBytes", spec := "outlineBytes", apart := false }
def OutlineBytesSaid : Prop := outlineBytesRow.holds Try.pinned (OpenSpec.ofChange outlineBytesSpec)

/-- ITS FALSE NEIGHBOUR: 'it returns false'. Refute it at one input. -/
def outlineBytesWrong : ChangeSpec := { name := "outlineBytes", fn := fun _ => fun
  | [d1, d2] => { results := [.lit (.bool false)], args := [d1, d2] }
  | _ => none }
def OutlineBytesWrongFalsely : Prop := outlineBytesRow.holds Try.pinned (OpenSpec.ofChange outlineBytesWrong)

/-- 'foundrylaw12.OutlineBack': WHATEVER THE INPUT: true; the input reads as it did. -/
def outlineBackSpec : ChangeSpec := { name := "outlineBack", fn := fun _ => fun
  | [d] => { results := [.lit (.bool true)], args := [d] }
  | _ => none }
def outlineBackRow : OpenClaim := { program := "ytmppdgjnibamlab", sum := "2f987218834eb62b5502ebc4eea8db02b57c89daddd251ac4b5c79d5fbee542b", func := "foundry/foundrylaw12.OutlineBack", spec := "outlineBack", apart := false }
def OutlineBackSaid : Prop := outlineBackRow.holds Try.pinned (OpenSpec.ofChange outlineBackSpec)

/-- ITS FALSE NEIGHBOUR: 'it returns false'. Refute it at one input. -/
def outlineBackWrong : ChangeSpec := { name := "outlineBack", fn := fun _ => fun
  | [d] => { results := [.lit (.bool false)], args := [d] }
  | _ => none }
def OutlineBackWrongFalsely : Prop := outlineBackRow.holds Try.pinned (OpenSpec.ofChange outlineBackWrong)

/-- 'foundrylaw12.OutlineOnly': WHATEVER THE INPUT: true; the input reads as it did. -/
def outlineOnlySpec : ChangeSpec := { name := "outlineOnly", fn := fun _ => fun
  | [d] => { results := [.lit (.bool true)], args := [d] }
  | _ => none }
def outlineOnlyRow : OpenClaim := { program := "ytmppdgjnibamlab", sum := "2f987218834eb62b5502ebc4eea8db02b57c89daddd251ac4b5c79d5fbee542b", func := "foundry/foundrylaw12.OutlineOnly", spec := "outlineOnly", apart := false }
def OutlineOnlySaid : Prop := outlineOnlyRow.holds Try.pinned (OpenSpec.ofChange outlineOnlySpec)

/-- ITS FALSE NEIGHBOUR: 'it returns false'. Refute it at one input. -/
def outlineOnlyWrong : ChangeSpec := { name := "outlineOnly", fn := fun _ => fun
  | [d] => { results := [.lit (.bool false)], args := [d] }
  | _ => none }
def OutlineOnlyWrongFalsely : Prop := outlineOnlyRow.holds Try.pinned (OpenSpec.ofChange outlineOnlyWrong)

/-- 'foundrylaw12.OutlineCuts': WHATEVER THE INPUT: true; the input reads as it did. -/
def outlineCutsSpec : ChangeSpec := { name := "outlineCuts", fn := fun _ => fun
  | [d1, d2, d3] => { results := [.lit (.bool true)], args := [d1, d2, d3] }
  | _ => none }
def outlineCutsRow : OpenClaim := { program := "ytmppdgjnibamlab", sum := "2f987218834eb62b5502ebc4eea8db02b57c89daddd251ac4b5c79d5fbee542b", func := "foundry/foundrylaw12.OutlineCuts", spec := "outlineCuts", apart := false }
def OutlineCutsSaid : Prop := outlineCutsRow.holds Try.pinned (OpenSpec.ofChange outlineCutsSpec)

/-- ITS FALSE NEIGHBOUR: 'it returns false'. Refute it at one input. -/
def outlineCutsWrong : ChangeSpec := { name := "outlineCuts", fn := fun _ => fun
  | [d1, d2, d3] => { results := [.lit (.bool false)], args := [d1, d2, d3] }
  | _ => none }
def OutlineCutsWrongFalsely : Prop := outlineCutsRow.holds Try.pinned (OpenSpec.ofChange outlineCutsWrong)

/-- 'foundrylaw22.FeatsChoose': WHATEVER THE INPUT: true; the input reads as it did. -/
def featsChooseSpec : ChangeSpec := { name := "featsChoose", fn := fun _ => fun
  | [d1, d2, d3] => { results := [.lit (.bool true)], args := [d1, d2, d3] }
  | _ => none }
def featsChooseRow : OpenClaim := { program := "ytmppdgjnibamlab", sum := "2f987218834eb62b5502ebc4eea8db02b57c89daddd251ac4b5c79d5fbee542b", func := "foundry/foundrylaw22.FeatsChoose", spec := "featsChoose", unfollowed := true, recurses := true, apart := false }
def FeatsChooseSaid : Prop := featsChooseRow.holds Try.pinned (OpenSpec.ofChange featsChooseSpec)

/-- ITS FALSE NEIGHBOUR: 'it returns false'. Refute it at one input. -/
def featsChooseWrong : ChangeSpec := { name := "featsChoose", fn := fun _ => fun
  | [d1, d2, d3] => { results := [.lit (.bool false)], args := [d1, d2, d3] }
  | _ => none }
def FeatsChooseWrongFalsely : Prop := featsChooseRow.holds Try.pinned (OpenSpec.ofChange featsChooseWrong)

/-- 'foundrylaw22.FeatsTags': WHATEVER THE INPUT: true; the input reads as it did. -/
def featsTagsSpec : ChangeSpec := { name := "featsTags", fn := fun _ => fun
  | [d1, d2, d3] => { results := [.lit (.bool true)], args := [d1, d2, d3] }
  | _ => none }
def featsTagsRow : OpenClaim := { program := "ytmppdgjnibamlab", sum := "2f987218834eb62b5502ebc4eea8db02b57c89daddd251ac4b5c79d5fbee542b", func := "foundry/foundrylaw22.FeatsTags", spec := "featsTags", unfollowed := true, recurses := true, apart := false }
def FeatsTagsSaid : Prop := featsTagsRow.holds Try.pinned (OpenSpec.ofChange featsTagsSpec)

/-- ITS FALSE NEIGHBOUR: 'it returns false'. Refute it at one input. -/
def featsTagsWrong : ChangeSpec := { name := "featsTags", fn := fun _ => fun
  | [d1, d2, d3] => { results := [.lit (.bool false)], args := [d1, d2, d3] }
  | _ => none }
def FeatsTagsWrongFalsely : Prop := featsTagsRow.holds Try.pinned (OpenSpec.ofChange featsTagsWrong)

/-- 'foundrylaw22.FeatsConds': WHATEVER THE INPUT: true; the input reads as it did. -/
def featsCondsSpec : ChangeSpec := { name := "featsConds", fn := fun _ => fun
  | [d1, d2, d3] => { results := [.lit (.bool true)], args := [d1, d2, d3] }
  | _ => none }
def featsCondsRow : OpenClaim := { program := "ytmppdgjnibamlab", sum := "2f987218834eb62b5502ebc4eea8db02b57c89daddd251ac4b5c79d5fbee542b", func := "foundry/foundrylaw22.FeatsConds", spec := "featsConds", unfollowed := true, recurses := true, apart := false }
def FeatsCondsSaid : Prop := featsCondsRow.holds Try.pinned (OpenSpec.ofChange featsCondsSpec)

/-- ITS FALSE NEIGHBOUR: 'it returns false'. Refute it at one input. -/
def featsCondsWrong : ChangeSpec := { name := "featsConds", fn := fun _ => fun
  | [d1, d2, d3] => { results := [.lit (.bool false)], args := [d1, d2, d3] }
  | _ => none }
def FeatsCondsWrongFalsely : Prop := featsCondsRow.holds Try.pinned (OpenSpec.ofChange featsCondsWrong)

/-- 'foundrylaw05.SfntSums': WHATEVER THE INPUT: true; the input reads as it did. -/
def sfntSumsSpec : ChangeSpec := { name := "sfntSums", fn := fun _ => fun
  | [d1, d2] => { results := [.lit (.bool true)], args := [d1, d2] }
  | _ => none }
def sfntSumsRow : OpenClaim := { program := "ytmppdgjnibamlab", sum := "2f987218834eb62b5502ebc4eea8db02b57c89daddd251ac4b5c79d5fbee542b", func := "foundry/foundrylaw05.SfntSums", spec := "sfntSums", unfollowed := true, recurses := true, apart := false }
def SfntSumsSaid : Prop := sfntSumsRow.holds Try.pinned (OpenSpec.ofChange sfntSumsSpec)

/-- ITS FALSE NEIGHBOUR: 'it returns false'. Refute it at one input. -/
def sfntSumsWrong : ChangeSpec := { name := "sfntSums", fn := fun _ => fun
  | [d1, d2] => { results := [.lit (.bool false)], args := [d1, d2] }
  | _ => none }
def SfntSumsWrongFalsely : Prop := sfntSumsRow.holds Try.pinned (OpenSpec.ofChange sfntSumsWrong)

/-- 'foundrylaw05.SfntPacks': WHATEVER THE INPUT: true; the input reads as it did. -/
def sfntPacksSpec : ChangeSpec := { name := "sfntPacks", fn := fun _ => fun
  | [d1, d2, d3] => { results := [.lit (.bool true)], args := [d1, d2, d3] }
  | _ => none }
def sfntPacksRow : OpenClaim := { program := "ytmppdgjnibamlab", sum := "2f987218834eb62b5502ebc4eea8db02b57c89daddd251ac4b5c79d5fbee542b", func := "foundry/foundrylaw05.SfntPacks", spec := "sfntPacks", unfollowed := true, recurses := true, apart := false }
def SfntPacksSaid : Prop := sfntPacksRow.holds Try.pinned (OpenSpec.ofChange sfntPacksSpec)

/-- ITS FALSE NEIGHBOUR: 'it returns false'. Refute it at one input. -/
def sfntPacksWrong : ChangeSpec := { name := "sfntPacks", fn := fun _ => fun
  | [d1, d2, d3] => { results := [.lit (.bool false)], args := [d1, d2, d3] }
  | _ => none }
def SfntPacksWrongFalsely : Prop := sfntPacksRow.holds Try.pinned (OpenSpec.ofChange sfntPacksWrong)

/-- 'foundrylaw05.SfntReads': WHATEVER THE INPUT: true; the input reads as it did. -/
def sfntReadsSpec : ChangeSpec := { name := "sfntReads", fn := fun _ => fun
  | [d] => { results := [.lit (.bool true)], args := [d] }
  | _ => none }
def sfntReadsRow : OpenClaim := { program := "ytmppdgjnibamlab", sum := "2f987218834eb62b5502ebc4eea8db02b57c89daddd251ac4b5c79d5fbee542b", func := "foundry/foundrylaw05.SfntReads", spec := "sfntReads", unfollowed := true, recurses := true, apart := false }
def SfntReadsSaid : Prop := sfntReadsRow.holds Try.pinned (OpenSpec.ofChange sfntReadsSpec)

/-- ITS FALSE NEIGHBOUR: 'it returns false'. Refute it at one input. -/
def sfntReadsWrong : ChangeSpec := { name := "sfntReads", fn := fun _ => fun
  | [d] => { results := [.lit (.bool false)], args := [d] }
  | _ => none }
def SfntReadsWrongFalsely : Prop := sfntReadsRow.holds Try.pinned (OpenSpec.ofChange sfntReadsWrong)

/-- 'foundrylaw05.SfntOnly': WHATEVER THE INPUT: true; the input reads as it did. -/
def sfntOnlySpec : ChangeSpec := { name := "sfntOnly", fn := fun _ => fun
  | [d] => { results := [.lit (.bool true)], args := [d] }
  | _ => none }
def sfntOnlyRow : OpenClaim := { program := "ytmppdgjnibamlab", sum := "2f987218834eb62b5502ebc4eea8db02b57c89daddd251ac4b5c79d5fbee542b", func := "foundry/foundrylaw05.SfntOnly", spec := "sfntOnly", unfollowed := true, recurses := true, apart := false }
def SfntOnlySaid : Prop := sfntOnlyRow.holds Try.pinned (OpenSpec.ofChange sfntOnlySpec)

/-- ITS FALSE NEIGHBOUR: 'it returns false'. Refute it at one input. -/
def sfntOnlyWrong : ChangeSpec := { name := "sfntOnly", fn := fun _ => fun
  | [d] => { results := [.lit (.bool false)], args := [d] }
  | _ => none }
def SfntOnlyWrongFalsely : Prop := sfntOnlyRow.holds Try.pinned (OpenSpec.ofChange sfntOnlyWrong)

/- THE SECOND FORM. 'bulk': how many values and letters a reading holds, each counted each time it is reached (what is shared counts as often as it is met; a slice's spare places count too). A statement '..UptoSaid' is the law's where the arguments, and the package variables that the reading takes, are together of bulk at most 1048576: NARROWER than '..Said'. Prove '..Said' where nothing that the law and all that it calls make is longer than what came in: it says more and counts as full. Else prove '..UptoSaid'. A law counts once. -/
mutual
def uptoBulk {H : Type} : DataW H → Nat
  | .lit (.string bytes) => bytes.length + 1
  | .lit _ => 1
  | .nil => 1
  | .ptr d => uptoBulk d + 1
  | .slice elems spare => uptoBulkAll elems + uptoBulkAll spare + 1
  | .agg parts => uptoBulkAll parts + 1
  | .iface _ d => uptoBulk d + 1
  | .map entries => uptoBulkEntries entries + 1
  | .held _ => 1
def uptoBulkAll {H : Type} : List (DataW H) → Nat
  | [] => 0
  | d :: r => uptoBulk d + uptoBulkAll r
def uptoBulkEntries {H : Type} : List (Lit × DataW H) → Nat
  | [] => 0
  | x :: r => uptoBulkEntry x + uptoBulkEntries r
def uptoBulkEntry {H : Type} : Lit × DataW H → Nat
  | (.string bytes, d) => bytes.length + uptoBulk d + 1
  | (_, d) => uptoBulk d + 1
 end
def uptoSmall : (H : Type) → List (DataW H) → Bool := fun _ ds => decide (uptoBulkAll ds ≤ 1048576)
def OpenSpec.upto (s : _root_.Go.ChangeSpec) : _root_.Go.OpenSpec := { _root_.Go.OpenSpec.ofChange s with cond := some uptoSmall }

/-- 'foundrylaw12.OutlineBytes', WHERE WHAT IT READS IS OF BULK AT MOST 1048576: true; the input reads as it did. -/
def outlineBytesUptoRow : OpenClaim := { program := "ytmppdgjnibamlab", sum := "2f987218834eb62b5502ebc4eea8db02b57c89daddd251ac4b5c79d5fbee542b", func := "foundry/foundrylaw12.OutlineBytes", spec := "outlineBytes", apart := false, narrowed := true }
def OutlineBytesUptoSaid : Prop := outlineBytesUptoRow.holds Try.pinned (OpenSpec.upto outlineBytesSpec)

/-- 'foundrylaw12.OutlineBack', WHERE WHAT IT READS IS OF BULK AT MOST 1048576: true; the input reads as it did. -/
def outlineBackUptoRow : OpenClaim := { program := "ytmppdgjnibamlab", sum := "2f987218834eb62b5502ebc4eea8db02b57c89daddd251ac4b5c79d5fbee542b", func := "foundry/foundrylaw12.OutlineBack", spec := "outlineBack", apart := false, narrowed := true }
def OutlineBackUptoSaid : Prop := outlineBackUptoRow.holds Try.pinned (OpenSpec.upto outlineBackSpec)

/-- 'foundrylaw12.OutlineOnly', WHERE WHAT IT READS IS OF BULK AT MOST 1048576: true; the input reads as it did. -/
def outlineOnlyUptoRow : OpenClaim := { program := "ytmppdgjnibamlab", sum := "2f987218834eb62b5502ebc4eea8db02b57c89daddd251ac4b5c79d5fbee542b", func := "foundry/foundrylaw12.OutlineOnly", spec := "outlineOnly", apart := false, narrowed := true }
def OutlineOnlyUptoSaid : Prop := outlineOnlyUptoRow.holds Try.pinned (OpenSpec.upto outlineOnlySpec)

/-- 'foundrylaw12.OutlineCuts', WHERE WHAT IT READS IS OF BULK AT MOST 1048576: true; the input reads as it did. -/
def outlineCutsUptoRow : OpenClaim := { program := "ytmppdgjnibamlab", sum := "2f987218834eb62b5502ebc4eea8db02b57c89daddd251ac4b5c79d5fbee542b", func := "foundry/foundrylaw12.OutlineCuts", spec := "outlineCuts", apart := false, narrowed := true }
def OutlineCutsUptoSaid : Prop := outlineCutsUptoRow.holds Try.pinned (OpenSpec.upto outlineCutsSpec)

/-- 'foundrylaw22.FeatsChoose', WHERE WHAT IT READS IS OF BULK AT MOST 1048576: true; the input reads as it did. -/
def featsChooseUptoRow : OpenClaim := { program := "ytmppdgjnibamlab", sum := "2f987218834eb62b5502ebc4eea8db02b57c89daddd251ac4b5c79d5fbee542b", func := "foundry/foundrylaw22.FeatsChoose", spec := "featsChoose", unfollowed := true, recurses := true, apart := false, narrowed := true }
def FeatsChooseUptoSaid : Prop := featsChooseUptoRow.holds Try.pinned (OpenSpec.upto featsChooseSpec)

/-- 'foundrylaw22.FeatsTags', WHERE WHAT IT READS IS OF BULK AT MOST 1048576: true; the input reads as it did. -/
def featsTagsUptoRow : OpenClaim := { program := "ytmppdgjnibamlab", sum := "2f987218834eb62b5502ebc4eea8db02b57c89daddd251ac4b5c79d5fbee542b", func := "foundry/foundrylaw22.FeatsTags", spec := "featsTags", unfollowed := true, recurses := true, apart := false, narrowed := true }
def FeatsTagsUptoSaid : Prop := featsTagsUptoRow.holds Try.pinned (OpenSpec.upto featsTagsSpec)

/-- 'foundrylaw22.FeatsConds', WHERE WHAT IT READS IS OF BULK AT MOST 1048576: true; the input reads as it did. -/
def featsCondsUptoRow : OpenClaim := { program := "ytmppdgjnibamlab", sum := "2f987218834eb62b5502ebc4eea8db02b57c89daddd251ac4b5c79d5fbee542b", func := "foundry/foundrylaw22.FeatsConds", spec := "featsConds", unfollowed := true, recurses := true, apart := false, narrowed := true }
def FeatsCondsUptoSaid : Prop := featsCondsUptoRow.holds Try.pinned (OpenSpec.upto featsCondsSpec)

/-- 'foundrylaw05.SfntSums', WHERE WHAT IT READS IS OF BULK AT MOST 1048576: true; the input reads as it did. -/
def sfntSumsUptoRow : OpenClaim := { program := "ytmppdgjnibamlab", sum := "2f987218834eb62b5502ebc4eea8db02b57c89daddd251ac4b5c79d5fbee542b", func := "foundry/foundrylaw05.SfntSums", spec := "sfntSums", unfollowed := true, recurses := true, apart := false, narrowed := true }
def SfntSumsUptoSaid : Prop := sfntSumsUptoRow.holds Try.pinned (OpenSpec.upto sfntSumsSpec)

/-- 'foundrylaw05.SfntPacks', WHERE WHAT IT READS IS OF BULK AT MOST 1048576: true; the input reads as it did. -/
def sfntPacksUptoRow : OpenClaim := { program := "ytmppdgjnibamlab", sum := "2f987218834eb62b5502ebc4eea8db02b57c89daddd251ac4b5c79d5fbee542b", func := "foundry/foundrylaw05.SfntPacks", spec := "sfntPacks", unfollowed := true, recurses := true, apart := false, narrowed := true }
def SfntPacksUptoSaid : Prop := sfntPacksUptoRow.holds Try.pinned (OpenSpec.upto sfntPacksSpec)

/-- 'foundrylaw05.SfntReads', WHERE WHAT IT READS IS OF BULK AT MOST 1048576: true; the input reads as it did. -/
def sfntReadsUptoRow : OpenClaim := { program := "ytmppdgjnibamlab", sum := "2f987218834eb62b5502ebc4eea8db02b57c89daddd251ac4b5c79d5fbee542b", func := "foundry/foundrylaw05.SfntReads", spec := "sfntReads", unfollowed := true, recurses := true, apart := false, narrowed := true }
def SfntReadsUptoSaid : Prop := sfntReadsUptoRow.holds Try.pinned (OpenSpec.upto sfntReadsSpec)

/-- 'foundrylaw05.SfntOnly', WHERE WHAT IT READS IS OF BULK AT MOST 1048576: true; the input reads as it did. -/
def sfntOnlyUptoRow : OpenClaim := { program := "ytmppdgjnibamlab", sum := "2f987218834eb62b5502ebc4eea8db02b57c89daddd251ac4b5c79d5fbee542b", func := "foundry/foundrylaw05.SfntOnly", spec := "sfntOnly", unfollowed := true, recurses := true, apart := false, narrowed := true }
def SfntOnlyUptoSaid : Prop := sfntOnlyUptoRow.holds Try.pinned (OpenSpec.upto sfntOnlySpec)

end Rows
end Go.Proofs.Ytmppdgjnibamlab
