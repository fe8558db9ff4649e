/- Printed by this session's run of print.py (with contracts of its own taken as given): the functions that these laws reach, their contracts. No condition. -/
import Derived.Test.YtmppdgjnibamlaaProg
import Derived.Below
import Derived.Deep.Draws
import Derived.Deep.AppendLies
import Derived.Maps.AppendAt
import Derived.OwnWalk
import Derived.Laws.BytesArg
import Derived.Laws.MakeOwn
import Derived.Laws.OwnMore
import Derived.Deep.OwnRows
import Derived.Tactics
import Derived.Lib.ConvBytes
import Derived.Laws.Slices
import Derived.WalkKit
import Derived.KernelRfl
import Derived.RowKit3
import Derived.Deep.LoopGhost
import Derived.Deep.QuietTactic
import Derived.BigQuiet
import Derived.WideLaws
import Derived.Deep.DeepCutAuto
import Derived.Deep.CutBlock
import Derived.Deep.RegionHeld3
import Derived.Laws.Rows
import Derived.Lib.AppendStr
import Derived.ArgAppend
import Derived.Laws.IdiomCopy
import Derived.OrdersHeld
import Derived.Laws.BitsLemmas
import Derived.RowKit
import Derived.Test.YtmppdgjnibamlaaWWords
import Derived.Test.YtmppdgjnibamlaaWLast
import Derived.Test.YtmppdgjnibamlaaWTab
import Derived.Test.YtmppdgjnibamlaaWFour
import Derived.Test.YtmppdgjnibamlaaWQPut
import Derived.Test.YtmppdgjnibamlaaWApart
import Derived.Test.YtmppdgjnibamlaaWArr
import Derived.Test.YtmppdgjnibamlaaWZeros
import Derived.Test.YtmppdgjnibamlaaWFoot
import Derived.Test.YtmppdgjnibamlaaWKept
import Derived.Test.YtmppdgjnibamlaaWShare
import Derived.Test.YtmppdgjnibamlaaWN
import Derived.Test.YtmppdgjnibamlaaWFootNe
import Derived.Test.YtmppdgjnibamlaaWAt
import Derived.Test.YtmppdgjnibamlaaWEqStruct
import Derived.Test.YtmppdgjnibamlaaWRepsOne
import Derived.Test.YtmppdgjnibamlaaWInv
import Derived.Test.YtmppdgjnibamlaaWInvWords
import Derived.Test.YtmppdgjnibamlaaWGuard
import Derived.Test.YtmppdgjnibamlaaWNEv
import Derived.Test.YtmppdgjnibamlaaWMore
namespace Go.Proofs.Ytmppdgjnibamlaa.PRf
open Go.RowKit Go.Proofs.YtmppdgjnibamlaaW.PrintWords Go.Proofs.YtmppdgjnibamlaaW.PrintLast Go.Proofs.YtmppdgjnibamlaaW.PrintMore
attribute [local go_sem] max2_int min2_int max_two min_two max_three min_three max_four min_four   -- for this text's walks alone
set_option linter.unusedVariables false
set_option linter.unusedSimpArgs false



def errW : Option Int → Value
  | none => .nilIface
  | some c => .iface 0 (.int .i64 c)
theorem errW_none : errW none = .nilIface := rfl
theorem errW_some (c : Int) : errW (some c) = .iface 0 (.int .i64 c) := rfl

theorem info5 : (Try.prog.info? 5).map (fun i => (i.zero, i.size, i.bytes)) = some (some (.int .u8 0), 1, 1) := by kernel_rfl
-- the values' own types

end Go.Proofs.Ytmppdgjnibamlaa.PRf
