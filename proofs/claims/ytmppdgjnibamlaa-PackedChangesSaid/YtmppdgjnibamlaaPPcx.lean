/- Printed by this session's run of print.py (with contracts of its own taken as given): the functions that these laws reach, their contracts. No condition. -/
import Derived.Test.YtmppdgjnibamlaaPPcx0
import Derived.Test.YtmppdgjnibamlaaPPcx1
import Derived.Test.YtmppdgjnibamlaaPPcx2
import Derived.Test.YtmppdgjnibamlaaPPcx3
import Derived.Test.YtmppdgjnibamlaaPPcx4
namespace Go.Proofs.Ytmppdgjnibamlaa.PPc
open Go.RowKit Go.Proofs.YtmppdgjnibamlaaW.PrintWords Go.Proofs.YtmppdgjnibamlaaW.PrintLast Go.Proofs.YtmppdgjnibamlaaW.PrintMore
attribute [local go_sem] max2_int min2_int max_two min_two max_three min_three max_four min_four   -- for this text's walks alone
open Go.Proofs.Ytmppdgjnibamlaa.Pag
set_option linter.unusedVariables false
set_option linter.unusedSimpArgs false

end Go.Proofs.Ytmppdgjnibamlaa.PPc
