/- Printed by this session's run of print.py (with contracts of its own taken as given): the functions that these laws reach, their contracts. No condition. -/
import Derived.Test.YtmppdgjnibamlaaPPbx0
import Derived.Test.YtmppdgjnibamlaaPPbx1
import Derived.Test.YtmppdgjnibamlaaPPbx2
import Derived.Test.YtmppdgjnibamlaaPPbx3
namespace Go.Proofs.Ytmppdgjnibamlaa.PPb
open Go.RowKit Go.Proofs.YtmppdgjnibamlaaW.PrintWords Go.Proofs.YtmppdgjnibamlaaW.PrintLast Go.Proofs.YtmppdgjnibamlaaW.PrintMore
attribute [local go_sem] max2_int min2_int max_two min_two max_three min_three max_four min_four   -- for this text's walks alone
open Go.Proofs.Ytmppdgjnibamlaa.Pag
set_option linter.unusedVariables false
set_option linter.unusedSimpArgs false

end Go.Proofs.Ytmppdgjnibamlaa.PPb
