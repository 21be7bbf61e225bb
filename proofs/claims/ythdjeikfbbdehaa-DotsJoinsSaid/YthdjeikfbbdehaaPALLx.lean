-- printed by a program of this session out of the translation. Not trusted: Lean checks it.
import Derived.Test.YthdjeikfbbdehaaPALLx0
import Derived.Test.YthdjeikfbbdehaaPALLx1
import Derived.Test.YthdjeikfbbdehaaPALLx2
import Derived.Test.YthdjeikfbbdehaaPALLx3
import Derived.Test.YthdjeikfbbdehaaPALLx4
namespace Go.Proofs.Ythdjeikfbbdehaa.PALL
open Go.RowKit Go.Proofs.YthdjeikfbbdehaaW.PrintWords Go.Proofs.YthdjeikfbbdehaaW.PrintLast Go.Proofs.YthdjeikfbbdehaaW.PrintMore
attribute [local go_sem] max2_int min2_int max_two min_two max_three min_three max_four min_four   -- for this text's walks alone
set_option linter.unusedVariables false
set_option linter.unusedSimpArgs false

end Go.Proofs.Ythdjeikfbbdehaa.PALL
