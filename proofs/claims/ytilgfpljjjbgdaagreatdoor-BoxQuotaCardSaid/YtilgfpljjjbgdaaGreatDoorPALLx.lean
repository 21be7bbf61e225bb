-- printed by a program of this session out of the translation. Not trusted: Lean checks it.
import Derived.Test.YtilgfpljjjbgdaaGreatDoorPALLx0
import Derived.Test.YtilgfpljjjbgdaaGreatDoorPALLx1
import Derived.Test.YtilgfpljjjbgdaaGreatDoorPALLx2
import Derived.Test.YtilgfpljjjbgdaaGreatDoorPALLx3
import Derived.Test.YtilgfpljjjbgdaaGreatDoorPALLx4
namespace Go.Proofs.YtilgfpljjjbgdaaGreatDoor.PALL
open Go.RowKit Go.Proofs.YtilgfpljjjbgdaaGreatDoorW.PrintWords Go.Proofs.YtilgfpljjjbgdaaGreatDoorW.PrintLast Go.Proofs.YtilgfpljjjbgdaaGreatDoorW.PrintMore
attribute [local go_sem] max2_int min2_int max_two min_two max_three min_three max_four min_four   -- for this text's walks alone
set_option linter.unusedVariables false
set_option linter.unusedSimpArgs false

end Go.Proofs.YtilgfpljjjbgdaaGreatDoor.PALL
