-- printed by a program of this session out of the translation. Not trusted: Lean checks it.
import Derived.Test.YthhhaacoiknbpaaDoorPALLx0
import Derived.Test.YthhhaacoiknbpaaDoorPALLx1
import Derived.Test.YthhhaacoiknbpaaDoorPALLx2
import Derived.Test.YthhhaacoiknbpaaDoorPALLx3
import Derived.Test.YthhhaacoiknbpaaDoorPALLx4
import Derived.Test.YthhhaacoiknbpaaDoorPALLx5
import Derived.Test.YthhhaacoiknbpaaDoorPALLx6
namespace Go.Proofs.YthhhaacoiknbpaaDoor.PALL
open Go.RowKit Go.Proofs.YthhhaacoiknbpaaDoorW.PrintWords Go.Proofs.YthhhaacoiknbpaaDoorW.PrintLast Go.Proofs.YthhhaacoiknbpaaDoorW.PrintMore
attribute [local go_sem] max2_int min2_int max_two min_two max_three min_three max_four min_four   -- for this text's walks alone
set_option linter.unusedVariables false
set_option linter.unusedSimpArgs false

end Go.Proofs.YthhhaacoiknbpaaDoor.PALL
