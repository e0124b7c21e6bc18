/- The reference's PeelLoop. -/
import Derived.Test.YtoiihjbdcjllbaaMem2
import Derived.Test.YtoiihjbdcjllbaaSyn
import Derived.Test.YtoiihjbdcjllbaaEnds
import Derived.Test.YtoiihjbdcjllbaaValid1
import Derived.Test.YtoiihjbdcjllbaaPicks
namespace Go.Proofs.Ytoiihjbdcjllbaa
set_option linter.unusedVariables false
set_option linter.unusedSimpArgs false
open Go.RowKit