/- Live sets and dead places of any program, valid or not, of both packages. -/
import Derived.Test.YtoiihjbdcjllbaaLive10
import Derived.Test.YtoiihjbdcjllbaaLive5
namespace Go.Proofs.Ytoiihjbdcjllbaa
open Go.RowKit
set_option linter.unusedVariables false
set_option linter.unusedSimpArgs false

noncomputable def lsL (l : List Cd) : List Int := if pv l then lvRow (liveFix l) (l.length + 1) else []
noncomputable def dpL (l : List Cd) : List Int := if pv l then deadL l else []