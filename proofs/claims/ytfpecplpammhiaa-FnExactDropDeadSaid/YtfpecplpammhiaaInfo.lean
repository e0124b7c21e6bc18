/- Sizes of the elements of rows. -/
import Derived.Test.YtfpecplpammhiaaMem
namespace Go.Proofs.Ytfpecplpammhiaa
open Go.RowKit

theorem infoRows : (Try.prog.info? 29).map (fun i => (i.zero, i.size, i.bytes)) = some (some (.slice none 0 0), 1, 24) := by kernel_rfl

end Go.Proofs.Ytfpecplpammhiaa
