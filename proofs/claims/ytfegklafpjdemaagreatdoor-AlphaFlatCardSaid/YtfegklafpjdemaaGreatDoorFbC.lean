/- A closed fact of the row of AlphaFlat. -/
import Derived.Test.YtfegklafpjdemaaGreatDoorRows
set_option maxRecDepth 100000
namespace Go.Proofs.YtfegklafpjdemaaGreatDoor
open Go
theorem fl_recurses : Tryz.prog.recurses 5 = Rows.alphaFlatRow.recurses := by kernel_rfl
end Go.Proofs.YtfegklafpjdemaaGreatDoor
