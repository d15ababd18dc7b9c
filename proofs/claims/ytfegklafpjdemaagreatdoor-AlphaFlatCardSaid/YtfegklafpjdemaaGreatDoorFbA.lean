/- A closed fact of the row of AlphaFlat. -/
import Derived.Test.YtfegklafpjdemaaGreatDoorRows
set_option maxRecDepth 100000
namespace Go.Proofs.YtfegklafpjdemaaGreatDoor
open Go
theorem fl_inPlace : Tryz.prog.inPlace 5 = Rows.alphaFlatRow.inPlace := by kernel_rfl
end Go.Proofs.YtfegklafpjdemaaGreatDoor
