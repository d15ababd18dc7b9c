/- A closed fact of the row of AlphaFlat. -/
import Derived.Test.YtfegklafpjdemaaGreatDoorCards
set_option maxRecDepth 100000
namespace Go.Proofs.YtfegklafpjdemaaGreatDoor
open Go
theorem fl_goes : Rows.alphaFlatRow.goesBy Tryz.prog = false := by kernel_rfl
end Go.Proofs.YtfegklafpjdemaaGreatDoor
