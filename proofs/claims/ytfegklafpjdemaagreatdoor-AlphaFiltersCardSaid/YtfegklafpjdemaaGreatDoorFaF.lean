/- A closed fact of the row of AlphaFilters. -/
import Derived.Test.YtfegklafpjdemaaGreatDoorCards
set_option maxRecDepth 100000
namespace Go.Proofs.YtfegklafpjdemaaGreatDoor
open Go
theorem fi_goes : Rows.alphaFiltersRow.goesBy Tryz.prog = false := by kernel_rfl
end Go.Proofs.YtfegklafpjdemaaGreatDoor
