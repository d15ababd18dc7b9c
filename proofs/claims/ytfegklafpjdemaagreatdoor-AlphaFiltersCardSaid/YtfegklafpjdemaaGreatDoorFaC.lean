/- A closed fact of the row of AlphaFilters. -/
import Derived.Test.YtfegklafpjdemaaGreatDoorRows
set_option maxRecDepth 100000
namespace Go.Proofs.YtfegklafpjdemaaGreatDoor
open Go
theorem fi_recurses : Tryz.prog.recurses 3 = Rows.alphaFiltersRow.recurses := by kernel_rfl
end Go.Proofs.YtfegklafpjdemaaGreatDoor
