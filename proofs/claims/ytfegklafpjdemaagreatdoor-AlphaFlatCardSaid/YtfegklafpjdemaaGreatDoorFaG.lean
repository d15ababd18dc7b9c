/- A closed fact of the row of AlphaFilters. -/
import Derived.Test.YtfegklafpjdemaaGreatDoorRows
set_option maxRecDepth 100000
namespace Go.Proofs.YtfegklafpjdemaaGreatDoor
open Go
theorem pr_laidOut : laidOutB Tryz.prog = true := by kernel_rfl
theorem pr_rowed : mapsRowed Tryz.prog = true := by kernel_rfl
end Go.Proofs.YtfegklafpjdemaaGreatDoor
