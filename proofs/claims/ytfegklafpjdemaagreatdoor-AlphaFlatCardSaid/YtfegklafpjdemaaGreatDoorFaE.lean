/- A closed fact of the row of AlphaFilters. -/
import Derived.Test.YtfegklafpjdemaaGreatDoorCards
set_option maxRecDepth 100000
namespace Go.Proofs.YtfegklafpjdemaaGreatDoor
open Go
theorem pr_looks : Tryz.prog.looks [] = true := by kernel_rfl
end Go.Proofs.YtfegklafpjdemaaGreatDoor
