/- Runs of the law BranchOrder. -/
import Derived.Test.YtjgkhimmmnapeaaGreatDoorBOBase
namespace Go.Proofs.YtjgkhimmmnapeaaGreatDoor.branchOrder
open Go.RowKit Go.Proofs.YtjgkhimmmnapeaaGreatDoor.Ev
set_option maxRecDepth 100000
theorem r8 : run (.i .i64 8) = true := by kernel_rfl
theorem r9 : run (.i .i64 9) = true := by kernel_rfl
theorem r10 : run (.i .i64 10) = true := by kernel_rfl
theorem r11 : run (.i .i64 11) = true := by kernel_rfl
end Go.Proofs.YtjgkhimmmnapeaaGreatDoor.branchOrder
