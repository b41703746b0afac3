/- Runs of the law BranchOrder. -/
import Derived.Test.YtjgkhimmmnapeaaGreatDoorBOBase
namespace Go.Proofs.YtjgkhimmmnapeaaGreatDoor.branchOrder
open Go.RowKit Go.Proofs.YtjgkhimmmnapeaaGreatDoor.Ev
set_option maxRecDepth 100000
theorem r0 : run (.i .i64 0) = true := by kernel_rfl
theorem r1 : run (.i .i64 1) = true := by kernel_rfl
theorem r2 : run (.i .i64 2) = true := by kernel_rfl
theorem r3 : run (.i .i64 3) = true := by kernel_rfl
end Go.Proofs.YtjgkhimmmnapeaaGreatDoor.branchOrder
