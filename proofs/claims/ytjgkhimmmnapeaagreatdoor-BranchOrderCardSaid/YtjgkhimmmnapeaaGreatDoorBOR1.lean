/- Runs of the law BranchOrder. -/
import Derived.Test.YtjgkhimmmnapeaaGreatDoorBOBase
namespace Go.Proofs.YtjgkhimmmnapeaaGreatDoor.branchOrder
open Go.RowKit Go.Proofs.YtjgkhimmmnapeaaGreatDoor.Ev
set_option maxRecDepth 100000
theorem r4 : run (.i .i64 4) = true := by kernel_rfl
theorem r5 : run (.i .i64 5) = true := by kernel_rfl
theorem r6 : run (.i .i64 6) = true := by kernel_rfl
theorem r7 : run (.i .i64 7) = true := by kernel_rfl
end Go.Proofs.YtjgkhimmmnapeaaGreatDoor.branchOrder
