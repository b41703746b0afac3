/- Runs of the law BranchOrder. -/
import Derived.Test.YtjgkhimmmnapeaaGreatDoorBOBase
namespace Go.Proofs.YtjgkhimmmnapeaaGreatDoor.branchOrder
open Go.RowKit Go.Proofs.YtjgkhimmmnapeaaGreatDoor.Ev
set_option maxRecDepth 100000
theorem r20 : run (.i .i64 20) = true := by kernel_rfl
theorem r21 : run (.i .i64 21) = true := by kernel_rfl
theorem r22 : run (.i .i64 22) = true := by kernel_rfl
theorem r23 : run (.i .i64 23) = true := by kernel_rfl
end Go.Proofs.YtjgkhimmmnapeaaGreatDoor.branchOrder
