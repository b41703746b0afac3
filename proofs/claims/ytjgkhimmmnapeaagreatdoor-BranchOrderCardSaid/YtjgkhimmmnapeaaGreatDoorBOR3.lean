/- Runs of the law BranchOrder. -/
import Derived.Test.YtjgkhimmmnapeaaGreatDoorBOBase
namespace Go.Proofs.YtjgkhimmmnapeaaGreatDoor.branchOrder
open Go.RowKit Go.Proofs.YtjgkhimmmnapeaaGreatDoor.Ev
set_option maxRecDepth 100000
theorem r12 : run (.i .i64 12) = true := by kernel_rfl
theorem r13 : run (.i .i64 13) = true := by kernel_rfl
theorem r14 : run (.i .i64 14) = true := by kernel_rfl
theorem r15 : run (.i .i64 15) = true := by kernel_rfl
end Go.Proofs.YtjgkhimmmnapeaaGreatDoor.branchOrder
