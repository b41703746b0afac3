/- Runs of the law BranchOrder. -/
import Derived.Test.YtjgkhimmmnapeaaGreatDoorBOBase
namespace Go.Proofs.YtjgkhimmmnapeaaGreatDoor.branchOrder
open Go.RowKit Go.Proofs.YtjgkhimmmnapeaaGreatDoor.Ev
set_option maxRecDepth 100000
theorem r16 : run (.i .i64 16) = true := by kernel_rfl
theorem r17 : run (.i .i64 17) = true := by kernel_rfl
theorem r18 : run (.i .i64 18) = true := by kernel_rfl
theorem r19 : run (.i .i64 19) = true := by kernel_rfl
end Go.Proofs.YtjgkhimmmnapeaaGreatDoor.branchOrder
