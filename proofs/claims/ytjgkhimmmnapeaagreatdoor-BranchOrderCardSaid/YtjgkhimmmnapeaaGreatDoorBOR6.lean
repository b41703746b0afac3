/- Runs of the law BranchOrder. -/
import Derived.Test.YtjgkhimmmnapeaaGreatDoorBOBase
namespace Go.Proofs.YtjgkhimmmnapeaaGreatDoor.branchOrder
open Go.RowKit Go.Proofs.YtjgkhimmmnapeaaGreatDoor.Ev
set_option maxRecDepth 100000
theorem r24 : run (.i .i64 24) = true := by kernel_rfl
theorem r25 : run (.i .i64 25) = true := by kernel_rfl
theorem r26 : run (.i .i64 26) = true := by kernel_rfl
theorem rl : run (.lb 27) = true := by kernel_rfl
end Go.Proofs.YtjgkhimmmnapeaaGreatDoor.branchOrder
