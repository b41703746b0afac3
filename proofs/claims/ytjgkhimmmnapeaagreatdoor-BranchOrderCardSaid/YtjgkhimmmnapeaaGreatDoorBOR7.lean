/- Runs of the law BranchOrder. -/
import Derived.Test.YtjgkhimmmnapeaaGreatDoorBOBase
namespace Go.Proofs.YtjgkhimmmnapeaaGreatDoor.branchOrder
open Go.RowKit Go.Proofs.YtjgkhimmmnapeaaGreatDoor.Ev
set_option maxRecDepth 100000
theorem rn : run (.neg) = true := by kernel_rfl
end Go.Proofs.YtjgkhimmmnapeaaGreatDoor.branchOrder
