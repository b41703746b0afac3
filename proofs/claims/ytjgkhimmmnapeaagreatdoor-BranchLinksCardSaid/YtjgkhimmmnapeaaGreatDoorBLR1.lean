/- Runs of the law BranchLinks. -/
import Derived.Test.YtjgkhimmmnapeaaGreatDoorBLBase
namespace Go.Proofs.YtjgkhimmmnapeaaGreatDoor.branchLinks
open Go.RowKit Go.Proofs.YtjgkhimmmnapeaaGreatDoor.Ev
set_option maxRecDepth 100000
theorem rs1 : all [.i .i64 5, .i .i64 6] = true := by kernel_rfl
end Go.Proofs.YtjgkhimmmnapeaaGreatDoor.branchLinks
