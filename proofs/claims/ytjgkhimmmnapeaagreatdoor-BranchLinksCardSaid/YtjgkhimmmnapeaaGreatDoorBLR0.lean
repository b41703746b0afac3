/- Runs of the law BranchLinks. -/
import Derived.Test.YtjgkhimmmnapeaaGreatDoorBLBase
namespace Go.Proofs.YtjgkhimmmnapeaaGreatDoor.branchLinks
open Go.RowKit Go.Proofs.YtjgkhimmmnapeaaGreatDoor.Ev
set_option maxRecDepth 100000
theorem rs0 : all [.i .i64 0, .i .i64 1, .i .i64 2, .i .i64 3, .i .i64 4, .lb 9, .neg] = true := by kernel_rfl
end Go.Proofs.YtjgkhimmmnapeaaGreatDoor.branchLinks
