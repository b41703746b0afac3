/- Runs of the law MountOdd. -/
import Derived.Test.YtbfckpbmelnpdaaGreatDoorMDBase
namespace Go.Proofs.YtbfckpbmelnpdaaGreatDoor.mountOdd
open Go.RowKit Go.Proofs.YtbfckpbmelnpdaaGreatDoor.Ev
set_option maxRecDepth 100000
theorem rs0 : all [[.i .i64 0], [.i .i64 1], [.i .i64 2], [.i .i64 3], [.i .i64 4], [.lb 10], [.neg]] = true := by kernel_rfl
end Go.Proofs.YtbfckpbmelnpdaaGreatDoor.mountOdd
