/- Runs of the law MountOdd. -/
import Derived.Test.YtbfckpbmelnpdaaGreatDoorMDBase
namespace Go.Proofs.YtbfckpbmelnpdaaGreatDoor.mountOdd
open Go.RowKit Go.Proofs.YtbfckpbmelnpdaaGreatDoor.Ev
set_option maxRecDepth 100000
theorem rs1 : all [[.i .i64 5], [.i .i64 6], [.i .i64 7], [.i .i64 8], [.i .i64 9]] = true := by kernel_rfl
end Go.Proofs.YtbfckpbmelnpdaaGreatDoor.mountOdd
