/- Runs of the law DropDirs. -/
import Derived.Test.YtilakiobihifnaaGreatDoorDDBase
namespace Go.Proofs.YtilakiobihifnaaGreatDoor.dropDirs
open Go.RowKit Go.Proofs.YtilakiobihifnaaGreatDoor.Ev
set_option maxRecDepth 100000
theorem rs2 : all [[.i .i64 3, .b true], [.i .i64 3, .b false]] = true := by kernel_rfl
end Go.Proofs.YtilakiobihifnaaGreatDoor.dropDirs
