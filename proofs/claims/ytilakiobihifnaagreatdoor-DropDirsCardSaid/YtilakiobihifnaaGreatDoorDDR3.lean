/- Runs of the law DropDirs. -/
import Derived.Test.YtilakiobihifnaaGreatDoorDDBase
namespace Go.Proofs.YtilakiobihifnaaGreatDoor.dropDirs
open Go.RowKit Go.Proofs.YtilakiobihifnaaGreatDoor.Ev
set_option maxRecDepth 100000
theorem rs3 : all [[.neg, .b true], [.neg, .b false], [.i .i64 0, .b true], [.i .i64 0, .b false], [.lb 4, .b true], [.lb 4, .b false]] = true := by kernel_rfl
end Go.Proofs.YtilakiobihifnaaGreatDoor.dropDirs
