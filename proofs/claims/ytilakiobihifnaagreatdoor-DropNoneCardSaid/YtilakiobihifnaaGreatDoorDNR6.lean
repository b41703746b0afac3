/- Runs of the law DropNone. -/
import Derived.Test.YtilakiobihifnaaGreatDoorDNBase
namespace Go.Proofs.YtilakiobihifnaaGreatDoor.dropNone
open Go.RowKit Go.Proofs.YtilakiobihifnaaGreatDoor.Ev
set_option maxRecDepth 100000
theorem rs6 : all [[.neg, .b true], [.neg, .b false], [.i .i64 0, .b true], [.i .i64 0, .b false], [.lb 4, .b true], [.lb 4, .b false]] = true := by kernel_rfl
end Go.Proofs.YtilakiobihifnaaGreatDoor.dropNone
