/- Runs of the law DropNone. -/
import Derived.Test.YtilakiobihifnaaGreatDoorDNBase
namespace Go.Proofs.YtilakiobihifnaaGreatDoor.dropNone
open Go.RowKit Go.Proofs.YtilakiobihifnaaGreatDoor.Ev
set_option maxRecDepth 100000
theorem rs2 : all [[.i .i64 2, .b true]] = true := by kernel_rfl
end Go.Proofs.YtilakiobihifnaaGreatDoor.dropNone
