/- Runs of the law DropNone. -/
import Derived.Test.YtilakiobihifnaaGreatDoorDNBase
namespace Go.Proofs.YtilakiobihifnaaGreatDoor.dropNone
open Go.RowKit Go.Proofs.YtilakiobihifnaaGreatDoor.Ev
set_option maxRecDepth 100000
theorem rs1 : all [[.i .i64 1, .b false]] = true := by kernel_rfl
end Go.Proofs.YtilakiobihifnaaGreatDoor.dropNone
