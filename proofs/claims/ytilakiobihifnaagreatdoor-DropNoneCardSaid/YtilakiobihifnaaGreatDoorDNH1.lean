/- Calls of the law DropNone, run. -/
import Derived.Test.YtilakiobihifnaaGreatDoorDNBase
namespace Go.Proofs.YtilakiobihifnaaGreatDoor.dropNone
open Go.RowKit Go.Proofs.YtilakiobihifnaaGreatDoor.Ev
set_option maxRecDepth 100000
theorem hk1 : h1.chk (callF Tryz.prog (mkc [h0]) 1000 h1.f h1.args h1.st) = true := by kernel_rfl
end Go.Proofs.YtilakiobihifnaaGreatDoor.dropNone
