/- Calls of the law DropNone, run. -/
import Derived.Test.YtilakiobihifnaaGreatDoorDNBase
namespace Go.Proofs.YtilakiobihifnaaGreatDoor.dropNone
open Go.RowKit Go.Proofs.YtilakiobihifnaaGreatDoor.Ev
set_option maxRecDepth 100000
theorem hk2 : h2.chk (callF Tryz.prog (mkc [h0, h1]) 1000 h2.f h2.args h2.st) = true := by kernel_rfl
end Go.Proofs.YtilakiobihifnaaGreatDoor.dropNone
