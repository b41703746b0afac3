/- Calls of the law DropNone, run. -/
import Derived.Test.YtilakiobihifnaaGreatDoorDNBase
namespace Go.Proofs.YtilakiobihifnaaGreatDoor.dropNone
open Go.RowKit Go.Proofs.YtilakiobihifnaaGreatDoor.Ev
set_option maxRecDepth 100000
theorem hk0 : h0.chk (callF Tryz.prog (mkc []) 1000 h0.f h0.args h0.st) = true := by kernel_rfl
end Go.Proofs.YtilakiobihifnaaGreatDoor.dropNone
