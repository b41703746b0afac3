/- Calls of the law DropHeld, run. -/
import Derived.Test.YtjhpkmmmfhppfaaGreatDoorDHBase
namespace Go.Proofs.YtjhpkmmmfhppfaaGreatDoor.dropHeld
open Go.RowKit Go.Proofs.YtjhpkmmmfhppfaaGreatDoor.Ev
set_option maxRecDepth 100000
theorem hk2 : h2.chk (callF Tryz.prog (mk0 [h0, h1]) 1000 h2.f h2.args h2.st) = true := by kernel_rfl
end Go.Proofs.YtjhpkmmmfhppfaaGreatDoor.dropHeld
