/- Calls of the law DropDirs, run. -/
import Derived.Test.YtilakiobihifnaaGreatDoorDDBase
namespace Go.Proofs.YtilakiobihifnaaGreatDoor.dropDirs
open Go.RowKit Go.Proofs.YtilakiobihifnaaGreatDoor.Ev
set_option maxRecDepth 100000
theorem hk0 : h0.chk (callF Tryz.prog (mkc []) 1000 h0.f h0.args h0.st) = true := by kernel_rfl
theorem hk1 : h1.chk (callF Tryz.prog (mkc [h0]) 1000 h1.f h1.args h1.st) = true := by kernel_rfl
theorem hk2 : h2.chk (callF Tryz.prog (mkc [h0, h1]) 1000 h2.f h2.args h2.st) = true := by kernel_rfl
end Go.Proofs.YtilakiobihifnaaGreatDoor.dropDirs
