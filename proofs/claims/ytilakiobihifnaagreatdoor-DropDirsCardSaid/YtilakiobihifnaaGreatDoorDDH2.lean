/- Calls of the law DropDirs, run. -/
import Derived.Test.YtilakiobihifnaaGreatDoorDDBase
namespace Go.Proofs.YtilakiobihifnaaGreatDoor.dropDirs
open Go.RowKit Go.Proofs.YtilakiobihifnaaGreatDoor.Ev
set_option maxRecDepth 100000
theorem hk6 : h6.chk (callF Tryz.prog (mkc [h0, h1, h2, h3, h4, h5]) 1000 h6.f h6.args h6.st) = true := by kernel_rfl
theorem hk7 : h7.chk (callF Tryz.prog (mkc [h0, h1, h2, h3, h4, h5, h6]) 1000 h7.f h7.args h7.st) = true := by kernel_rfl
theorem hk8 : h8.chk (callF Tryz.prog (mkc [h0, h1, h2, h3, h4, h5, h6, h7]) 1000 h8.f h8.args h8.st) = true := by kernel_rfl
end Go.Proofs.YtilakiobihifnaaGreatDoor.dropDirs
