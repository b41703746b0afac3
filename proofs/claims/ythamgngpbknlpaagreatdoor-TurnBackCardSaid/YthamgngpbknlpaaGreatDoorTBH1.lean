/- Calls of the law TurnBack, run. -/
import Derived.Test.YthamgngpbknlpaaGreatDoorTBBase
namespace Go.Proofs.YthamgngpbknlpaaGreatDoor.turnBack
open Go.RowKit Go.Proofs.YthamgngpbknlpaaGreatDoor.Ev
set_option maxRecDepth 100000
theorem hk3 : h3.chk (callF Tryz.prog (mk0 [h0, h1, h2]) 1000 h3.f h3.args h3.st) = true := by kernel_rfl
theorem hk4 : h4.chk (callF Tryz.prog (mk0 [h0, h1, h2, h3]) 1000 h4.f h4.args h4.st) = true := by kernel_rfl
theorem hk5 : h5.chk (callF Tryz.prog (mk0 [h0, h1, h2, h3, h4]) 1000 h5.f h5.args h5.st) = true := by kernel_rfl
end Go.Proofs.YthamgngpbknlpaaGreatDoor.turnBack
