/- Calls of the law TurnBack, run. -/
import Derived.Test.YthamgngpbknlpaaGreatDoorTBBase
namespace Go.Proofs.YthamgngpbknlpaaGreatDoor.turnBack
open Go.RowKit Go.Proofs.YthamgngpbknlpaaGreatDoor.Ev
set_option maxRecDepth 100000
theorem hk0 : h0.chk (callF Tryz.prog (mk0 []) 1000 h0.f h0.args h0.st) = true := by kernel_rfl
theorem hk1 : h1.chk (callF Tryz.prog (mk0 [h0]) 1000 h1.f h1.args h1.st) = true := by kernel_rfl
theorem hk2 : h2.chk (callF Tryz.prog (mk0 [h0, h1]) 1000 h2.f h2.args h2.st) = true := by kernel_rfl
end Go.Proofs.YthamgngpbknlpaaGreatDoor.turnBack
