/- Calls of the law TurnBack, run. -/
import Derived.Test.YthamgngpbknlpaaGreatDoorTBBase
namespace Go.Proofs.YthamgngpbknlpaaGreatDoor.turnBack
open Go.RowKit Go.Proofs.YthamgngpbknlpaaGreatDoor.Ev
set_option maxRecDepth 100000
theorem hk6 : h6.chk (callF Tryz.prog (mk0 [h0, h1, h2, h3, h4, h5]) 1000 h6.f h6.args h6.st) = true := by kernel_rfl
theorem hk7 : h7.chk (callF Tryz.prog (mk0 [h0, h1, h2, h3, h4, h5, h6]) 1000 h7.f h7.args h7.st) = true := by kernel_rfl
theorem hk8 : h8.chk (callF Tryz.prog (mk0 [h0, h1, h2, h3, h4, h5, h6, h7]) 1000 h8.f h8.args h8.st) = true := by kernel_rfl
end Go.Proofs.YthamgngpbknlpaaGreatDoor.turnBack
