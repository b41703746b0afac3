/- Calls of the law TurnBack, run. -/
import Derived.Test.YthamgngpbknlpaaGreatDoorTBBase
namespace Go.Proofs.YthamgngpbknlpaaGreatDoor.turnBack
open Go.RowKit Go.Proofs.YthamgngpbknlpaaGreatDoor.Ev
set_option maxRecDepth 100000
theorem hk9 : h9.chk (callF Tryz.prog (mk0 [h0, h1, h2, h3, h4, h5, h6, h7, h8]) 1000 h9.f h9.args h9.st) = true := by kernel_rfl
theorem hk10 : h10.chk (callF Tryz.prog (mk0 [h0, h1, h2, h3, h4, h5, h6, h7, h8, h9]) 1000 h10.f h10.args h10.st) = true := by kernel_rfl
theorem hk11 : h11.chk (callF Tryz.prog (mk0 [h0, h1, h2, h3, h4, h5, h6, h7, h8, h9, h10]) 1000 h11.f h11.args h11.st) = true := by kernel_rfl
end Go.Proofs.YthamgngpbknlpaaGreatDoor.turnBack
