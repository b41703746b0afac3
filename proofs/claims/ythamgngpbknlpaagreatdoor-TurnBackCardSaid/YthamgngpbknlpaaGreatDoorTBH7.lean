/- Calls of the law TurnBack, run. -/
import Derived.Test.YthamgngpbknlpaaGreatDoorTBBase
namespace Go.Proofs.YthamgngpbknlpaaGreatDoor.turnBack
open Go.RowKit Go.Proofs.YthamgngpbknlpaaGreatDoor.Ev
set_option maxRecDepth 100000
theorem hk21 : h21.chk (callF Tryz.prog (mk0 [h0, h1, h2, h3, h4, h5, h6, h7, h8, h9, h10, h11, h12, h13, h14, h15, h16, h17, h18, h19, h20]) 1000 h21.f h21.args h21.st) = true := by kernel_rfl
theorem hk22 : h22.chk (callF Tryz.prog (mk0 [h0, h1, h2, h3, h4, h5, h6, h7, h8, h9, h10, h11, h12, h13, h14, h15, h16, h17, h18, h19, h20, h21]) 1000 h22.f h22.args h22.st) = true := by kernel_rfl
theorem hk23 : h23.chk (callF Tryz.prog (mk0 [h0, h1, h2, h3, h4, h5, h6, h7, h8, h9, h10, h11, h12, h13, h14, h15, h16, h17, h18, h19, h20, h21, h22]) 1000 h23.f h23.args h23.st) = true := by kernel_rfl
end Go.Proofs.YthamgngpbknlpaaGreatDoor.turnBack
