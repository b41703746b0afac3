/- Calls of the law TurnBack, run. -/
import Derived.Test.YthamgngpbknlpaaGreatDoorTBBase
namespace Go.Proofs.YthamgngpbknlpaaGreatDoor.turnBack
open Go.RowKit Go.Proofs.YthamgngpbknlpaaGreatDoor.Ev
set_option maxRecDepth 100000
theorem hk24 : h24.chk (callF Tryz.prog (mk0 [h0, h1, h2, h3, h4, h5, h6, h7, h8, h9, h10, h11, h12, h13, h14, h15, h16, h17, h18, h19, h20, h21, h22, h23]) 1000 h24.f h24.args h24.st) = true := by kernel_rfl
theorem hk25 : h25.chk (callF Tryz.prog (mk0 [h0, h1, h2, h3, h4, h5, h6, h7, h8, h9, h10, h11, h12, h13, h14, h15, h16, h17, h18, h19, h20, h21, h22, h23, h24]) 1000 h25.f h25.args h25.st) = true := by kernel_rfl
theorem hk26 : h26.chk (callF Tryz.prog (mk0 [h0, h1, h2, h3, h4, h5, h6, h7, h8, h9, h10, h11, h12, h13, h14, h15, h16, h17, h18, h19, h20, h21, h22, h23, h24, h25]) 1000 h26.f h26.args h26.st) = true := by kernel_rfl
end Go.Proofs.YthamgngpbknlpaaGreatDoor.turnBack
