/- Calls of the law TurnBack, run. -/
import Derived.Test.YthamgngpbknlpaaGreatDoorTBBase
namespace Go.Proofs.YthamgngpbknlpaaGreatDoor.turnBack
open Go.RowKit Go.Proofs.YthamgngpbknlpaaGreatDoor.Ev
set_option maxRecDepth 100000
theorem hk33 : h33.chk (callF Tryz.prog (mk0 [h0, h1, h2, h3, h4, h5, h6, h7, h8, h9, h10, h11, h12, h13, h14, h15, h16, h17, h18, h19, h20, h21, h22, h23, h24, h25, h26, h27, h28, h29, h30, h31, h32]) 1000 h33.f h33.args h33.st) = true := by kernel_rfl
theorem hk34 : h34.chk (callF Tryz.prog (mk0 [h0, h1, h2, h3, h4, h5, h6, h7, h8, h9, h10, h11, h12, h13, h14, h15, h16, h17, h18, h19, h20, h21, h22, h23, h24, h25, h26, h27, h28, h29, h30, h31, h32, h33]) 1000 h34.f h34.args h34.st) = true := by kernel_rfl
theorem hk35 : h35.chk (callF Tryz.prog (mk0 [h0, h1, h2, h3, h4, h5, h6, h7, h8, h9, h10, h11, h12, h13, h14, h15, h16, h17, h18, h19, h20, h21, h22, h23, h24, h25, h26, h27, h28, h29, h30, h31, h32, h33, h34]) 1000 h35.f h35.args h35.st) = true := by kernel_rfl
end Go.Proofs.YthamgngpbknlpaaGreatDoor.turnBack
