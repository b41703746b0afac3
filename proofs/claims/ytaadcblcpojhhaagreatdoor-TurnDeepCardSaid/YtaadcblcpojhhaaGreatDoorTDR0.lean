/- Calls of the law TurnDeep, run; then the law itself, at one of its arguments. -/
import Derived.Test.YtaadcblcpojhhaaGreatDoorTDBase
import Derived.Test.YtaadcblcpojhhaaGreatDoorTDY0
namespace Go.Proofs.YtaadcblcpojhhaaGreatDoor.turnDeep
open Go.RowKit Go.Proofs.YtaadcblcpojhhaaGreatDoor.Ev
set_option maxRecDepth 100000
theorem kg0 : g0.chk (callF Tryz.prog (mk0 []) 1000 g0.f g0.args g0.st) = true := by kernel_rfl
theorem kg1 : g1.chk (callF Tryz.prog (mk0 s0_1) 1000 g1.f g1.args g1.st) = true := by kernel_rfl
theorem kg2 : g2.chk (callF Tryz.prog (mk0 s0_2) 1000 g2.f g2.args g2.st) = true := by kernel_rfl
theorem kg3 : g3.chk (callF Tryz.prog (mk0 s0_3) 1000 g3.f g3.args g3.st) = true := by kernel_rfl
theorem kg4 : g4.chk (callF Tryz.prog (mk0 s0_4) 1000 g4.f g4.args g4.st) = true := by kernel_rfl
theorem kg5 : g5.chk (callF Tryz.prog (mk0 s0_5) 1000 g5.f g5.args g5.st) = true := by kernel_rfl
theorem kg6 : g6.chk (callF Tryz.prog (mk0 s0_6) 1000 g6.f g6.args g6.st) = true := by kernel_rfl
theorem kg7 : g7.chk (callF Tryz.prog (mk0 s0_7) 1000 g7.f g7.args g7.st) = true := by kernel_rfl
theorem kg8 : g8.chk (callF Tryz.prog (mk0 s0_8) 1000 g8.f g8.args g8.st) = true := by kernel_rfl
theorem kg9 : g9.chk (callF Tryz.prog (mk0 s0_9) 1000 g9.f g9.args g9.st) = true := by kernel_rfl
theorem kg10 : g10.chk (callF Tryz.prog (mk0 s0_10) 1000 g10.f g10.args g10.st) = true := by kernel_rfl
theorem kg11 : g11.chk (callF Tryz.prog (mk0 s0_11) 1000 g11.f g11.args g11.st) = true := by kernel_rfl
theorem kg12 : g12.chk (callF Tryz.prog (mk0 s0_12) 1000 g12.f g12.args g12.st) = true := by kernel_rfl
theorem kg13 : g13.chk (callF Tryz.prog (mk0 s0_13) 1000 g13.f g13.args g13.st) = true := by kernel_rfl
theorem kg14 : g14.chk (callF Tryz.prog (mk0 s0_14) 1000 g14.f g14.args g14.st) = true := by kernel_rfl
theorem kg15 : g15.chk (callF Tryz.prog (mk0 s0_15) 1000 g15.f g15.args g15.st) = true := by kernel_rfl
theorem kg16 : g16.chk (callF Tryz.prog (mk0 s0_16) 1000 g16.f g16.args g16.st) = true := by kernel_rfl
theorem kg17 : g17.chk (callF Tryz.prog (mk0 s0_17) 1000 g17.f g17.args g17.st) = true := by kernel_rfl
theorem kg18 : g18.chk (callF Tryz.prog (mk0 s0_18) 1000 g18.f g18.args g18.st) = true := by kernel_rfl
theorem kg19 : g19.chk (callF Tryz.prog (mk0 s0_19) 1000 g19.f g19.args g19.st) = true := by kernel_rfl
theorem kg20 : g20.chk (callF Tryz.prog (mk0 s0_20) 1000 g20.f g20.args g20.st) = true := by kernel_rfl
theorem kg21 : g21.chk (callF Tryz.prog (mk0 s0_21) 1000 g21.f g21.args g21.st) = true := by kernel_rfl
theorem kg22 : g22.chk (callF Tryz.prog (mk0 s0_22) 1000 g22.f g22.args g22.st) = true := by kernel_rfl
theorem kg23 : g23.chk (callF Tryz.prog (mk0 s0_23) 1000 g23.f g23.args g23.st) = true := by kernel_rfl
theorem kg24 : g24.chk (callF Tryz.prog (mk0 s0_24) 1000 g24.f g24.args g24.st) = true := by kernel_rfl
theorem kg25 : g25.chk (callF Tryz.prog (mk0 s0_25) 1000 g25.f g25.args g25.st) = true := by kernel_rfl
theorem kg26 : g26.chk (callF Tryz.prog (mk0 s0_26) 1000 g26.f g26.args g26.st) = true := by kernel_rfl
theorem run0 : isTrue (callF Tryz.prog (mkc s0_27) 1000 3 [.i .i64 1, .b true, .b true] st00) = true := by kernel_rfl
end Go.Proofs.YtaadcblcpojhhaaGreatDoor.turnDeep
