/- Calls of the law TurnDeep, run; then the law itself, at one of its arguments. -/
import Derived.Test.YtaadcblcpojhhaaGreatDoorTDBase
import Derived.Test.YtaadcblcpojhhaaGreatDoorTDY0
namespace Go.Proofs.YtaadcblcpojhhaaGreatDoor.turnDeep
open Go.RowKit Go.Proofs.YtaadcblcpojhhaaGreatDoor.Ev
set_option maxRecDepth 100000
theorem kg128 : g128.chk (callF Tryz.prog (mk0 s5_1) 1000 g128.f g128.args g128.st) = true := by kernel_rfl
theorem kg129 : g129.chk (callF Tryz.prog (mk0 s5_2) 1000 g129.f g129.args g129.st) = true := by kernel_rfl
theorem kg130 : g130.chk (callF Tryz.prog (mk0 s5_3) 1000 g130.f g130.args g130.st) = true := by kernel_rfl
theorem kg131 : g131.chk (callF Tryz.prog (mk0 s5_4) 1000 g131.f g131.args g131.st) = true := by kernel_rfl
theorem kg132 : g132.chk (callF Tryz.prog (mk0 s5_5) 1000 g132.f g132.args g132.st) = true := by kernel_rfl
theorem kg133 : g133.chk (callF Tryz.prog (mk0 s5_6) 1000 g133.f g133.args g133.st) = true := by kernel_rfl
theorem kg134 : g134.chk (callF Tryz.prog (mk0 s5_7) 1000 g134.f g134.args g134.st) = true := by kernel_rfl
theorem kg135 : g135.chk (callF Tryz.prog (mk0 s5_8) 1000 g135.f g135.args g135.st) = true := by kernel_rfl
theorem kg136 : g136.chk (callF Tryz.prog (mk0 s5_9) 1000 g136.f g136.args g136.st) = true := by kernel_rfl
theorem kg137 : g137.chk (callF Tryz.prog (mk0 s5_10) 1000 g137.f g137.args g137.st) = true := by kernel_rfl
theorem kg138 : g138.chk (callF Tryz.prog (mk0 s5_11) 1000 g138.f g138.args g138.st) = true := by kernel_rfl
theorem kg139 : g139.chk (callF Tryz.prog (mk0 s5_12) 1000 g139.f g139.args g139.st) = true := by kernel_rfl
theorem kg140 : g140.chk (callF Tryz.prog (mk0 s5_13) 1000 g140.f g140.args g140.st) = true := by kernel_rfl
theorem kg141 : g141.chk (callF Tryz.prog (mk0 s5_14) 1000 g141.f g141.args g141.st) = true := by kernel_rfl
theorem kg142 : g142.chk (callF Tryz.prog (mk0 s5_15) 1000 g142.f g142.args g142.st) = true := by kernel_rfl
theorem kg143 : g143.chk (callF Tryz.prog (mk0 s5_16) 1000 g143.f g143.args g143.st) = true := by kernel_rfl
theorem kg144 : g144.chk (callF Tryz.prog (mk0 s5_17) 1000 g144.f g144.args g144.st) = true := by kernel_rfl
theorem kg145 : g145.chk (callF Tryz.prog (mk0 s5_18) 1000 g145.f g145.args g145.st) = true := by kernel_rfl
theorem kg146 : g146.chk (callF Tryz.prog (mk0 s5_19) 1000 g146.f g146.args g146.st) = true := by kernel_rfl
theorem kg147 : g147.chk (callF Tryz.prog (mk0 s5_20) 1000 g147.f g147.args g147.st) = true := by kernel_rfl
theorem kg148 : g148.chk (callF Tryz.prog (mk0 s5_21) 1000 g148.f g148.args g148.st) = true := by kernel_rfl
theorem kg149 : g149.chk (callF Tryz.prog (mk0 s5_22) 1000 g149.f g149.args g149.st) = true := by kernel_rfl
theorem kg150 : g150.chk (callF Tryz.prog (mk0 s5_23) 1000 g150.f g150.args g150.st) = true := by kernel_rfl
theorem kg151 : g151.chk (callF Tryz.prog (mk0 s5_24) 1000 g151.f g151.args g151.st) = true := by kernel_rfl
theorem run5 : isTrue (callF Tryz.prog (mkc s5_25) 1000 3 [.i .i64 2, .b true, .b false] st00) = true := by kernel_rfl
end Go.Proofs.YtaadcblcpojhhaaGreatDoor.turnDeep
