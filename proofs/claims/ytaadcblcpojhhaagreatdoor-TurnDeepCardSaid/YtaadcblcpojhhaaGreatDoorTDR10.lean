/- Calls of the law TurnDeep, run; then the law itself, at one of its arguments. -/
import Derived.Test.YtaadcblcpojhhaaGreatDoorTDBase
import Derived.Test.YtaadcblcpojhhaaGreatDoorTDY0
namespace Go.Proofs.YtaadcblcpojhhaaGreatDoor.turnDeep
open Go.RowKit Go.Proofs.YtaadcblcpojhhaaGreatDoor.Ev
set_option maxRecDepth 100000
theorem kg253 : g253.chk (callF Tryz.prog (mk0 s10_1) 1000 g253.f g253.args g253.st) = true := by kernel_rfl
theorem kg254 : g254.chk (callF Tryz.prog (mk0 s10_2) 1000 g254.f g254.args g254.st) = true := by kernel_rfl
theorem kg255 : g255.chk (callF Tryz.prog (mk0 s10_3) 1000 g255.f g255.args g255.st) = true := by kernel_rfl
theorem kg256 : g256.chk (callF Tryz.prog (mk0 s10_4) 1000 g256.f g256.args g256.st) = true := by kernel_rfl
theorem kg257 : g257.chk (callF Tryz.prog (mk0 s10_5) 1000 g257.f g257.args g257.st) = true := by kernel_rfl
theorem kg258 : g258.chk (callF Tryz.prog (mk0 s10_6) 1000 g258.f g258.args g258.st) = true := by kernel_rfl
theorem kg259 : g259.chk (callF Tryz.prog (mk0 s10_7) 1000 g259.f g259.args g259.st) = true := by kernel_rfl
theorem kg260 : g260.chk (callF Tryz.prog (mk0 s10_8) 1000 g260.f g260.args g260.st) = true := by kernel_rfl
theorem kg261 : g261.chk (callF Tryz.prog (mk0 s10_9) 1000 g261.f g261.args g261.st) = true := by kernel_rfl
theorem kg262 : g262.chk (callF Tryz.prog (mk0 s10_10) 1000 g262.f g262.args g262.st) = true := by kernel_rfl
theorem kg263 : g263.chk (callF Tryz.prog (mk0 s10_11) 1000 g263.f g263.args g263.st) = true := by kernel_rfl
theorem kg264 : g264.chk (callF Tryz.prog (mk0 s10_12) 1000 g264.f g264.args g264.st) = true := by kernel_rfl
theorem kg265 : g265.chk (callF Tryz.prog (mk0 s10_13) 1000 g265.f g265.args g265.st) = true := by kernel_rfl
theorem kg266 : g266.chk (callF Tryz.prog (mk0 s10_14) 1000 g266.f g266.args g266.st) = true := by kernel_rfl
theorem kg267 : g267.chk (callF Tryz.prog (mk0 s10_15) 1000 g267.f g267.args g267.st) = true := by kernel_rfl
theorem kg268 : g268.chk (callF Tryz.prog (mk0 s10_16) 1000 g268.f g268.args g268.st) = true := by kernel_rfl
theorem kg269 : g269.chk (callF Tryz.prog (mk0 s10_17) 1000 g269.f g269.args g269.st) = true := by kernel_rfl
theorem kg270 : g270.chk (callF Tryz.prog (mk0 s10_18) 1000 g270.f g270.args g270.st) = true := by kernel_rfl
theorem kg271 : g271.chk (callF Tryz.prog (mk0 s10_19) 1000 g271.f g271.args g271.st) = true := by kernel_rfl
theorem kg272 : g272.chk (callF Tryz.prog (mk0 s10_20) 1000 g272.f g272.args g272.st) = true := by kernel_rfl
theorem kg273 : g273.chk (callF Tryz.prog (mk0 s10_21) 1000 g273.f g273.args g273.st) = true := by kernel_rfl
theorem kg274 : g274.chk (callF Tryz.prog (mk0 s10_22) 1000 g274.f g274.args g274.st) = true := by kernel_rfl
theorem kg275 : g275.chk (callF Tryz.prog (mk0 s10_23) 1000 g275.f g275.args g275.st) = true := by kernel_rfl
theorem kg276 : g276.chk (callF Tryz.prog (mk0 s10_24) 1000 g276.f g276.args g276.st) = true := by kernel_rfl
theorem kg277 : g277.chk (callF Tryz.prog (mk0 s10_25) 1000 g277.f g277.args g277.st) = true := by kernel_rfl
theorem kg278 : g278.chk (callF Tryz.prog (mk0 s10_26) 1000 g278.f g278.args g278.st) = true := by kernel_rfl
theorem run10 : isTrue (callF Tryz.prog (mkc s10_27) 1000 3 [.i .i64 3, .b false, .b true] st00) = true := by kernel_rfl
end Go.Proofs.YtaadcblcpojhhaaGreatDoor.turnDeep
