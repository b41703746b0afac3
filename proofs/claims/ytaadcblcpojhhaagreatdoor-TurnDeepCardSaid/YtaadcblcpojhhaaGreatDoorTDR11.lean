/- Calls of the law TurnDeep, run; then the law itself, at one of its arguments. -/
import Derived.Test.YtaadcblcpojhhaaGreatDoorTDBase
import Derived.Test.YtaadcblcpojhhaaGreatDoorTDY0
namespace Go.Proofs.YtaadcblcpojhhaaGreatDoor.turnDeep
open Go.RowKit Go.Proofs.YtaadcblcpojhhaaGreatDoor.Ev
set_option maxRecDepth 100000
theorem kg279 : g279.chk (callF Tryz.prog (mk0 s11_1) 1000 g279.f g279.args g279.st) = true := by kernel_rfl
theorem kg280 : g280.chk (callF Tryz.prog (mk0 s11_2) 1000 g280.f g280.args g280.st) = true := by kernel_rfl
theorem kg281 : g281.chk (callF Tryz.prog (mk0 s11_3) 1000 g281.f g281.args g281.st) = true := by kernel_rfl
theorem kg282 : g282.chk (callF Tryz.prog (mk0 s11_4) 1000 g282.f g282.args g282.st) = true := by kernel_rfl
theorem kg283 : g283.chk (callF Tryz.prog (mk0 s11_5) 1000 g283.f g283.args g283.st) = true := by kernel_rfl
theorem kg284 : g284.chk (callF Tryz.prog (mk0 s11_6) 1000 g284.f g284.args g284.st) = true := by kernel_rfl
theorem kg285 : g285.chk (callF Tryz.prog (mk0 s11_7) 1000 g285.f g285.args g285.st) = true := by kernel_rfl
theorem kg286 : g286.chk (callF Tryz.prog (mk0 s11_8) 1000 g286.f g286.args g286.st) = true := by kernel_rfl
theorem kg287 : g287.chk (callF Tryz.prog (mk0 s11_9) 1000 g287.f g287.args g287.st) = true := by kernel_rfl
theorem kg288 : g288.chk (callF Tryz.prog (mk0 s11_10) 1000 g288.f g288.args g288.st) = true := by kernel_rfl
theorem kg289 : g289.chk (callF Tryz.prog (mk0 s11_11) 1000 g289.f g289.args g289.st) = true := by kernel_rfl
theorem kg290 : g290.chk (callF Tryz.prog (mk0 s11_12) 1000 g290.f g290.args g290.st) = true := by kernel_rfl
theorem kg291 : g291.chk (callF Tryz.prog (mk0 s11_13) 1000 g291.f g291.args g291.st) = true := by kernel_rfl
theorem kg292 : g292.chk (callF Tryz.prog (mk0 s11_14) 1000 g292.f g292.args g292.st) = true := by kernel_rfl
theorem kg293 : g293.chk (callF Tryz.prog (mk0 s11_15) 1000 g293.f g293.args g293.st) = true := by kernel_rfl
theorem kg294 : g294.chk (callF Tryz.prog (mk0 s11_16) 1000 g294.f g294.args g294.st) = true := by kernel_rfl
theorem kg295 : g295.chk (callF Tryz.prog (mk0 s11_17) 1000 g295.f g295.args g295.st) = true := by kernel_rfl
theorem kg296 : g296.chk (callF Tryz.prog (mk0 s11_18) 1000 g296.f g296.args g296.st) = true := by kernel_rfl
theorem kg297 : g297.chk (callF Tryz.prog (mk0 s11_19) 1000 g297.f g297.args g297.st) = true := by kernel_rfl
theorem kg298 : g298.chk (callF Tryz.prog (mk0 s11_20) 1000 g298.f g298.args g298.st) = true := by kernel_rfl
theorem kg299 : g299.chk (callF Tryz.prog (mk0 s11_21) 1000 g299.f g299.args g299.st) = true := by kernel_rfl
theorem kg300 : g300.chk (callF Tryz.prog (mk0 s11_22) 1000 g300.f g300.args g300.st) = true := by kernel_rfl
theorem kg301 : g301.chk (callF Tryz.prog (mk0 s11_23) 1000 g301.f g301.args g301.st) = true := by kernel_rfl
theorem kg302 : g302.chk (callF Tryz.prog (mk0 s11_24) 1000 g302.f g302.args g302.st) = true := by kernel_rfl
theorem run11 : isTrue (callF Tryz.prog (mkc s11_25) 1000 3 [.i .i64 3, .b false, .b false] st00) = true := by kernel_rfl
theorem rs12 : all [[.neg, .b true, .b true], [.neg, .b true, .b false], [.neg, .b false, .b true], [.neg, .b false, .b false], [.i .i64 0, .b true, .b true], [.i .i64 0, .b true, .b false], [.i .i64 0, .b false, .b true], [.i .i64 0, .b false, .b false], [.lb 4, .b true, .b true], [.lb 4, .b true, .b false], [.lb 4, .b false, .b true], [.lb 4, .b false, .b false]] = true := by kernel_rfl
end Go.Proofs.YtaadcblcpojhhaaGreatDoor.turnDeep
