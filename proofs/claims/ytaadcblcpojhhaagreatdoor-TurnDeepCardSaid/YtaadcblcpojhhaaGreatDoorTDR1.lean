/- Calls of the law TurnDeep, run; then the law itself, at one of its arguments. -/
import Derived.Test.YtaadcblcpojhhaaGreatDoorTDBase
import Derived.Test.YtaadcblcpojhhaaGreatDoorTDY0
namespace Go.Proofs.YtaadcblcpojhhaaGreatDoor.turnDeep
open Go.RowKit Go.Proofs.YtaadcblcpojhhaaGreatDoor.Ev
set_option maxRecDepth 100000
theorem kg27 : g27.chk (callF Tryz.prog (mk0 s1_1) 1000 g27.f g27.args g27.st) = true := by kernel_rfl
theorem kg28 : g28.chk (callF Tryz.prog (mk0 s1_2) 1000 g28.f g28.args g28.st) = true := by kernel_rfl
theorem kg29 : g29.chk (callF Tryz.prog (mk0 s1_3) 1000 g29.f g29.args g29.st) = true := by kernel_rfl
theorem kg30 : g30.chk (callF Tryz.prog (mk0 s1_4) 1000 g30.f g30.args g30.st) = true := by kernel_rfl
theorem kg31 : g31.chk (callF Tryz.prog (mk0 s1_5) 1000 g31.f g31.args g31.st) = true := by kernel_rfl
theorem kg32 : g32.chk (callF Tryz.prog (mk0 s1_6) 1000 g32.f g32.args g32.st) = true := by kernel_rfl
theorem kg33 : g33.chk (callF Tryz.prog (mk0 s1_7) 1000 g33.f g33.args g33.st) = true := by kernel_rfl
theorem kg34 : g34.chk (callF Tryz.prog (mk0 s1_8) 1000 g34.f g34.args g34.st) = true := by kernel_rfl
theorem kg35 : g35.chk (callF Tryz.prog (mk0 s1_9) 1000 g35.f g35.args g35.st) = true := by kernel_rfl
theorem kg36 : g36.chk (callF Tryz.prog (mk0 s1_10) 1000 g36.f g36.args g36.st) = true := by kernel_rfl
theorem kg37 : g37.chk (callF Tryz.prog (mk0 s1_11) 1000 g37.f g37.args g37.st) = true := by kernel_rfl
theorem kg38 : g38.chk (callF Tryz.prog (mk0 s1_12) 1000 g38.f g38.args g38.st) = true := by kernel_rfl
theorem kg39 : g39.chk (callF Tryz.prog (mk0 s1_13) 1000 g39.f g39.args g39.st) = true := by kernel_rfl
theorem kg40 : g40.chk (callF Tryz.prog (mk0 s1_14) 1000 g40.f g40.args g40.st) = true := by kernel_rfl
theorem kg41 : g41.chk (callF Tryz.prog (mk0 s1_15) 1000 g41.f g41.args g41.st) = true := by kernel_rfl
theorem kg42 : g42.chk (callF Tryz.prog (mk0 s1_16) 1000 g42.f g42.args g42.st) = true := by kernel_rfl
theorem kg43 : g43.chk (callF Tryz.prog (mk0 s1_17) 1000 g43.f g43.args g43.st) = true := by kernel_rfl
theorem kg44 : g44.chk (callF Tryz.prog (mk0 s1_18) 1000 g44.f g44.args g44.st) = true := by kernel_rfl
theorem kg45 : g45.chk (callF Tryz.prog (mk0 s1_19) 1000 g45.f g45.args g45.st) = true := by kernel_rfl
theorem kg46 : g46.chk (callF Tryz.prog (mk0 s1_20) 1000 g46.f g46.args g46.st) = true := by kernel_rfl
theorem kg47 : g47.chk (callF Tryz.prog (mk0 s1_21) 1000 g47.f g47.args g47.st) = true := by kernel_rfl
theorem kg48 : g48.chk (callF Tryz.prog (mk0 s1_22) 1000 g48.f g48.args g48.st) = true := by kernel_rfl
theorem kg49 : g49.chk (callF Tryz.prog (mk0 s1_23) 1000 g49.f g49.args g49.st) = true := by kernel_rfl
theorem kg50 : g50.chk (callF Tryz.prog (mk0 s1_24) 1000 g50.f g50.args g50.st) = true := by kernel_rfl
theorem run1 : isTrue (callF Tryz.prog (mkc s1_25) 1000 3 [.i .i64 1, .b true, .b false] st00) = true := by kernel_rfl
end Go.Proofs.YtaadcblcpojhhaaGreatDoor.turnDeep
