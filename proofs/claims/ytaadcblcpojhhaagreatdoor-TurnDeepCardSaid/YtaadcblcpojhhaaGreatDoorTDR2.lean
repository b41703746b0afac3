/- Calls of the law TurnDeep, run; then the law itself, at one of its arguments. -/
import Derived.Test.YtaadcblcpojhhaaGreatDoorTDBase
import Derived.Test.YtaadcblcpojhhaaGreatDoorTDY0
namespace Go.Proofs.YtaadcblcpojhhaaGreatDoor.turnDeep
open Go.RowKit Go.Proofs.YtaadcblcpojhhaaGreatDoor.Ev
set_option maxRecDepth 100000
theorem kg51 : g51.chk (callF Tryz.prog (mk0 s2_1) 1000 g51.f g51.args g51.st) = true := by kernel_rfl
theorem kg52 : g52.chk (callF Tryz.prog (mk0 s2_2) 1000 g52.f g52.args g52.st) = true := by kernel_rfl
theorem kg53 : g53.chk (callF Tryz.prog (mk0 s2_3) 1000 g53.f g53.args g53.st) = true := by kernel_rfl
theorem kg54 : g54.chk (callF Tryz.prog (mk0 s2_4) 1000 g54.f g54.args g54.st) = true := by kernel_rfl
theorem kg55 : g55.chk (callF Tryz.prog (mk0 s2_5) 1000 g55.f g55.args g55.st) = true := by kernel_rfl
theorem kg56 : g56.chk (callF Tryz.prog (mk0 s2_6) 1000 g56.f g56.args g56.st) = true := by kernel_rfl
theorem kg57 : g57.chk (callF Tryz.prog (mk0 s2_7) 1000 g57.f g57.args g57.st) = true := by kernel_rfl
theorem kg58 : g58.chk (callF Tryz.prog (mk0 s2_8) 1000 g58.f g58.args g58.st) = true := by kernel_rfl
theorem kg59 : g59.chk (callF Tryz.prog (mk0 s2_9) 1000 g59.f g59.args g59.st) = true := by kernel_rfl
theorem kg60 : g60.chk (callF Tryz.prog (mk0 s2_10) 1000 g60.f g60.args g60.st) = true := by kernel_rfl
theorem kg61 : g61.chk (callF Tryz.prog (mk0 s2_11) 1000 g61.f g61.args g61.st) = true := by kernel_rfl
theorem kg62 : g62.chk (callF Tryz.prog (mk0 s2_12) 1000 g62.f g62.args g62.st) = true := by kernel_rfl
theorem kg63 : g63.chk (callF Tryz.prog (mk0 s2_13) 1000 g63.f g63.args g63.st) = true := by kernel_rfl
theorem kg64 : g64.chk (callF Tryz.prog (mk0 s2_14) 1000 g64.f g64.args g64.st) = true := by kernel_rfl
theorem kg65 : g65.chk (callF Tryz.prog (mk0 s2_15) 1000 g65.f g65.args g65.st) = true := by kernel_rfl
theorem kg66 : g66.chk (callF Tryz.prog (mk0 s2_16) 1000 g66.f g66.args g66.st) = true := by kernel_rfl
theorem kg67 : g67.chk (callF Tryz.prog (mk0 s2_17) 1000 g67.f g67.args g67.st) = true := by kernel_rfl
theorem kg68 : g68.chk (callF Tryz.prog (mk0 s2_18) 1000 g68.f g68.args g68.st) = true := by kernel_rfl
theorem kg69 : g69.chk (callF Tryz.prog (mk0 s2_19) 1000 g69.f g69.args g69.st) = true := by kernel_rfl
theorem kg70 : g70.chk (callF Tryz.prog (mk0 s2_20) 1000 g70.f g70.args g70.st) = true := by kernel_rfl
theorem kg71 : g71.chk (callF Tryz.prog (mk0 s2_21) 1000 g71.f g71.args g71.st) = true := by kernel_rfl
theorem kg72 : g72.chk (callF Tryz.prog (mk0 s2_22) 1000 g72.f g72.args g72.st) = true := by kernel_rfl
theorem kg73 : g73.chk (callF Tryz.prog (mk0 s2_23) 1000 g73.f g73.args g73.st) = true := by kernel_rfl
theorem kg74 : g74.chk (callF Tryz.prog (mk0 s2_24) 1000 g74.f g74.args g74.st) = true := by kernel_rfl
theorem kg75 : g75.chk (callF Tryz.prog (mk0 s2_25) 1000 g75.f g75.args g75.st) = true := by kernel_rfl
theorem kg76 : g76.chk (callF Tryz.prog (mk0 s2_26) 1000 g76.f g76.args g76.st) = true := by kernel_rfl
theorem run2 : isTrue (callF Tryz.prog (mkc s2_27) 1000 3 [.i .i64 1, .b false, .b true] st00) = true := by kernel_rfl
end Go.Proofs.YtaadcblcpojhhaaGreatDoor.turnDeep
