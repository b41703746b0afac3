/- Calls of the law TurnDeep, run; then the law itself, at one of its arguments. -/
import Derived.Test.YtaadcblcpojhhaaGreatDoorTDBase
import Derived.Test.YtaadcblcpojhhaaGreatDoorTDY0
namespace Go.Proofs.YtaadcblcpojhhaaGreatDoor.turnDeep
open Go.RowKit Go.Proofs.YtaadcblcpojhhaaGreatDoor.Ev
set_option maxRecDepth 100000
theorem kg101 : g101.chk (callF Tryz.prog (mk0 []) 1000 g101.f g101.args g101.st) = true := by kernel_rfl
theorem kg102 : g102.chk (callF Tryz.prog (mk0 s4_1) 1000 g102.f g102.args g102.st) = true := by kernel_rfl
theorem kg103 : g103.chk (callF Tryz.prog (mk0 s4_2) 1000 g103.f g103.args g103.st) = true := by kernel_rfl
theorem kg104 : g104.chk (callF Tryz.prog (mk0 s4_3) 1000 g104.f g104.args g104.st) = true := by kernel_rfl
theorem kg105 : g105.chk (callF Tryz.prog (mk0 s4_4) 1000 g105.f g105.args g105.st) = true := by kernel_rfl
theorem kg106 : g106.chk (callF Tryz.prog (mk0 s4_5) 1000 g106.f g106.args g106.st) = true := by kernel_rfl
theorem kg107 : g107.chk (callF Tryz.prog (mk0 s4_6) 1000 g107.f g107.args g107.st) = true := by kernel_rfl
theorem kg108 : g108.chk (callF Tryz.prog (mk0 s4_7) 1000 g108.f g108.args g108.st) = true := by kernel_rfl
theorem kg109 : g109.chk (callF Tryz.prog (mk0 s4_8) 1000 g109.f g109.args g109.st) = true := by kernel_rfl
theorem kg110 : g110.chk (callF Tryz.prog (mk0 s4_9) 1000 g110.f g110.args g110.st) = true := by kernel_rfl
theorem kg111 : g111.chk (callF Tryz.prog (mk0 s4_10) 1000 g111.f g111.args g111.st) = true := by kernel_rfl
theorem kg112 : g112.chk (callF Tryz.prog (mk0 s4_11) 1000 g112.f g112.args g112.st) = true := by kernel_rfl
theorem kg113 : g113.chk (callF Tryz.prog (mk0 s4_12) 1000 g113.f g113.args g113.st) = true := by kernel_rfl
theorem kg114 : g114.chk (callF Tryz.prog (mk0 s4_13) 1000 g114.f g114.args g114.st) = true := by kernel_rfl
theorem kg115 : g115.chk (callF Tryz.prog (mk0 s4_14) 1000 g115.f g115.args g115.st) = true := by kernel_rfl
theorem kg116 : g116.chk (callF Tryz.prog (mk0 s4_15) 1000 g116.f g116.args g116.st) = true := by kernel_rfl
theorem kg117 : g117.chk (callF Tryz.prog (mk0 s4_16) 1000 g117.f g117.args g117.st) = true := by kernel_rfl
theorem kg118 : g118.chk (callF Tryz.prog (mk0 s4_17) 1000 g118.f g118.args g118.st) = true := by kernel_rfl
theorem kg119 : g119.chk (callF Tryz.prog (mk0 s4_18) 1000 g119.f g119.args g119.st) = true := by kernel_rfl
theorem kg120 : g120.chk (callF Tryz.prog (mk0 s4_19) 1000 g120.f g120.args g120.st) = true := by kernel_rfl
theorem kg121 : g121.chk (callF Tryz.prog (mk0 s4_20) 1000 g121.f g121.args g121.st) = true := by kernel_rfl
theorem kg122 : g122.chk (callF Tryz.prog (mk0 s4_21) 1000 g122.f g122.args g122.st) = true := by kernel_rfl
theorem kg123 : g123.chk (callF Tryz.prog (mk0 s4_22) 1000 g123.f g123.args g123.st) = true := by kernel_rfl
theorem kg124 : g124.chk (callF Tryz.prog (mk0 s4_23) 1000 g124.f g124.args g124.st) = true := by kernel_rfl
theorem kg125 : g125.chk (callF Tryz.prog (mk0 s4_24) 1000 g125.f g125.args g125.st) = true := by kernel_rfl
theorem kg126 : g126.chk (callF Tryz.prog (mk0 s4_25) 1000 g126.f g126.args g126.st) = true := by kernel_rfl
theorem kg127 : g127.chk (callF Tryz.prog (mk0 s4_26) 1000 g127.f g127.args g127.st) = true := by kernel_rfl
theorem run4 : isTrue (callF Tryz.prog (mkc s4_27) 1000 3 [.i .i64 2, .b true, .b true] st00) = true := by kernel_rfl
end Go.Proofs.YtaadcblcpojhhaaGreatDoor.turnDeep
