/- Calls of the law TurnDeep, run; then the law itself, at one of its arguments. -/
import Derived.Test.YtaadcblcpojhhaaGreatDoorTDBase
import Derived.Test.YtaadcblcpojhhaaGreatDoorTDY0
namespace Go.Proofs.YtaadcblcpojhhaaGreatDoor.turnDeep
open Go.RowKit Go.Proofs.YtaadcblcpojhhaaGreatDoor.Ev
set_option maxRecDepth 100000
theorem kg229 : g229.chk (callF Tryz.prog (mk0 s9_1) 1000 g229.f g229.args g229.st) = true := by kernel_rfl
theorem kg230 : g230.chk (callF Tryz.prog (mk0 s9_2) 1000 g230.f g230.args g230.st) = true := by kernel_rfl
theorem kg231 : g231.chk (callF Tryz.prog (mk0 s9_3) 1000 g231.f g231.args g231.st) = true := by kernel_rfl
theorem kg232 : g232.chk (callF Tryz.prog (mk0 s9_4) 1000 g232.f g232.args g232.st) = true := by kernel_rfl
theorem kg233 : g233.chk (callF Tryz.prog (mk0 s9_5) 1000 g233.f g233.args g233.st) = true := by kernel_rfl
theorem kg234 : g234.chk (callF Tryz.prog (mk0 s9_6) 1000 g234.f g234.args g234.st) = true := by kernel_rfl
theorem kg235 : g235.chk (callF Tryz.prog (mk0 s9_7) 1000 g235.f g235.args g235.st) = true := by kernel_rfl
theorem kg236 : g236.chk (callF Tryz.prog (mk0 s9_8) 1000 g236.f g236.args g236.st) = true := by kernel_rfl
theorem kg237 : g237.chk (callF Tryz.prog (mk0 s9_9) 1000 g237.f g237.args g237.st) = true := by kernel_rfl
theorem kg238 : g238.chk (callF Tryz.prog (mk0 s9_10) 1000 g238.f g238.args g238.st) = true := by kernel_rfl
theorem kg239 : g239.chk (callF Tryz.prog (mk0 s9_11) 1000 g239.f g239.args g239.st) = true := by kernel_rfl
theorem kg240 : g240.chk (callF Tryz.prog (mk0 s9_12) 1000 g240.f g240.args g240.st) = true := by kernel_rfl
theorem kg241 : g241.chk (callF Tryz.prog (mk0 s9_13) 1000 g241.f g241.args g241.st) = true := by kernel_rfl
theorem kg242 : g242.chk (callF Tryz.prog (mk0 s9_14) 1000 g242.f g242.args g242.st) = true := by kernel_rfl
theorem kg243 : g243.chk (callF Tryz.prog (mk0 s9_15) 1000 g243.f g243.args g243.st) = true := by kernel_rfl
theorem kg244 : g244.chk (callF Tryz.prog (mk0 s9_16) 1000 g244.f g244.args g244.st) = true := by kernel_rfl
theorem kg245 : g245.chk (callF Tryz.prog (mk0 s9_17) 1000 g245.f g245.args g245.st) = true := by kernel_rfl
theorem kg246 : g246.chk (callF Tryz.prog (mk0 s9_18) 1000 g246.f g246.args g246.st) = true := by kernel_rfl
theorem kg247 : g247.chk (callF Tryz.prog (mk0 s9_19) 1000 g247.f g247.args g247.st) = true := by kernel_rfl
theorem kg248 : g248.chk (callF Tryz.prog (mk0 s9_20) 1000 g248.f g248.args g248.st) = true := by kernel_rfl
theorem kg249 : g249.chk (callF Tryz.prog (mk0 s9_21) 1000 g249.f g249.args g249.st) = true := by kernel_rfl
theorem kg250 : g250.chk (callF Tryz.prog (mk0 s9_22) 1000 g250.f g250.args g250.st) = true := by kernel_rfl
theorem kg251 : g251.chk (callF Tryz.prog (mk0 s9_23) 1000 g251.f g251.args g251.st) = true := by kernel_rfl
theorem kg252 : g252.chk (callF Tryz.prog (mk0 s9_24) 1000 g252.f g252.args g252.st) = true := by kernel_rfl
theorem run9 : isTrue (callF Tryz.prog (mkc s9_25) 1000 3 [.i .i64 3, .b true, .b false] st00) = true := by kernel_rfl
end Go.Proofs.YtaadcblcpojhhaaGreatDoor.turnDeep
