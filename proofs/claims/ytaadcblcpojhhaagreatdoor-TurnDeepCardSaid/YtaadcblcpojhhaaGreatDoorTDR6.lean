/- Calls of the law TurnDeep, run; then the law itself, at one of its arguments. -/
import Derived.Test.YtaadcblcpojhhaaGreatDoorTDBase
import Derived.Test.YtaadcblcpojhhaaGreatDoorTDY0
namespace Go.Proofs.YtaadcblcpojhhaaGreatDoor.turnDeep
open Go.RowKit Go.Proofs.YtaadcblcpojhhaaGreatDoor.Ev
set_option maxRecDepth 100000
theorem kg152 : g152.chk (callF Tryz.prog (mk0 s6_1) 1000 g152.f g152.args g152.st) = true := by kernel_rfl
theorem kg153 : g153.chk (callF Tryz.prog (mk0 s6_2) 1000 g153.f g153.args g153.st) = true := by kernel_rfl
theorem kg154 : g154.chk (callF Tryz.prog (mk0 s6_3) 1000 g154.f g154.args g154.st) = true := by kernel_rfl
theorem kg155 : g155.chk (callF Tryz.prog (mk0 s6_4) 1000 g155.f g155.args g155.st) = true := by kernel_rfl
theorem kg156 : g156.chk (callF Tryz.prog (mk0 s6_5) 1000 g156.f g156.args g156.st) = true := by kernel_rfl
theorem kg157 : g157.chk (callF Tryz.prog (mk0 s6_6) 1000 g157.f g157.args g157.st) = true := by kernel_rfl
theorem kg158 : g158.chk (callF Tryz.prog (mk0 s6_7) 1000 g158.f g158.args g158.st) = true := by kernel_rfl
theorem kg159 : g159.chk (callF Tryz.prog (mk0 s6_8) 1000 g159.f g159.args g159.st) = true := by kernel_rfl
theorem kg160 : g160.chk (callF Tryz.prog (mk0 s6_9) 1000 g160.f g160.args g160.st) = true := by kernel_rfl
theorem kg161 : g161.chk (callF Tryz.prog (mk0 s6_10) 1000 g161.f g161.args g161.st) = true := by kernel_rfl
theorem kg162 : g162.chk (callF Tryz.prog (mk0 s6_11) 1000 g162.f g162.args g162.st) = true := by kernel_rfl
theorem kg163 : g163.chk (callF Tryz.prog (mk0 s6_12) 1000 g163.f g163.args g163.st) = true := by kernel_rfl
theorem kg164 : g164.chk (callF Tryz.prog (mk0 s6_13) 1000 g164.f g164.args g164.st) = true := by kernel_rfl
theorem kg165 : g165.chk (callF Tryz.prog (mk0 s6_14) 1000 g165.f g165.args g165.st) = true := by kernel_rfl
theorem kg166 : g166.chk (callF Tryz.prog (mk0 s6_15) 1000 g166.f g166.args g166.st) = true := by kernel_rfl
theorem kg167 : g167.chk (callF Tryz.prog (mk0 s6_16) 1000 g167.f g167.args g167.st) = true := by kernel_rfl
theorem kg168 : g168.chk (callF Tryz.prog (mk0 s6_17) 1000 g168.f g168.args g168.st) = true := by kernel_rfl
theorem kg169 : g169.chk (callF Tryz.prog (mk0 s6_18) 1000 g169.f g169.args g169.st) = true := by kernel_rfl
theorem kg170 : g170.chk (callF Tryz.prog (mk0 s6_19) 1000 g170.f g170.args g170.st) = true := by kernel_rfl
theorem kg171 : g171.chk (callF Tryz.prog (mk0 s6_20) 1000 g171.f g171.args g171.st) = true := by kernel_rfl
theorem kg172 : g172.chk (callF Tryz.prog (mk0 s6_21) 1000 g172.f g172.args g172.st) = true := by kernel_rfl
theorem kg173 : g173.chk (callF Tryz.prog (mk0 s6_22) 1000 g173.f g173.args g173.st) = true := by kernel_rfl
theorem kg174 : g174.chk (callF Tryz.prog (mk0 s6_23) 1000 g174.f g174.args g174.st) = true := by kernel_rfl
theorem kg175 : g175.chk (callF Tryz.prog (mk0 s6_24) 1000 g175.f g175.args g175.st) = true := by kernel_rfl
theorem kg176 : g176.chk (callF Tryz.prog (mk0 s6_25) 1000 g176.f g176.args g176.st) = true := by kernel_rfl
theorem kg177 : g177.chk (callF Tryz.prog (mk0 s6_26) 1000 g177.f g177.args g177.st) = true := by kernel_rfl
theorem run6 : isTrue (callF Tryz.prog (mkc s6_27) 1000 3 [.i .i64 2, .b false, .b true] st00) = true := by kernel_rfl
end Go.Proofs.YtaadcblcpojhhaaGreatDoor.turnDeep
