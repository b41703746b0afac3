/- Calls of the law TurnDeep, run; then the law itself, at one of its arguments. -/
import Derived.Test.YtaadcblcpojhhaaGreatDoorTDBase
import Derived.Test.YtaadcblcpojhhaaGreatDoorTDY0
namespace Go.Proofs.YtaadcblcpojhhaaGreatDoor.turnDeep
open Go.RowKit Go.Proofs.YtaadcblcpojhhaaGreatDoor.Ev
set_option maxRecDepth 100000
theorem kg202 : g202.chk (callF Tryz.prog (mk0 []) 1000 g202.f g202.args g202.st) = true := by kernel_rfl
theorem kg203 : g203.chk (callF Tryz.prog (mk0 s8_1) 1000 g203.f g203.args g203.st) = true := by kernel_rfl
theorem kg204 : g204.chk (callF Tryz.prog (mk0 s8_2) 1000 g204.f g204.args g204.st) = true := by kernel_rfl
theorem kg205 : g205.chk (callF Tryz.prog (mk0 s8_3) 1000 g205.f g205.args g205.st) = true := by kernel_rfl
theorem kg206 : g206.chk (callF Tryz.prog (mk0 s8_4) 1000 g206.f g206.args g206.st) = true := by kernel_rfl
theorem kg207 : g207.chk (callF Tryz.prog (mk0 s8_5) 1000 g207.f g207.args g207.st) = true := by kernel_rfl
theorem kg208 : g208.chk (callF Tryz.prog (mk0 s8_6) 1000 g208.f g208.args g208.st) = true := by kernel_rfl
theorem kg209 : g209.chk (callF Tryz.prog (mk0 s8_7) 1000 g209.f g209.args g209.st) = true := by kernel_rfl
theorem kg210 : g210.chk (callF Tryz.prog (mk0 s8_8) 1000 g210.f g210.args g210.st) = true := by kernel_rfl
theorem kg211 : g211.chk (callF Tryz.prog (mk0 s8_9) 1000 g211.f g211.args g211.st) = true := by kernel_rfl
theorem kg212 : g212.chk (callF Tryz.prog (mk0 s8_10) 1000 g212.f g212.args g212.st) = true := by kernel_rfl
theorem kg213 : g213.chk (callF Tryz.prog (mk0 s8_11) 1000 g213.f g213.args g213.st) = true := by kernel_rfl
theorem kg214 : g214.chk (callF Tryz.prog (mk0 s8_12) 1000 g214.f g214.args g214.st) = true := by kernel_rfl
theorem kg215 : g215.chk (callF Tryz.prog (mk0 s8_13) 1000 g215.f g215.args g215.st) = true := by kernel_rfl
theorem kg216 : g216.chk (callF Tryz.prog (mk0 s8_14) 1000 g216.f g216.args g216.st) = true := by kernel_rfl
theorem kg217 : g217.chk (callF Tryz.prog (mk0 s8_15) 1000 g217.f g217.args g217.st) = true := by kernel_rfl
theorem kg218 : g218.chk (callF Tryz.prog (mk0 s8_16) 1000 g218.f g218.args g218.st) = true := by kernel_rfl
theorem kg219 : g219.chk (callF Tryz.prog (mk0 s8_17) 1000 g219.f g219.args g219.st) = true := by kernel_rfl
theorem kg220 : g220.chk (callF Tryz.prog (mk0 s8_18) 1000 g220.f g220.args g220.st) = true := by kernel_rfl
theorem kg221 : g221.chk (callF Tryz.prog (mk0 s8_19) 1000 g221.f g221.args g221.st) = true := by kernel_rfl
theorem kg222 : g222.chk (callF Tryz.prog (mk0 s8_20) 1000 g222.f g222.args g222.st) = true := by kernel_rfl
theorem kg223 : g223.chk (callF Tryz.prog (mk0 s8_21) 1000 g223.f g223.args g223.st) = true := by kernel_rfl
theorem kg224 : g224.chk (callF Tryz.prog (mk0 s8_22) 1000 g224.f g224.args g224.st) = true := by kernel_rfl
theorem kg225 : g225.chk (callF Tryz.prog (mk0 s8_23) 1000 g225.f g225.args g225.st) = true := by kernel_rfl
theorem kg226 : g226.chk (callF Tryz.prog (mk0 s8_24) 1000 g226.f g226.args g226.st) = true := by kernel_rfl
theorem kg227 : g227.chk (callF Tryz.prog (mk0 s8_25) 1000 g227.f g227.args g227.st) = true := by kernel_rfl
theorem kg228 : g228.chk (callF Tryz.prog (mk0 s8_26) 1000 g228.f g228.args g228.st) = true := by kernel_rfl
theorem run8 : isTrue (callF Tryz.prog (mkc s8_27) 1000 3 [.i .i64 3, .b true, .b true] st00) = true := by kernel_rfl
end Go.Proofs.YtaadcblcpojhhaaGreatDoor.turnDeep
