/- Calls of the law TurnDeep, run; then the law itself, at one of its arguments. -/
import Derived.Test.YtaadcblcpojhhaaGreatDoorTDBase
import Derived.Test.YtaadcblcpojhhaaGreatDoorTDY0
namespace Go.Proofs.YtaadcblcpojhhaaGreatDoor.turnDeep
open Go.RowKit Go.Proofs.YtaadcblcpojhhaaGreatDoor.Ev
set_option maxRecDepth 100000
theorem kg178 : g178.chk (callF Tryz.prog (mk0 s7_1) 1000 g178.f g178.args g178.st) = true := by kernel_rfl
theorem kg179 : g179.chk (callF Tryz.prog (mk0 s7_2) 1000 g179.f g179.args g179.st) = true := by kernel_rfl
theorem kg180 : g180.chk (callF Tryz.prog (mk0 s7_3) 1000 g180.f g180.args g180.st) = true := by kernel_rfl
theorem kg181 : g181.chk (callF Tryz.prog (mk0 s7_4) 1000 g181.f g181.args g181.st) = true := by kernel_rfl
theorem kg182 : g182.chk (callF Tryz.prog (mk0 s7_5) 1000 g182.f g182.args g182.st) = true := by kernel_rfl
theorem kg183 : g183.chk (callF Tryz.prog (mk0 s7_6) 1000 g183.f g183.args g183.st) = true := by kernel_rfl
theorem kg184 : g184.chk (callF Tryz.prog (mk0 s7_7) 1000 g184.f g184.args g184.st) = true := by kernel_rfl
theorem kg185 : g185.chk (callF Tryz.prog (mk0 s7_8) 1000 g185.f g185.args g185.st) = true := by kernel_rfl
theorem kg186 : g186.chk (callF Tryz.prog (mk0 s7_9) 1000 g186.f g186.args g186.st) = true := by kernel_rfl
theorem kg187 : g187.chk (callF Tryz.prog (mk0 s7_10) 1000 g187.f g187.args g187.st) = true := by kernel_rfl
theorem kg188 : g188.chk (callF Tryz.prog (mk0 s7_11) 1000 g188.f g188.args g188.st) = true := by kernel_rfl
theorem kg189 : g189.chk (callF Tryz.prog (mk0 s7_12) 1000 g189.f g189.args g189.st) = true := by kernel_rfl
theorem kg190 : g190.chk (callF Tryz.prog (mk0 s7_13) 1000 g190.f g190.args g190.st) = true := by kernel_rfl
theorem kg191 : g191.chk (callF Tryz.prog (mk0 s7_14) 1000 g191.f g191.args g191.st) = true := by kernel_rfl
theorem kg192 : g192.chk (callF Tryz.prog (mk0 s7_15) 1000 g192.f g192.args g192.st) = true := by kernel_rfl
theorem kg193 : g193.chk (callF Tryz.prog (mk0 s7_16) 1000 g193.f g193.args g193.st) = true := by kernel_rfl
theorem kg194 : g194.chk (callF Tryz.prog (mk0 s7_17) 1000 g194.f g194.args g194.st) = true := by kernel_rfl
theorem kg195 : g195.chk (callF Tryz.prog (mk0 s7_18) 1000 g195.f g195.args g195.st) = true := by kernel_rfl
theorem kg196 : g196.chk (callF Tryz.prog (mk0 s7_19) 1000 g196.f g196.args g196.st) = true := by kernel_rfl
theorem kg197 : g197.chk (callF Tryz.prog (mk0 s7_20) 1000 g197.f g197.args g197.st) = true := by kernel_rfl
theorem kg198 : g198.chk (callF Tryz.prog (mk0 s7_21) 1000 g198.f g198.args g198.st) = true := by kernel_rfl
theorem kg199 : g199.chk (callF Tryz.prog (mk0 s7_22) 1000 g199.f g199.args g199.st) = true := by kernel_rfl
theorem kg200 : g200.chk (callF Tryz.prog (mk0 s7_23) 1000 g200.f g200.args g200.st) = true := by kernel_rfl
theorem kg201 : g201.chk (callF Tryz.prog (mk0 s7_24) 1000 g201.f g201.args g201.st) = true := by kernel_rfl
theorem run7 : isTrue (callF Tryz.prog (mkc s7_25) 1000 3 [.i .i64 2, .b false, .b false] st00) = true := by kernel_rfl
end Go.Proofs.YtaadcblcpojhhaaGreatDoor.turnDeep
