/- Calls of the law TurnDeep, run; then the law itself, at one of its arguments. -/
import Derived.Test.YtaadcblcpojhhaaGreatDoorTDBase
import Derived.Test.YtaadcblcpojhhaaGreatDoorTDY0
namespace Go.Proofs.YtaadcblcpojhhaaGreatDoor.turnDeep
open Go.RowKit Go.Proofs.YtaadcblcpojhhaaGreatDoor.Ev
set_option maxRecDepth 100000
theorem kg77 : g77.chk (callF Tryz.prog (mk0 s3_1) 1000 g77.f g77.args g77.st) = true := by kernel_rfl
theorem kg78 : g78.chk (callF Tryz.prog (mk0 s3_2) 1000 g78.f g78.args g78.st) = true := by kernel_rfl
theorem kg79 : g79.chk (callF Tryz.prog (mk0 s3_3) 1000 g79.f g79.args g79.st) = true := by kernel_rfl
theorem kg80 : g80.chk (callF Tryz.prog (mk0 s3_4) 1000 g80.f g80.args g80.st) = true := by kernel_rfl
theorem kg81 : g81.chk (callF Tryz.prog (mk0 s3_5) 1000 g81.f g81.args g81.st) = true := by kernel_rfl
theorem kg82 : g82.chk (callF Tryz.prog (mk0 s3_6) 1000 g82.f g82.args g82.st) = true := by kernel_rfl
theorem kg83 : g83.chk (callF Tryz.prog (mk0 s3_7) 1000 g83.f g83.args g83.st) = true := by kernel_rfl
theorem kg84 : g84.chk (callF Tryz.prog (mk0 s3_8) 1000 g84.f g84.args g84.st) = true := by kernel_rfl
theorem kg85 : g85.chk (callF Tryz.prog (mk0 s3_9) 1000 g85.f g85.args g85.st) = true := by kernel_rfl
theorem kg86 : g86.chk (callF Tryz.prog (mk0 s3_10) 1000 g86.f g86.args g86.st) = true := by kernel_rfl
theorem kg87 : g87.chk (callF Tryz.prog (mk0 s3_11) 1000 g87.f g87.args g87.st) = true := by kernel_rfl
theorem kg88 : g88.chk (callF Tryz.prog (mk0 s3_12) 1000 g88.f g88.args g88.st) = true := by kernel_rfl
theorem kg89 : g89.chk (callF Tryz.prog (mk0 s3_13) 1000 g89.f g89.args g89.st) = true := by kernel_rfl
theorem kg90 : g90.chk (callF Tryz.prog (mk0 s3_14) 1000 g90.f g90.args g90.st) = true := by kernel_rfl
theorem kg91 : g91.chk (callF Tryz.prog (mk0 s3_15) 1000 g91.f g91.args g91.st) = true := by kernel_rfl
theorem kg92 : g92.chk (callF Tryz.prog (mk0 s3_16) 1000 g92.f g92.args g92.st) = true := by kernel_rfl
theorem kg93 : g93.chk (callF Tryz.prog (mk0 s3_17) 1000 g93.f g93.args g93.st) = true := by kernel_rfl
theorem kg94 : g94.chk (callF Tryz.prog (mk0 s3_18) 1000 g94.f g94.args g94.st) = true := by kernel_rfl
theorem kg95 : g95.chk (callF Tryz.prog (mk0 s3_19) 1000 g95.f g95.args g95.st) = true := by kernel_rfl
theorem kg96 : g96.chk (callF Tryz.prog (mk0 s3_20) 1000 g96.f g96.args g96.st) = true := by kernel_rfl
theorem kg97 : g97.chk (callF Tryz.prog (mk0 s3_21) 1000 g97.f g97.args g97.st) = true := by kernel_rfl
theorem kg98 : g98.chk (callF Tryz.prog (mk0 s3_22) 1000 g98.f g98.args g98.st) = true := by kernel_rfl
theorem kg99 : g99.chk (callF Tryz.prog (mk0 s3_23) 1000 g99.f g99.args g99.st) = true := by kernel_rfl
theorem kg100 : g100.chk (callF Tryz.prog (mk0 s3_24) 1000 g100.f g100.args g100.st) = true := by kernel_rfl
theorem run3 : isTrue (callF Tryz.prog (mkc s3_25) 1000 3 [.i .i64 1, .b false, .b false] st00) = true := by kernel_rfl
end Go.Proofs.YtaadcblcpojhhaaGreatDoor.turnDeep
