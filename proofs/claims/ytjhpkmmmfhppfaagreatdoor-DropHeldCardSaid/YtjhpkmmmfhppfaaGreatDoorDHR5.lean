/- Runs of the law DropHeld, each over a row of bytes of which nothing but the length is known. -/
import Derived.Test.YtjhpkmmmfhppfaaGreatDoorDHBase
namespace Go.Proofs.YtjhpkmmmfhppfaaGreatDoor.dropHeld
open Go.RowKit Go.Proofs.YtjhpkmmmfhppfaaGreatDoor.Ev
set_option maxRecDepth 100000
theorem q2_26 : runB 2 26 = true := by kernel_rfl
theorem q3_26 : runB 3 26 = true := by kernel_rfl
theorem q2_27 : runB 2 27 = true := by kernel_rfl
theorem q3_27 : runB 3 27 = true := by kernel_rfl
theorem q2_28 : runB 2 28 = true := by kernel_rfl
theorem q3_28 : runB 3 28 = true := by kernel_rfl
theorem q2_29 : runB 2 29 = true := by kernel_rfl
theorem q3_29 : runB 3 29 = true := by kernel_rfl
theorem q2_30 : runB 2 30 = true := by kernel_rfl
theorem q3_30 : runB 3 30 = true := by kernel_rfl
end Go.Proofs.YtjhpkmmmfhppfaaGreatDoor.dropHeld
