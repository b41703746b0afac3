/- Runs of the law DropHeld, each over a row of bytes of which nothing but the length is known. -/
import Derived.Test.YtjhpkmmmfhppfaaGreatDoorDHBase
namespace Go.Proofs.YtjhpkmmmfhppfaaGreatDoor.dropHeld
open Go.RowKit Go.Proofs.YtjhpkmmmfhppfaaGreatDoor.Ev
set_option maxRecDepth 100000
theorem q2_6 : runB 2 6 = true := by kernel_rfl
theorem q3_6 : runB 3 6 = true := by kernel_rfl
theorem q2_7 : runB 2 7 = true := by kernel_rfl
theorem q3_7 : runB 3 7 = true := by kernel_rfl
theorem q2_8 : runB 2 8 = true := by kernel_rfl
theorem q3_8 : runB 3 8 = true := by kernel_rfl
theorem q2_9 : runB 2 9 = true := by kernel_rfl
theorem q3_9 : runB 3 9 = true := by kernel_rfl
theorem q2_10 : runB 2 10 = true := by kernel_rfl
theorem q3_10 : runB 3 10 = true := by kernel_rfl
end Go.Proofs.YtjhpkmmmfhppfaaGreatDoor.dropHeld
