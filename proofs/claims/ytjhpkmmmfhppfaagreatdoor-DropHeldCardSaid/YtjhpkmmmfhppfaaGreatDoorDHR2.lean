/- Runs of the law DropHeld, each over a row of bytes of which nothing but the length is known. -/
import Derived.Test.YtjhpkmmmfhppfaaGreatDoorDHBase
namespace Go.Proofs.YtjhpkmmmfhppfaaGreatDoor.dropHeld
open Go.RowKit Go.Proofs.YtjhpkmmmfhppfaaGreatDoor.Ev
set_option maxRecDepth 100000
theorem q2_11 : runB 2 11 = true := by kernel_rfl
theorem q3_11 : runB 3 11 = true := by kernel_rfl
theorem q2_12 : runB 2 12 = true := by kernel_rfl
theorem q3_12 : runB 3 12 = true := by kernel_rfl
theorem q2_13 : runB 2 13 = true := by kernel_rfl
theorem q3_13 : runB 3 13 = true := by kernel_rfl
theorem q2_14 : runB 2 14 = true := by kernel_rfl
theorem q3_14 : runB 3 14 = true := by kernel_rfl
theorem q2_15 : runB 2 15 = true := by kernel_rfl
theorem q3_15 : runB 3 15 = true := by kernel_rfl
end Go.Proofs.YtjhpkmmmfhppfaaGreatDoor.dropHeld
