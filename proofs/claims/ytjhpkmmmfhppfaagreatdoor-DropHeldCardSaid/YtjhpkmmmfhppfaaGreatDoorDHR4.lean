/- Runs of the law DropHeld, each over a row of bytes of which nothing but the length is known. -/
import Derived.Test.YtjhpkmmmfhppfaaGreatDoorDHBase
namespace Go.Proofs.YtjhpkmmmfhppfaaGreatDoor.dropHeld
open Go.RowKit Go.Proofs.YtjhpkmmmfhppfaaGreatDoor.Ev
set_option maxRecDepth 100000
theorem q2_21 : runB 2 21 = true := by kernel_rfl
theorem q3_21 : runB 3 21 = true := by kernel_rfl
theorem q2_22 : runB 2 22 = true := by kernel_rfl
theorem q3_22 : runB 3 22 = true := by kernel_rfl
theorem q2_23 : runB 2 23 = true := by kernel_rfl
theorem q3_23 : runB 3 23 = true := by kernel_rfl
theorem q2_24 : runB 2 24 = true := by kernel_rfl
theorem q3_24 : runB 3 24 = true := by kernel_rfl
theorem q2_25 : runB 2 25 = true := by kernel_rfl
theorem q3_25 : runB 3 25 = true := by kernel_rfl
end Go.Proofs.YtjhpkmmmfhppfaaGreatDoor.dropHeld
