/- Runs of the law DropHeld, each over a row of bytes of which nothing but the length is known. -/
import Derived.Test.YtjhpkmmmfhppfaaGreatDoorDHBase
namespace Go.Proofs.YtjhpkmmmfhppfaaGreatDoor.dropHeld
open Go.RowKit Go.Proofs.YtjhpkmmmfhppfaaGreatDoor.Ev
set_option maxRecDepth 100000
theorem q2_1 : runB 2 1 = true := by kernel_rfl
theorem q3_1 : runB 3 1 = true := by kernel_rfl
theorem q2_2 : runB 2 2 = true := by kernel_rfl
theorem q3_2 : runB 3 2 = true := by kernel_rfl
theorem q2_3 : runB 2 3 = true := by kernel_rfl
theorem q3_3 : runB 3 3 = true := by kernel_rfl
theorem q2_4 : runB 2 4 = true := by kernel_rfl
theorem q3_4 : runB 3 4 = true := by kernel_rfl
theorem q2_5 : runB 2 5 = true := by kernel_rfl
theorem q3_5 : runB 3 5 = true := by kernel_rfl
end Go.Proofs.YtjhpkmmmfhppfaaGreatDoor.dropHeld
