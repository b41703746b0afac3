/- Runs of the law DropHeld, each over a row of bytes of which nothing but the length is known. -/
import Derived.Test.YtjhpkmmmfhppfaaGreatDoorDHBase
namespace Go.Proofs.YtjhpkmmmfhppfaaGreatDoor.dropHeld
open Go.RowKit Go.Proofs.YtjhpkmmmfhppfaaGreatDoor.Ev
set_option maxRecDepth 100000
theorem q2_31 : runB 2 31 = true := by kernel_rfl
theorem q3_31 : runB 3 31 = true := by kernel_rfl
theorem q2_32 : runB 2 32 = true := by kernel_rfl
theorem q3_32 : runB 3 32 = true := by kernel_rfl
theorem q2_33 : runB 2 33 = true := by kernel_rfl
theorem q3_33 : runB 3 33 = true := by kernel_rfl
theorem q2_34 : runB 2 34 = true := by kernel_rfl
theorem q3_34 : runB 3 34 = true := by kernel_rfl
theorem q2_35 : runB 2 35 = true := by kernel_rfl
theorem q3_35 : runB 3 35 = true := by kernel_rfl
end Go.Proofs.YtjhpkmmmfhppfaaGreatDoor.dropHeld
