/- Runs of the law DropHeld, each over a row of bytes of which nothing but the length is known. -/
import Derived.Test.YtjhpkmmmfhppfaaGreatDoorDHBase
namespace Go.Proofs.YtjhpkmmmfhppfaaGreatDoor.dropHeld
open Go.RowKit Go.Proofs.YtjhpkmmmfhppfaaGreatDoor.Ev
set_option maxRecDepth 100000
theorem q2_16 : runB 2 16 = true := by kernel_rfl
theorem q3_16 : runB 3 16 = true := by kernel_rfl
theorem q2_17 : runB 2 17 = true := by kernel_rfl
theorem q3_17 : runB 3 17 = true := by kernel_rfl
theorem q2_18 : runB 2 18 = true := by kernel_rfl
theorem q3_18 : runB 3 18 = true := by kernel_rfl
theorem q2_19 : runB 2 19 = true := by kernel_rfl
theorem q3_19 : runB 3 19 = true := by kernel_rfl
theorem q2_20 : runB 2 20 = true := by kernel_rfl
theorem q3_20 : runB 3 20 = true := by kernel_rfl
end Go.Proofs.YtjhpkmmmfhppfaaGreatDoor.dropHeld
