/- Runs of the law DropHeld, each over a row of bytes of which nothing but the length is known. -/
import Derived.Test.YtjhpkmmmfhppfaaGreatDoorDHBase
namespace Go.Proofs.YtjhpkmmmfhppfaaGreatDoor.dropHeld
open Go.RowKit Go.Proofs.YtjhpkmmmfhppfaaGreatDoor.Ev
set_option maxRecDepth 100000
theorem q2_36 : runB 2 36 = true := by kernel_rfl
theorem q3_36 : runB 3 36 = true := by kernel_rfl
theorem q2_37 : runB 2 37 = true := by kernel_rfl
theorem q3_37 : runB 3 37 = true := by kernel_rfl
theorem q2_38 : runB 2 38 = true := by kernel_rfl
theorem q3_38 : runB 3 38 = true := by kernel_rfl
theorem q2_39 : runB 2 39 = true := by kernel_rfl
theorem q3_39 : runB 3 39 = true := by kernel_rfl
theorem q2_40 : runB 2 40 = true := by kernel_rfl
theorem q3_40 : runB 3 40 = true := by kernel_rfl
end Go.Proofs.YtjhpkmmmfhppfaaGreatDoor.dropHeld
