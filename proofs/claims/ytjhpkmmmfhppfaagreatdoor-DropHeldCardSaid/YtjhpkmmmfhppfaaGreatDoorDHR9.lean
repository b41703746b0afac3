/- Runs of the law DropHeld, each over a row of bytes of which nothing but the length is known. -/
import Derived.Test.YtjhpkmmmfhppfaaGreatDoorDHBase
namespace Go.Proofs.YtjhpkmmmfhppfaaGreatDoor.dropHeld
open Go.RowKit Go.Proofs.YtjhpkmmmfhppfaaGreatDoor.Ev
set_option maxRecDepth 100000
theorem q2_46 : runB 2 46 = true := by kernel_rfl
theorem q3_46 : runB 3 46 = true := by kernel_rfl
theorem q2_47 : runB 2 47 = true := by kernel_rfl
theorem q3_47 : runB 3 47 = true := by kernel_rfl
theorem q2_48 : runB 2 48 = true := by kernel_rfl
theorem q3_48 : runB 3 48 = true := by kernel_rfl
theorem q2_49 : runB 2 49 = true := by kernel_rfl
theorem q3_49 : runB 3 49 = true := by kernel_rfl
theorem q2_50 : runB 2 50 = true := by kernel_rfl
theorem q3_50 : runB 3 50 = true := by kernel_rfl
end Go.Proofs.YtjhpkmmmfhppfaaGreatDoor.dropHeld
