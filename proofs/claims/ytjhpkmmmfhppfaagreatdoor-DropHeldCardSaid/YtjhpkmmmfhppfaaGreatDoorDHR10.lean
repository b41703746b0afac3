/- Runs of the law DropHeld, each over a row of bytes of which nothing but the length is known. -/
import Derived.Test.YtjhpkmmmfhppfaaGreatDoorDHBase
namespace Go.Proofs.YtjhpkmmmfhppfaaGreatDoor.dropHeld
open Go.RowKit Go.Proofs.YtjhpkmmmfhppfaaGreatDoor.Ev
set_option maxRecDepth 100000
theorem q2_51 : runB 2 51 = true := by kernel_rfl
theorem q3_51 : runB 3 51 = true := by kernel_rfl
theorem q2_52 : runB 2 52 = true := by kernel_rfl
theorem q3_52 : runB 3 52 = true := by kernel_rfl
theorem q2_53 : runB 2 53 = true := by kernel_rfl
theorem q3_53 : runB 3 53 = true := by kernel_rfl
theorem q2_54 : runB 2 54 = true := by kernel_rfl
theorem q3_54 : runB 3 54 = true := by kernel_rfl
theorem q2_55 : runB 2 55 = true := by kernel_rfl
theorem q3_55 : runB 3 55 = true := by kernel_rfl
end Go.Proofs.YtjhpkmmmfhppfaaGreatDoor.dropHeld
