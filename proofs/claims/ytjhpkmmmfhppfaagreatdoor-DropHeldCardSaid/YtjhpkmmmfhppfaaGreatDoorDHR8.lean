/- Runs of the law DropHeld, each over a row of bytes of which nothing but the length is known. -/
import Derived.Test.YtjhpkmmmfhppfaaGreatDoorDHBase
namespace Go.Proofs.YtjhpkmmmfhppfaaGreatDoor.dropHeld
open Go.RowKit Go.Proofs.YtjhpkmmmfhppfaaGreatDoor.Ev
set_option maxRecDepth 100000
theorem q2_41 : runB 2 41 = true := by kernel_rfl
theorem q3_41 : runB 3 41 = true := by kernel_rfl
theorem q2_42 : runB 2 42 = true := by kernel_rfl
theorem q3_42 : runB 3 42 = true := by kernel_rfl
theorem q2_43 : runB 2 43 = true := by kernel_rfl
theorem q3_43 : runB 3 43 = true := by kernel_rfl
theorem q2_44 : runB 2 44 = true := by kernel_rfl
theorem q3_44 : runB 3 44 = true := by kernel_rfl
theorem q2_45 : runB 2 45 = true := by kernel_rfl
theorem q3_45 : runB 3 45 = true := by kernel_rfl
end Go.Proofs.YtjhpkmmmfhppfaaGreatDoor.dropHeld
