/- Runs of the law DropHeld, each over a row of bytes of which nothing but the length is known. -/
import Derived.Test.YtjhpkmmmfhppfaaGreatDoorDHBase
namespace Go.Proofs.YtjhpkmmmfhppfaaGreatDoor.dropHeld
open Go.RowKit Go.Proofs.YtjhpkmmmfhppfaaGreatDoor.Ev
set_option maxRecDepth 100000
theorem q2_56 : runB 2 56 = true := by kernel_rfl
theorem q3_56 : runB 3 56 = true := by kernel_rfl
theorem q2_57 : runB 2 57 = true := by kernel_rfl
theorem q3_57 : runB 3 57 = true := by kernel_rfl
theorem q2_58 : runB 2 58 = true := by kernel_rfl
theorem q3_58 : runB 3 58 = true := by kernel_rfl
theorem q2_59 : runB 2 59 = true := by kernel_rfl
theorem q3_59 : runB 3 59 = true := by kernel_rfl
theorem q2_60 : runB 2 60 = true := by kernel_rfl
theorem q3_60 : runB 3 60 = true := by kernel_rfl
end Go.Proofs.YtjhpkmmmfhppfaaGreatDoor.dropHeld
