/- Runs of the law TurnBack. -/
import Derived.Test.YthamgngpbknlpaaGreatDoorTBBase
namespace Go.Proofs.YthamgngpbknlpaaGreatDoor.turnBack
open Go.RowKit Go.Proofs.YthamgngpbknlpaaGreatDoor.Ev
set_option maxRecDepth 100000
theorem rs2 : all [[.i .i64 3, .s 1 102], [.i .i64 3, .s 1 100], [.i .i64 3, .s 1 115]] = true := by kernel_rfl
end Go.Proofs.YthamgngpbknlpaaGreatDoor.turnBack
