/- Runs of the law TurnOver. -/
import Derived.Test.YthamgngpbknlpaaGreatDoorTOBase
namespace Go.Proofs.YthamgngpbknlpaaGreatDoor.turnOver
open Go.RowKit Go.Proofs.YthamgngpbknlpaaGreatDoor.Ev
set_option maxRecDepth 100000
theorem rs1 : all [[.i .i64 2, .s 1 102, .s 1 115], [.i .i64 2, .s 1 115, .s 1 102]] = true := by kernel_rfl
end Go.Proofs.YthamgngpbknlpaaGreatDoor.turnOver
