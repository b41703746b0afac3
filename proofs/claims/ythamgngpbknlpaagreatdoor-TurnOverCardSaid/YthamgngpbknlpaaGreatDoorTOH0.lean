/- Calls of the law TurnOver, run. -/
import Derived.Test.YthamgngpbknlpaaGreatDoorTOBase
namespace Go.Proofs.YthamgngpbknlpaaGreatDoor.turnOver
open Go.RowKit Go.Proofs.YthamgngpbknlpaaGreatDoor.Ev
set_option maxRecDepth 100000
theorem hk0 : h0.chk (callF Tryz.prog (mk0 []) 1000 h0.f h0.args h0.st) = true := by kernel_rfl
end Go.Proofs.YthamgngpbknlpaaGreatDoor.turnOver
