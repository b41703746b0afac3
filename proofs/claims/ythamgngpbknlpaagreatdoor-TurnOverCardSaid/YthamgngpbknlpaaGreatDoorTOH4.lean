/- Calls of the law TurnOver, run. -/
import Derived.Test.YthamgngpbknlpaaGreatDoorTOBase
namespace Go.Proofs.YthamgngpbknlpaaGreatDoor.turnOver
open Go.RowKit Go.Proofs.YthamgngpbknlpaaGreatDoor.Ev
set_option maxRecDepth 100000
theorem hk4 : h4.chk (callF Tryz.prog (mk0 [h0, h1, h2, h3]) 1000 h4.f h4.args h4.st) = true := by kernel_rfl
end Go.Proofs.YthamgngpbknlpaaGreatDoor.turnOver
