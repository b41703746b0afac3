/- Calls of the law TurnOver, run. -/
import Derived.Test.YthamgngpbknlpaaGreatDoorTOBase
namespace Go.Proofs.YthamgngpbknlpaaGreatDoor.turnOver
open Go.RowKit Go.Proofs.YthamgngpbknlpaaGreatDoor.Ev
set_option maxRecDepth 100000
theorem hk3 : h3.chk (callF Tryz.prog (mk0 [h0, h1, h2]) 1000 h3.f h3.args h3.st) = true := by kernel_rfl
end Go.Proofs.YthamgngpbknlpaaGreatDoor.turnOver
