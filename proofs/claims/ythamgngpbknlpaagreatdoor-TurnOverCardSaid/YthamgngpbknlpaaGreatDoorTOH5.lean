/- Calls of the law TurnOver, run. -/
import Derived.Test.YthamgngpbknlpaaGreatDoorTOBase
namespace Go.Proofs.YthamgngpbknlpaaGreatDoor.turnOver
open Go.RowKit Go.Proofs.YthamgngpbknlpaaGreatDoor.Ev
set_option maxRecDepth 100000
theorem hk5 : h5.chk (callF Tryz.prog (mk0 [h0, h1, h2, h3, h4]) 1000 h5.f h5.args h5.st) = true := by kernel_rfl
end Go.Proofs.YthamgngpbknlpaaGreatDoor.turnOver
