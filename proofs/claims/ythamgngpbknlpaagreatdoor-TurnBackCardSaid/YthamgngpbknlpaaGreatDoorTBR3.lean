/- Runs of the law TurnBack. -/
import Derived.Test.YthamgngpbknlpaaGreatDoorTBBase
namespace Go.Proofs.YthamgngpbknlpaaGreatDoor.turnBack
open Go.RowKit Go.Proofs.YthamgngpbknlpaaGreatDoor.Ev
set_option maxRecDepth 100000
theorem rs3 : all [[.neg, .s 1 102], [.neg, .s 1 100], [.neg, .s 1 115], [.neg, .sn [(1, 102), (1, 100), (1, 115)]], [.i .i64 0, .s 1 102], [.i .i64 0, .s 1 100], [.i .i64 0, .s 1 115], [.i .i64 0, .sn [(1, 102), (1, 100), (1, 115)]], [.i .i64 1, .sn [(1, 102), (1, 100), (1, 115)]], [.i .i64 2, .sn [(1, 102), (1, 100), (1, 115)]], [.i .i64 3, .sn [(1, 102), (1, 100), (1, 115)]], [.lb 4, .s 1 102], [.lb 4, .s 1 100], [.lb 4, .s 1 115], [.lb 4, .sn [(1, 102), (1, 100), (1, 115)]]] = true := by kernel_rfl
end Go.Proofs.YthamgngpbknlpaaGreatDoor.turnBack
