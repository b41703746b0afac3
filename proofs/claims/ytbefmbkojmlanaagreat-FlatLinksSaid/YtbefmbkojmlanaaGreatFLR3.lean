/- Runs of the law FlatLinks. -/
import Derived.Test.YtbefmbkojmlanaaGreatFLBase
namespace Go.Proofs.YtbefmbkojmlanaaGreat.flatLinks
open Go.RowKit Go.Proofs.YtbefmbkojmlanaaGreat.Ev
set_option maxRecDepth 100000
theorem rs3 : all [[.i .i64 5, .i .i64 1], [.i .i64 5, .i .i64 2], [.i .i64 5, .i .i64 3]] = true := by kernel_rfl
end Go.Proofs.YtbefmbkojmlanaaGreat.flatLinks
