/- Runs of the law FlatLinks. -/
import Derived.Test.YtbefmbkojmlanaaGreatFLBase
namespace Go.Proofs.YtbefmbkojmlanaaGreat.flatLinks
open Go.RowKit Go.Proofs.YtbefmbkojmlanaaGreat.Ev
set_option maxRecDepth 100000
theorem rs5 : all [[.i .i64 6, .i .i64 1], [.i .i64 6, .i .i64 2]] = true := by kernel_rfl
theorem rs6 : all [[.i .i64 6, .i .i64 3], [.i .i64 6, .i .i64 4]] = true := by kernel_rfl
theorem rs7 : all [[.i .i64 6, .i .i64 5], [.i .i64 6, .i .i64 6]] = true := by kernel_rfl
end Go.Proofs.YtbefmbkojmlanaaGreat.flatLinks
