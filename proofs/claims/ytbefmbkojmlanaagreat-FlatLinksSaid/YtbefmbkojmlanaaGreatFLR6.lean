/- Runs of the law FlatLinks. -/
import Derived.Test.YtbefmbkojmlanaaGreatFLBase
namespace Go.Proofs.YtbefmbkojmlanaaGreat.flatLinks
open Go.RowKit Go.Proofs.YtbefmbkojmlanaaGreat.Ev
set_option maxRecDepth 100000
theorem rs8 : all [[.i .i64 7, .i .i64 0], [.i .i64 7, .i .i64 1]] = true := by kernel_rfl
theorem rs9 : all [[.i .i64 7, .i .i64 2], [.i .i64 7, .i .i64 3]] = true := by kernel_rfl
theorem rs10 : all [[.i .i64 7, .i .i64 4], [.i .i64 7, .i .i64 5]] = true := by kernel_rfl
theorem rs11 : all [[.i .i64 7, .i .i64 6], [.i .i64 7, .i .i64 7]] = true := by kernel_rfl
end Go.Proofs.YtbefmbkojmlanaaGreat.flatLinks
