/- Runs of the law FlatLinks. -/
import Derived.Test.YtbefmbkojmlanaaGreatFLBase
namespace Go.Proofs.YtbefmbkojmlanaaGreat.flatLinks
open Go.RowKit Go.Proofs.YtbefmbkojmlanaaGreat.Ev
set_option maxRecDepth 100000
theorem rs12 : all [[.i .i64 8, .i .i64 0], [.i .i64 8, .i .i64 1]] = true := by kernel_rfl
theorem rs13 : all [[.i .i64 8, .i .i64 2]] = true := by kernel_rfl
theorem rs14 : all [[.i .i64 8, .i .i64 3]] = true := by kernel_rfl
theorem rs15 : all [[.i .i64 8, .i .i64 4]] = true := by kernel_rfl
end Go.Proofs.YtbefmbkojmlanaaGreat.flatLinks
