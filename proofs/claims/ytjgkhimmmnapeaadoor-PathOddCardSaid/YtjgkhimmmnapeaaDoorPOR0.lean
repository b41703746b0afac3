/- Runs of the law PathOdd. -/
import Derived.Test.YtjgkhimmmnapeaaDoorPOBase
namespace Go.Proofs.YtjgkhimmmnapeaaDoor.pathOdd
open Go.RowKit Go.Proofs.YtjgkhimmmnapeaaDoor.Ev
set_option maxRecDepth 100000
theorem rs0 : all [.i .i64 0, .i .i64 1, .i .i64 2, .i .i64 3, .i .i64 4, .i .i64 5, .i .i64 6, .i .i64 7, .i .i64 8, .i .i64 9, .i .i64 10, .i .i64 11, .i .i64 12, .i .i64 13, .lb 14, .neg] = true := by kernel_rfl
end Go.Proofs.YtjgkhimmmnapeaaDoor.pathOdd
