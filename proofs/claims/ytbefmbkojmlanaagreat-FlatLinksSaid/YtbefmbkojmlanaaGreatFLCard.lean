/- The law FlatLinks holds: whatever it is given, the answer is true and the arguments read as they did. No condition. -/
import Derived.Test.YtbefmbkojmlanaaGreatRows
import Derived.WalkKit
import Derived.ProofKit
import Derived.OpenShut
import Derived.Deep.DeepHandedRow
import Derived.Lib.LaidTab
import Derived.Test.YtbefmbkojmlanaaGreatFLK
import Derived.Test.YtbefmbkojmlanaaGreatFLR0
import Derived.Test.YtbefmbkojmlanaaGreatFLR1
import Derived.Test.YtbefmbkojmlanaaGreatFLR2
import Derived.Test.YtbefmbkojmlanaaGreatFLR3
import Derived.Test.YtbefmbkojmlanaaGreatFLR4
import Derived.Test.YtbefmbkojmlanaaGreatFLR5
import Derived.Test.YtbefmbkojmlanaaGreatFLR6
import Derived.Test.YtbefmbkojmlanaaGreatFLR7
import Derived.Test.YtbefmbkojmlanaaGreatFLR8
set_option linter.unusedVariables false
namespace Go.Proofs.YtbefmbkojmlanaaGreat.flatLinks
open Go.ChangeShapes Go.WideShapes Go.ChangeAt Go.RowKit Go.Proofs.YtbefmbkojmlanaaGreat.Ev
set_option maxRecDepth 100000

theorem own : ownKnob Tryz.prog.godebug = none := by kernel_rfl
theorem walks (n0 : Int) (n1 : Int) (w : World) : Calls Tryz.prog 3 #[.int .i64 n0, .int .i64 n1] w fun e w' => e = .returned (.bool true) ∧ Below w.heap.size w w' := by
  rcases dom9 n0 with ⟨c0, rfl⟩ | rfl | rfl | rfl | rfl | rfl | rfl | rfl | rfl | rfl | ⟨c0, h0, rfl⟩
  · rcases dom9 n1 with ⟨c1, rfl⟩ | rfl | rfl | rfl | rfl | rfl | rfl | rfl | rfl | rfl | ⟨c1, h1, rfl⟩
    · exact walk cfgOk (all_get (i := 1) rs19 rfl) (vrL_cons.2 ⟨by simp only [vr]; exact ⟨c0, rfl⟩, vrL_cons.2 ⟨by simp only [vr]; exact ⟨c1, rfl⟩, by simp only [vrL]⟩⟩) w
    · exact walk cfgOk (all_get (i := 2) rs19 rfl) (vrL_cons.2 ⟨by simp only [vr]; exact ⟨c0, rfl⟩, vrL_cons.2 ⟨vi _, by simp only [vrL]⟩⟩) w
    · exact walk cfgOk (all_get (i := 3) rs19 rfl) (vrL_cons.2 ⟨by simp only [vr]; exact ⟨c0, rfl⟩, vrL_cons.2 ⟨vi _, by simp only [vrL]⟩⟩) w
    · exact walk cfgOk (all_get (i := 4) rs19 rfl) (vrL_cons.2 ⟨by simp only [vr]; exact ⟨c0, rfl⟩, vrL_cons.2 ⟨vi _, by simp only [vrL]⟩⟩) w
    · exact walk cfgOk (all_get (i := 5) rs19 rfl) (vrL_cons.2 ⟨by simp only [vr]; exact ⟨c0, rfl⟩, vrL_cons.2 ⟨vi _, by simp only [vrL]⟩⟩) w
    · exact walk cfgOk (all_get (i := 6) rs19 rfl) (vrL_cons.2 ⟨by simp only [vr]; exact ⟨c0, rfl⟩, vrL_cons.2 ⟨vi _, by simp only [vrL]⟩⟩) w
    · exact walk cfgOk (all_get (i := 7) rs19 rfl) (vrL_cons.2 ⟨by simp only [vr]; exact ⟨c0, rfl⟩, vrL_cons.2 ⟨vi _, by simp only [vrL]⟩⟩) w
    · exact walk cfgOk (all_get (i := 8) rs19 rfl) (vrL_cons.2 ⟨by simp only [vr]; exact ⟨c0, rfl⟩, vrL_cons.2 ⟨vi _, by simp only [vrL]⟩⟩) w
    · exact walk cfgOk (all_get (i := 9) rs19 rfl) (vrL_cons.2 ⟨by simp only [vr]; exact ⟨c0, rfl⟩, vrL_cons.2 ⟨vi _, by simp only [vrL]⟩⟩) w
    · exact walk cfgOk (all_get (i := 10) rs19 rfl) (vrL_cons.2 ⟨by simp only [vr]; exact ⟨c0, rfl⟩, vrL_cons.2 ⟨vi _, by simp only [vrL]⟩⟩) w
    · exact walk cfgOk (all_get (i := 11) rs19 rfl) (vrL_cons.2 ⟨by simp only [vr]; exact ⟨c0, rfl⟩, vrL_cons.2 ⟨by simp only [vr]; exact ⟨c1, h1, rfl⟩, by simp only [vrL]⟩⟩) w
  · rcases dom9 n1 with ⟨c1, rfl⟩ | rfl | rfl | rfl | rfl | rfl | rfl | rfl | rfl | rfl | ⟨c1, h1, rfl⟩
    · exact walk cfgOk (all_get (i := 12) rs19 rfl) (vrL_cons.2 ⟨vi _, vrL_cons.2 ⟨by simp only [vr]; exact ⟨c1, rfl⟩, by simp only [vrL]⟩⟩) w
    · exact walk cfgOk (all_get (i := 13) rs19 rfl) (vrL_cons.2 ⟨vi _, vrL_cons.2 ⟨vi _, by simp only [vrL]⟩⟩) w
    · exact walk cfgOk (all_get (i := 14) rs19 rfl) (vrL_cons.2 ⟨vi _, vrL_cons.2 ⟨vi _, by simp only [vrL]⟩⟩) w
    · exact walk cfgOk (all_get (i := 15) rs19 rfl) (vrL_cons.2 ⟨vi _, vrL_cons.2 ⟨vi _, by simp only [vrL]⟩⟩) w
    · exact walk cfgOk (all_get (i := 16) rs19 rfl) (vrL_cons.2 ⟨vi _, vrL_cons.2 ⟨vi _, by simp only [vrL]⟩⟩) w
    · exact walk cfgOk (all_get (i := 17) rs19 rfl) (vrL_cons.2 ⟨vi _, vrL_cons.2 ⟨vi _, by simp only [vrL]⟩⟩) w
    · exact walk cfgOk (all_get (i := 18) rs19 rfl) (vrL_cons.2 ⟨vi _, vrL_cons.2 ⟨vi _, by simp only [vrL]⟩⟩) w
    · exact walk cfgOk (all_get (i := 19) rs19 rfl) (vrL_cons.2 ⟨vi _, vrL_cons.2 ⟨vi _, by simp only [vrL]⟩⟩) w
    · exact walk cfgOk (all_get (i := 20) rs19 rfl) (vrL_cons.2 ⟨vi _, vrL_cons.2 ⟨vi _, by simp only [vrL]⟩⟩) w
    · exact walk cfgOk (all_get (i := 21) rs19 rfl) (vrL_cons.2 ⟨vi _, vrL_cons.2 ⟨vi _, by simp only [vrL]⟩⟩) w
    · exact walk cfgOk (all_get (i := 22) rs19 rfl) (vrL_cons.2 ⟨vi _, vrL_cons.2 ⟨by simp only [vr]; exact ⟨c1, h1, rfl⟩, by simp only [vrL]⟩⟩) w
  · rcases dom9 n1 with ⟨c1, rfl⟩ | rfl | rfl | rfl | rfl | rfl | rfl | rfl | rfl | rfl | ⟨c1, h1, rfl⟩
    · exact walk cfgOk (all_get (i := 23) rs19 rfl) (vrL_cons.2 ⟨vi _, vrL_cons.2 ⟨by simp only [vr]; exact ⟨c1, rfl⟩, by simp only [vrL]⟩⟩) w
    · exact walk cfgOk (all_get (i := 0) rs0 rfl) (vrL_cons.2 ⟨vi _, vrL_cons.2 ⟨vi _, by simp only [vrL]⟩⟩) w
    · exact walk cfgOk (all_get (i := 1) rs0 rfl) (vrL_cons.2 ⟨vi _, vrL_cons.2 ⟨vi _, by simp only [vrL]⟩⟩) w
    · exact walk cfgOk (all_get (i := 24) rs19 rfl) (vrL_cons.2 ⟨vi _, vrL_cons.2 ⟨vi _, by simp only [vrL]⟩⟩) w
    · exact walk cfgOk (all_get (i := 25) rs19 rfl) (vrL_cons.2 ⟨vi _, vrL_cons.2 ⟨vi _, by simp only [vrL]⟩⟩) w
    · exact walk cfgOk (all_get (i := 26) rs19 rfl) (vrL_cons.2 ⟨vi _, vrL_cons.2 ⟨vi _, by simp only [vrL]⟩⟩) w
    · exact walk cfgOk (all_get (i := 27) rs19 rfl) (vrL_cons.2 ⟨vi _, vrL_cons.2 ⟨vi _, by simp only [vrL]⟩⟩) w
    · exact walk cfgOk (all_get (i := 28) rs19 rfl) (vrL_cons.2 ⟨vi _, vrL_cons.2 ⟨vi _, by simp only [vrL]⟩⟩) w
    · exact walk cfgOk (all_get (i := 29) rs19 rfl) (vrL_cons.2 ⟨vi _, vrL_cons.2 ⟨vi _, by simp only [vrL]⟩⟩) w
    · exact walk cfgOk (all_get (i := 30) rs19 rfl) (vrL_cons.2 ⟨vi _, vrL_cons.2 ⟨vi _, by simp only [vrL]⟩⟩) w
    · exact walk cfgOk (all_get (i := 31) rs19 rfl) (vrL_cons.2 ⟨vi _, vrL_cons.2 ⟨by simp only [vr]; exact ⟨c1, h1, rfl⟩, by simp only [vrL]⟩⟩) w
  · rcases dom9 n1 with ⟨c1, rfl⟩ | rfl | rfl | rfl | rfl | rfl | rfl | rfl | rfl | rfl | ⟨c1, h1, rfl⟩
    · exact walk cfgOk (all_get (i := 32) rs19 rfl) (vrL_cons.2 ⟨vi _, vrL_cons.2 ⟨by simp only [vr]; exact ⟨c1, rfl⟩, by simp only [vrL]⟩⟩) w
    · exact walk cfgOk (all_get (i := 2) rs0 rfl) (vrL_cons.2 ⟨vi _, vrL_cons.2 ⟨vi _, by simp only [vrL]⟩⟩) w
    · exact walk cfgOk (all_get (i := 3) rs0 rfl) (vrL_cons.2 ⟨vi _, vrL_cons.2 ⟨vi _, by simp only [vrL]⟩⟩) w
    · exact walk cfgOk (all_get (i := 4) rs0 rfl) (vrL_cons.2 ⟨vi _, vrL_cons.2 ⟨vi _, by simp only [vrL]⟩⟩) w
    · exact walk cfgOk (all_get (i := 33) rs19 rfl) (vrL_cons.2 ⟨vi _, vrL_cons.2 ⟨vi _, by simp only [vrL]⟩⟩) w
    · exact walk cfgOk (all_get (i := 34) rs19 rfl) (vrL_cons.2 ⟨vi _, vrL_cons.2 ⟨vi _, by simp only [vrL]⟩⟩) w
    · exact walk cfgOk (all_get (i := 35) rs19 rfl) (vrL_cons.2 ⟨vi _, vrL_cons.2 ⟨vi _, by simp only [vrL]⟩⟩) w
    · exact walk cfgOk (all_get (i := 36) rs19 rfl) (vrL_cons.2 ⟨vi _, vrL_cons.2 ⟨vi _, by simp only [vrL]⟩⟩) w
    · exact walk cfgOk (all_get (i := 37) rs19 rfl) (vrL_cons.2 ⟨vi _, vrL_cons.2 ⟨vi _, by simp only [vrL]⟩⟩) w
    · exact walk cfgOk (all_get (i := 38) rs19 rfl) (vrL_cons.2 ⟨vi _, vrL_cons.2 ⟨vi _, by simp only [vrL]⟩⟩) w
    · exact walk cfgOk (all_get (i := 39) rs19 rfl) (vrL_cons.2 ⟨vi _, vrL_cons.2 ⟨by simp only [vr]; exact ⟨c1, h1, rfl⟩, by simp only [vrL]⟩⟩) w
  · rcases dom9 n1 with ⟨c1, rfl⟩ | rfl | rfl | rfl | rfl | rfl | rfl | rfl | rfl | rfl | ⟨c1, h1, rfl⟩
    · exact walk cfgOk (all_get (i := 40) rs19 rfl) (vrL_cons.2 ⟨vi _, vrL_cons.2 ⟨by simp only [vr]; exact ⟨c1, rfl⟩, by simp only [vrL]⟩⟩) w
    · exact walk cfgOk (all_get (i := 5) rs0 rfl) (vrL_cons.2 ⟨vi _, vrL_cons.2 ⟨vi _, by simp only [vrL]⟩⟩) w
    · exact walk cfgOk (all_get (i := 6) rs0 rfl) (vrL_cons.2 ⟨vi _, vrL_cons.2 ⟨vi _, by simp only [vrL]⟩⟩) w
    · exact walk cfgOk (all_get (i := 0) rs1 rfl) (vrL_cons.2 ⟨vi _, vrL_cons.2 ⟨vi _, by simp only [vrL]⟩⟩) w
    · exact walk cfgOk (all_get (i := 1) rs1 rfl) (vrL_cons.2 ⟨vi _, vrL_cons.2 ⟨vi _, by simp only [vrL]⟩⟩) w
    · exact walk cfgOk (all_get (i := 41) rs19 rfl) (vrL_cons.2 ⟨vi _, vrL_cons.2 ⟨vi _, by simp only [vrL]⟩⟩) w
    · exact walk cfgOk (all_get (i := 42) rs19 rfl) (vrL_cons.2 ⟨vi _, vrL_cons.2 ⟨vi _, by simp only [vrL]⟩⟩) w
    · exact walk cfgOk (all_get (i := 43) rs19 rfl) (vrL_cons.2 ⟨vi _, vrL_cons.2 ⟨vi _, by simp only [vrL]⟩⟩) w
    · exact walk cfgOk (all_get (i := 44) rs19 rfl) (vrL_cons.2 ⟨vi _, vrL_cons.2 ⟨vi _, by simp only [vrL]⟩⟩) w
    · exact walk cfgOk (all_get (i := 45) rs19 rfl) (vrL_cons.2 ⟨vi _, vrL_cons.2 ⟨vi _, by simp only [vrL]⟩⟩) w
    · exact walk cfgOk (all_get (i := 46) rs19 rfl) (vrL_cons.2 ⟨vi _, vrL_cons.2 ⟨by simp only [vr]; exact ⟨c1, h1, rfl⟩, by simp only [vrL]⟩⟩) w
  · rcases dom9 n1 with ⟨c1, rfl⟩ | rfl | rfl | rfl | rfl | rfl | rfl | rfl | rfl | rfl | ⟨c1, h1, rfl⟩
    · exact walk cfgOk (all_get (i := 47) rs19 rfl) (vrL_cons.2 ⟨vi _, vrL_cons.2 ⟨by simp only [vr]; exact ⟨c1, rfl⟩, by simp only [vrL]⟩⟩) w
    · exact walk cfgOk (all_get (i := 2) rs1 rfl) (vrL_cons.2 ⟨vi _, vrL_cons.2 ⟨vi _, by simp only [vrL]⟩⟩) w
    · exact walk cfgOk (all_get (i := 3) rs1 rfl) (vrL_cons.2 ⟨vi _, vrL_cons.2 ⟨vi _, by simp only [vrL]⟩⟩) w
    · exact walk cfgOk (all_get (i := 4) rs1 rfl) (vrL_cons.2 ⟨vi _, vrL_cons.2 ⟨vi _, by simp only [vrL]⟩⟩) w
    · exact walk cfgOk (all_get (i := 0) rs2 rfl) (vrL_cons.2 ⟨vi _, vrL_cons.2 ⟨vi _, by simp only [vrL]⟩⟩) w
    · exact walk cfgOk (all_get (i := 1) rs2 rfl) (vrL_cons.2 ⟨vi _, vrL_cons.2 ⟨vi _, by simp only [vrL]⟩⟩) w
    · exact walk cfgOk (all_get (i := 48) rs19 rfl) (vrL_cons.2 ⟨vi _, vrL_cons.2 ⟨vi _, by simp only [vrL]⟩⟩) w
    · exact walk cfgOk (all_get (i := 49) rs19 rfl) (vrL_cons.2 ⟨vi _, vrL_cons.2 ⟨vi _, by simp only [vrL]⟩⟩) w
    · exact walk cfgOk (all_get (i := 50) rs19 rfl) (vrL_cons.2 ⟨vi _, vrL_cons.2 ⟨vi _, by simp only [vrL]⟩⟩) w
    · exact walk cfgOk (all_get (i := 51) rs19 rfl) (vrL_cons.2 ⟨vi _, vrL_cons.2 ⟨vi _, by simp only [vrL]⟩⟩) w
    · exact walk cfgOk (all_get (i := 52) rs19 rfl) (vrL_cons.2 ⟨vi _, vrL_cons.2 ⟨by simp only [vr]; exact ⟨c1, h1, rfl⟩, by simp only [vrL]⟩⟩) w
  · rcases dom9 n1 with ⟨c1, rfl⟩ | rfl | rfl | rfl | rfl | rfl | rfl | rfl | rfl | rfl | ⟨c1, h1, rfl⟩
    · exact walk cfgOk (all_get (i := 53) rs19 rfl) (vrL_cons.2 ⟨vi _, vrL_cons.2 ⟨by simp only [vr]; exact ⟨c1, rfl⟩, by simp only [vrL]⟩⟩) w
    · exact walk cfgOk (all_get (i := 2) rs2 rfl) (vrL_cons.2 ⟨vi _, vrL_cons.2 ⟨vi _, by simp only [vrL]⟩⟩) w
    · exact walk cfgOk (all_get (i := 0) rs3 rfl) (vrL_cons.2 ⟨vi _, vrL_cons.2 ⟨vi _, by simp only [vrL]⟩⟩) w
    · exact walk cfgOk (all_get (i := 1) rs3 rfl) (vrL_cons.2 ⟨vi _, vrL_cons.2 ⟨vi _, by simp only [vrL]⟩⟩) w
    · exact walk cfgOk (all_get (i := 2) rs3 rfl) (vrL_cons.2 ⟨vi _, vrL_cons.2 ⟨vi _, by simp only [vrL]⟩⟩) w
    · exact walk cfgOk (all_get (i := 0) rs4 rfl) (vrL_cons.2 ⟨vi _, vrL_cons.2 ⟨vi _, by simp only [vrL]⟩⟩) w
    · exact walk cfgOk (all_get (i := 1) rs4 rfl) (vrL_cons.2 ⟨vi _, vrL_cons.2 ⟨vi _, by simp only [vrL]⟩⟩) w
    · exact walk cfgOk (all_get (i := 54) rs19 rfl) (vrL_cons.2 ⟨vi _, vrL_cons.2 ⟨vi _, by simp only [vrL]⟩⟩) w
    · exact walk cfgOk (all_get (i := 55) rs19 rfl) (vrL_cons.2 ⟨vi _, vrL_cons.2 ⟨vi _, by simp only [vrL]⟩⟩) w
    · exact walk cfgOk (all_get (i := 56) rs19 rfl) (vrL_cons.2 ⟨vi _, vrL_cons.2 ⟨vi _, by simp only [vrL]⟩⟩) w
    · exact walk cfgOk (all_get (i := 57) rs19 rfl) (vrL_cons.2 ⟨vi _, vrL_cons.2 ⟨by simp only [vr]; exact ⟨c1, h1, rfl⟩, by simp only [vrL]⟩⟩) w
  · rcases dom9 n1 with ⟨c1, rfl⟩ | rfl | rfl | rfl | rfl | rfl | rfl | rfl | rfl | rfl | ⟨c1, h1, rfl⟩
    · exact walk cfgOk (all_get (i := 58) rs19 rfl) (vrL_cons.2 ⟨vi _, vrL_cons.2 ⟨by simp only [vr]; exact ⟨c1, rfl⟩, by simp only [vrL]⟩⟩) w
    · exact walk cfgOk (all_get (i := 2) rs4 rfl) (vrL_cons.2 ⟨vi _, vrL_cons.2 ⟨vi _, by simp only [vrL]⟩⟩) w
    · exact walk cfgOk (all_get (i := 0) rs5 rfl) (vrL_cons.2 ⟨vi _, vrL_cons.2 ⟨vi _, by simp only [vrL]⟩⟩) w
    · exact walk cfgOk (all_get (i := 1) rs5 rfl) (vrL_cons.2 ⟨vi _, vrL_cons.2 ⟨vi _, by simp only [vrL]⟩⟩) w
    · exact walk cfgOk (all_get (i := 0) rs6 rfl) (vrL_cons.2 ⟨vi _, vrL_cons.2 ⟨vi _, by simp only [vrL]⟩⟩) w
    · exact walk cfgOk (all_get (i := 1) rs6 rfl) (vrL_cons.2 ⟨vi _, vrL_cons.2 ⟨vi _, by simp only [vrL]⟩⟩) w
    · exact walk cfgOk (all_get (i := 0) rs7 rfl) (vrL_cons.2 ⟨vi _, vrL_cons.2 ⟨vi _, by simp only [vrL]⟩⟩) w
    · exact walk cfgOk (all_get (i := 1) rs7 rfl) (vrL_cons.2 ⟨vi _, vrL_cons.2 ⟨vi _, by simp only [vrL]⟩⟩) w
    · exact walk cfgOk (all_get (i := 59) rs19 rfl) (vrL_cons.2 ⟨vi _, vrL_cons.2 ⟨vi _, by simp only [vrL]⟩⟩) w
    · exact walk cfgOk (all_get (i := 60) rs19 rfl) (vrL_cons.2 ⟨vi _, vrL_cons.2 ⟨vi _, by simp only [vrL]⟩⟩) w
    · exact walk cfgOk (all_get (i := 61) rs19 rfl) (vrL_cons.2 ⟨vi _, vrL_cons.2 ⟨by simp only [vr]; exact ⟨c1, h1, rfl⟩, by simp only [vrL]⟩⟩) w
  · rcases dom9 n1 with ⟨c1, rfl⟩ | rfl | rfl | rfl | rfl | rfl | rfl | rfl | rfl | rfl | ⟨c1, h1, rfl⟩
    · exact walk cfgOk (all_get (i := 62) rs19 rfl) (vrL_cons.2 ⟨vi _, vrL_cons.2 ⟨by simp only [vr]; exact ⟨c1, rfl⟩, by simp only [vrL]⟩⟩) w
    · exact walk cfgOk (all_get (i := 0) rs8 rfl) (vrL_cons.2 ⟨vi _, vrL_cons.2 ⟨vi _, by simp only [vrL]⟩⟩) w
    · exact walk cfgOk (all_get (i := 1) rs8 rfl) (vrL_cons.2 ⟨vi _, vrL_cons.2 ⟨vi _, by simp only [vrL]⟩⟩) w
    · exact walk cfgOk (all_get (i := 0) rs9 rfl) (vrL_cons.2 ⟨vi _, vrL_cons.2 ⟨vi _, by simp only [vrL]⟩⟩) w
    · exact walk cfgOk (all_get (i := 1) rs9 rfl) (vrL_cons.2 ⟨vi _, vrL_cons.2 ⟨vi _, by simp only [vrL]⟩⟩) w
    · exact walk cfgOk (all_get (i := 0) rs10 rfl) (vrL_cons.2 ⟨vi _, vrL_cons.2 ⟨vi _, by simp only [vrL]⟩⟩) w
    · exact walk cfgOk (all_get (i := 1) rs10 rfl) (vrL_cons.2 ⟨vi _, vrL_cons.2 ⟨vi _, by simp only [vrL]⟩⟩) w
    · exact walk cfgOk (all_get (i := 0) rs11 rfl) (vrL_cons.2 ⟨vi _, vrL_cons.2 ⟨vi _, by simp only [vrL]⟩⟩) w
    · exact walk cfgOk (all_get (i := 1) rs11 rfl) (vrL_cons.2 ⟨vi _, vrL_cons.2 ⟨vi _, by simp only [vrL]⟩⟩) w
    · exact walk cfgOk (all_get (i := 63) rs19 rfl) (vrL_cons.2 ⟨vi _, vrL_cons.2 ⟨vi _, by simp only [vrL]⟩⟩) w
    · exact walk cfgOk (all_get (i := 64) rs19 rfl) (vrL_cons.2 ⟨vi _, vrL_cons.2 ⟨by simp only [vr]; exact ⟨c1, h1, rfl⟩, by simp only [vrL]⟩⟩) w
  · rcases dom9 n1 with ⟨c1, rfl⟩ | rfl | rfl | rfl | rfl | rfl | rfl | rfl | rfl | rfl | ⟨c1, h1, rfl⟩
    · exact walk cfgOk (all_get (i := 65) rs19 rfl) (vrL_cons.2 ⟨vi _, vrL_cons.2 ⟨by simp only [vr]; exact ⟨c1, rfl⟩, by simp only [vrL]⟩⟩) w
    · exact walk cfgOk (all_get (i := 0) rs12 rfl) (vrL_cons.2 ⟨vi _, vrL_cons.2 ⟨vi _, by simp only [vrL]⟩⟩) w
    · exact walk cfgOk (all_get (i := 1) rs12 rfl) (vrL_cons.2 ⟨vi _, vrL_cons.2 ⟨vi _, by simp only [vrL]⟩⟩) w
    · exact walk cfgOk (all_get (i := 0) rs13 rfl) (vrL_cons.2 ⟨vi _, vrL_cons.2 ⟨vi _, by simp only [vrL]⟩⟩) w
    · exact walk cfgOk (all_get (i := 0) rs14 rfl) (vrL_cons.2 ⟨vi _, vrL_cons.2 ⟨vi _, by simp only [vrL]⟩⟩) w
    · exact walk cfgOk (all_get (i := 0) rs15 rfl) (vrL_cons.2 ⟨vi _, vrL_cons.2 ⟨vi _, by simp only [vrL]⟩⟩) w
    · exact walk cfgOk (all_get (i := 0) rs16 rfl) (vrL_cons.2 ⟨vi _, vrL_cons.2 ⟨vi _, by simp only [vrL]⟩⟩) w
    · exact walk cfgOk (all_get (i := 0) rs17 rfl) (vrL_cons.2 ⟨vi _, vrL_cons.2 ⟨vi _, by simp only [vrL]⟩⟩) w
    · exact walk cfgOk (all_get (i := 0) rs18 rfl) (vrL_cons.2 ⟨vi _, vrL_cons.2 ⟨vi _, by simp only [vrL]⟩⟩) w
    · exact walk cfgOk (all_get (i := 0) rs19 rfl) (vrL_cons.2 ⟨vi _, vrL_cons.2 ⟨vi _, by simp only [vrL]⟩⟩) w
    · exact walk cfgOk (all_get (i := 66) rs19 rfl) (vrL_cons.2 ⟨vi _, vrL_cons.2 ⟨by simp only [vr]; exact ⟨c1, h1, rfl⟩, by simp only [vrL]⟩⟩) w
  · rcases dom9 n1 with ⟨c1, rfl⟩ | rfl | rfl | rfl | rfl | rfl | rfl | rfl | rfl | rfl | ⟨c1, h1, rfl⟩
    · exact walk cfgOk (all_get (i := 67) rs19 rfl) (vrL_cons.2 ⟨by simp only [vr]; exact ⟨c0, h0, rfl⟩, vrL_cons.2 ⟨by simp only [vr]; exact ⟨c1, rfl⟩, by simp only [vrL]⟩⟩) w
    · exact walk cfgOk (all_get (i := 68) rs19 rfl) (vrL_cons.2 ⟨by simp only [vr]; exact ⟨c0, h0, rfl⟩, vrL_cons.2 ⟨vi _, by simp only [vrL]⟩⟩) w
    · exact walk cfgOk (all_get (i := 69) rs19 rfl) (vrL_cons.2 ⟨by simp only [vr]; exact ⟨c0, h0, rfl⟩, vrL_cons.2 ⟨vi _, by simp only [vrL]⟩⟩) w
    · exact walk cfgOk (all_get (i := 70) rs19 rfl) (vrL_cons.2 ⟨by simp only [vr]; exact ⟨c0, h0, rfl⟩, vrL_cons.2 ⟨vi _, by simp only [vrL]⟩⟩) w
    · exact walk cfgOk (all_get (i := 71) rs19 rfl) (vrL_cons.2 ⟨by simp only [vr]; exact ⟨c0, h0, rfl⟩, vrL_cons.2 ⟨vi _, by simp only [vrL]⟩⟩) w
    · exact walk cfgOk (all_get (i := 72) rs19 rfl) (vrL_cons.2 ⟨by simp only [vr]; exact ⟨c0, h0, rfl⟩, vrL_cons.2 ⟨vi _, by simp only [vrL]⟩⟩) w
    · exact walk cfgOk (all_get (i := 73) rs19 rfl) (vrL_cons.2 ⟨by simp only [vr]; exact ⟨c0, h0, rfl⟩, vrL_cons.2 ⟨vi _, by simp only [vrL]⟩⟩) w
    · exact walk cfgOk (all_get (i := 74) rs19 rfl) (vrL_cons.2 ⟨by simp only [vr]; exact ⟨c0, h0, rfl⟩, vrL_cons.2 ⟨vi _, by simp only [vrL]⟩⟩) w
    · exact walk cfgOk (all_get (i := 75) rs19 rfl) (vrL_cons.2 ⟨by simp only [vr]; exact ⟨c0, h0, rfl⟩, vrL_cons.2 ⟨vi _, by simp only [vrL]⟩⟩) w
    · exact walk cfgOk (all_get (i := 76) rs19 rfl) (vrL_cons.2 ⟨by simp only [vr]; exact ⟨c0, h0, rfl⟩, vrL_cons.2 ⟨vi _, by simp only [vrL]⟩⟩) w
    · exact walk cfgOk (all_get (i := 77) rs19 rfl) (vrL_cons.2 ⟨by simp only [vr]; exact ⟨c0, h0, rfl⟩, vrL_cons.2 ⟨by simp only [vr]; exact ⟨c1, h1, rfl⟩, by simp only [vrL]⟩⟩) w

/-! ## the statement -/
/-- where nothing that the argument names lies in memory -/
theorem post_plain {H : Type} {enc : TypeId × Value → H} {P : Program} {f : Func} {s : ChangeSpec} {fresh handsOn again : Bool} {W W' : World} {args : Array Value} {v : Value} {ds gs : List (DataW H)}
    (hW : DataW.Whole enc P f.params.toList s.vars false W args.toList ds gs [])
    (hres : ∀ (b : Nat) (sp : Nat → Bool) (hd : Bool), DataW.TrodAll enc P W' b sp hd f.resultTypes.toList (v.resultList f.resultTypes.size) (s.fn H (ds ++ gs)).results [])
    (hargs : ∀ sp : Nat → Bool, DataW.TrodAll enc P W' 0 sp true f.params.toList args.toList (s.fn H (ds ++ gs)).args [])
    (hvars : ∀ sp : Nat → Bool, DataW.TrodVars enc P W' sp s.vars (s.fn H (ds ++ gs)).vars []) (hk : W.keptBut W' (· ∈ ([] : List MemPlace)))
    (hok : ∀ (j : Nat) (t : TypeId) (r : Value), f.resultTypes[j]? = some t → (v.resultList f.resultTypes.size)[j]? = some r → Value.okWide P W' .any 0 t r) :
    s.post enc P f false fresh handsOn again W args v W' := by
  refine ⟨ds, gs, [], [], [], [], hW, hres _ _ _, hargs _, hvars _, World.keptBut_mono (fun p hp => by cases hp) hk, fun _ => ?_⟩
  refine ⟨hok, _, _, ([] ++ []) ++ [], ⟨[] ++ [], [], trodAll_append (hargs _) (hres _ _ _), hvars _, rfl, fun b off hp => by simp at hp, fun ha => by simp⟩, fun p hp _ => by simp at hp⟩

theorem contract (H : Type) (enc : TypeId × Value → H) (W : World) (base : Nat) (args : Array Value) (ds gs : List (DataW H)) (before : List MemPlace)
    (hval : ∀ (j : Nat) t v, Tryz.f3.params[j]? = some t → args[j]? = some v → Value.okWide Tryz.prog W .any base t v)
    (hW : DataW.Whole enc Tryz.prog Tryz.f3.params.toList Rows.flatLinksSpec.vars false W args.toList ds gs before) :
    Calls Tryz.prog 3 args W fun e W' => ∃ v, e = .returned v ∧ Rows.flatLinksSpec.post enc Tryz.prog Tryz.f3 false true false false W args v W' := by
  have hW' := hW
  obtain ⟨p, q, hA0, hV, rfl, hfz, hnd⟩ := hW
  have hA : DataW.TrodAll enc Tryz.prog W 0 (fun _ => true) true Tryz.f3.params.toList args.toList ds p := hA0
  rw [Tryz.params3] at hA hval
  obtain ⟨v0, vs0, d0, ds0, p0, q0, ha0, rfl, rfl, h0, r0⟩ := trodAll_cons hA
  obtain ⟨v1, vs1, d1, ds1, p1, q1, ha1, rfl, rfl, h1, r1⟩ := trodAll_cons r0
  obtain ⟨rfl, rfl, rfl⟩ := trodAll_nil r1
  obtain rfl : args = #[v0, v1] := by cases args; simp_all
  obtain ⟨rfl, rfl⟩ := trodVars_none hV
  obtain ⟨n0, rfl, rfl, rfl, hwf0⟩ := open_int Tryz.underlying3 (hval 0 3 v0 rfl rfl) h0
  obtain ⟨n1, rfl, rfl, rfl, hwf1⟩ := open_int Tryz.underlying3 (hval 1 3 v1 rfl rfl) h1
  clear hA0
  simp only [List.append_nil] at hW'
  refine (walks n0 n1 W).mono fun e W' ⟨he, hg⟩ => ?_
  subst he
  exact ⟨_, rfl, post_plain hW' (fun _ _ _ => trodAll_cons_mk (shut_bool Tryz.underlying4 _) trodAll_mk0) (fun _ => trodAll_cons_mk (shut_int Tryz.underlying3 hwf0) (trodAll_cons_mk (shut_int Tryz.underlying3 hwf1) trodAll_mk0)) (fun _ => rfl)
    (hg.frame _) (ok_one (by kernel_rfl) rfl (okWide_bool_mk Tryz.underlying4 _))⟩

/-- A WORLD FOR THE WITNESS: the settled one, the listed tables holding what the text lays. -/
noncomputable def laidWorld (os : Os) : World :=
  World.holding Tryz.prog os ⟨#[], #[], []⟩
theorem laid_met (os : Os) : laidMet Tryz.prog Rows.flatLinksRow.laid ((laidWorld os).forCall (fun _ _ => 0) ⟨#[], #[.int .i64 0, .int .i64 0], []⟩).memory :=
  laidMet_of_run' 8 (by kernel_rfl) (by kernel_rfl)
theorem reads (os : Os) {H : Type} (enc : TypeId × Value → H) : ∃ places, DataW.whole enc Tryz.prog ((laidWorld os).forCall (fun _ _ => 0) ⟨#[], #[.int .i64 0, .int .i64 0], []⟩).memory Tryz.f3.params.toList Rows.flatLinksSpec.vars false #[Value.int .i64 0, .int .i64 0].toList 8 = some ([.lit (.int .i64 0), .lit (.int .i64 0)], [], places) :=
  ⟨[], by kernel_rfl⟩
theorem lifted (os : Os) (started : os.Started) (H : Type) (enc : TypeId × Value → H) (F : Stop.Interp) :
    ReturnsInHanded {} Tryz.checked os 3 .any ((OpenSpec.ofChange Rows.flatLinksSpec).preRow enc Tryz.prog Tryz.f3 Rows.flatLinksRow.domain false Rows.flatLinksRow.laid) (((OpenSpec.ofChange Rows.flatLinksSpec).at F).post enc Tryz.prog Tryz.f3 false true false false) := by
  obtain ⟨places, hx⟩ := reads os enc
  refine returnsInHanded_of_row (C := Tryz.checked) (s := OpenSpec.ofChange Rows.flatLinksSpec) own started (by kernel_rfl) Tryz.func3
    (witness_row_at (enc := enc) (C := Tryz.checked) false (laidWorld os) #[.int .i64 0, .int .i64 0] rfl (by kernel_rfl) (by kernel_rfl) (by kernel_rfl)
      (OpenSpec.preRow_of_cond 8 hx (by kernel_rfl) (fun k hk => by cases hk) (by kernel_rfl) (laid_met os))) ?_
  intro W base args ds gs before hval hW _ _ _ hL _ _
  exact contract H enc W base args ds gs before hval hW
set_option maxHeartbeats 4000000 in
theorem closedFacts : joinedFacts Tryz.prog 3 Tryz.f3 (OpenSpec.ofChange Rows.flatLinksSpec).bare Rows.flatLinksRow = true := by
  unfold joinedFacts
  simp only [Bool.and_eq_true]
  and_intros
  all_goals (as_aux_lemma => kernel_rfl)
set_option maxHeartbeats 4000000 in
theorem said : Rows.FlatLinksSaid :=
  OpenClaim.holds_of_cond 3 Tryz.f3 rfl rfl rfl rfl rfl rfl rfl ⟨rfl, rfl, rfl, rfl, rfl⟩ rfl rfl rfl rfl rfl (by as_aux_lemma => kernel_rfl) Tryz.func3 closedFacts
    (of_decide_eq_true (by as_aux_lemma => kernel_rfl)) (by unfold Func.isWrapper; first | (rw [if_pos (by decide +kernel)]; as_aux_lemma => kernel_rfl) | (rw [if_neg (by decide +kernel)]; exact ⟨rfl, rfl⟩))
    (fun os started H enc _ F => by rw [OpenClaim.pre_eq_preRow]; exact lifted os started H enc F)
end Go.Proofs.YtbefmbkojmlanaaGreat.flatLinks
