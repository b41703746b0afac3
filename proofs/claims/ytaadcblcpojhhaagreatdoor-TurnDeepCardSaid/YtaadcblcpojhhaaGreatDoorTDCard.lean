/- The law TurnDeep holds: directories in directories, on both branches, go under another name with all that is seen in them, and nothing that is not; whatever it is given, the answer is true and the arguments read as they did. The condition is the given one (its listed tables are laid as the program's text lays them), and nothing else. -/
import Derived.WalkKit
import Derived.ProofKit
import Derived.OpenShut
import Derived.Deep.DeepHandedRow
import Derived.Lib.LaidTab
import Derived.Test.YtaadcblcpojhhaaGreatDoorTDC1
import Derived.Test.YtaadcblcpojhhaaGreatDoorTDT
set_option linter.unusedVariables false
namespace Go.Proofs.YtaadcblcpojhhaaGreatDoor.turnDeep
open Go.ChangeShapes Go.WideShapes Go.ChangeAt Go.RowKit Go.Proofs.YtaadcblcpojhhaaGreatDoor.Ev
set_option maxRecDepth 100000

theorem walks (n0 : Int) (b1 : Bool) (b2 : Bool) (w : World) : Calls Tryz.prog 3 #[.int .i64 n0, .bool b1, .bool b2] w fun e w' => e = .returned (.bool true) ∧ Below w.heap.size w w' := by
  rcases dom4 n0 with ⟨c0, rfl⟩ | rfl | rfl | rfl | rfl | ⟨c0, h0, rfl⟩
  · cases b1 with
    | false =>
      cases b2 with
      | false =>
        exact walk cfgOk (all_get (i := 3) rs12 rfl) (vrL_cons.2 ⟨by simp only [vr]; exact ⟨c0, rfl⟩, vrL_cons.2 ⟨vb _, vrL_cons.2 ⟨vb _, by simp only [vrL]⟩⟩⟩) w
      | true =>
        exact walk cfgOk (all_get (i := 2) rs12 rfl) (vrL_cons.2 ⟨by simp only [vr]; exact ⟨c0, rfl⟩, vrL_cons.2 ⟨vb _, vrL_cons.2 ⟨vb _, by simp only [vrL]⟩⟩⟩) w
    | true =>
      cases b2 with
      | false =>
        exact walk cfgOk (all_get (i := 1) rs12 rfl) (vrL_cons.2 ⟨by simp only [vr]; exact ⟨c0, rfl⟩, vrL_cons.2 ⟨vb _, vrL_cons.2 ⟨vb _, by simp only [vrL]⟩⟩⟩) w
      | true =>
        exact walk cfgOk (all_get (i := 0) rs12 rfl) (vrL_cons.2 ⟨by simp only [vr]; exact ⟨c0, rfl⟩, vrL_cons.2 ⟨vb _, vrL_cons.2 ⟨vb _, by simp only [vrL]⟩⟩⟩) w
  · cases b1 with
    | false =>
      cases b2 with
      | false =>
        exact walk cfgOk (all_get (i := 7) rs12 rfl) (vrL_cons.2 ⟨vi _, vrL_cons.2 ⟨vb _, vrL_cons.2 ⟨vb _, by simp only [vrL]⟩⟩⟩) w
      | true =>
        exact walk cfgOk (all_get (i := 6) rs12 rfl) (vrL_cons.2 ⟨vi _, vrL_cons.2 ⟨vb _, vrL_cons.2 ⟨vb _, by simp only [vrL]⟩⟩⟩) w
    | true =>
      cases b2 with
      | false =>
        exact walk cfgOk (all_get (i := 5) rs12 rfl) (vrL_cons.2 ⟨vi _, vrL_cons.2 ⟨vb _, vrL_cons.2 ⟨vb _, by simp only [vrL]⟩⟩⟩) w
      | true =>
        exact walk cfgOk (all_get (i := 4) rs12 rfl) (vrL_cons.2 ⟨vi _, vrL_cons.2 ⟨vb _, vrL_cons.2 ⟨vb _, by simp only [vrL]⟩⟩⟩) w
  · cases b1 with
    | false =>
      cases b2 with
      | false =>
        exact walkG okR3 run3 (vrL_cons.2 ⟨vi _, vrL_cons.2 ⟨vb _, vrL_cons.2 ⟨vb _, by simp only [vrL]⟩⟩⟩) w
      | true =>
        exact walkG okR2 run2 (vrL_cons.2 ⟨vi _, vrL_cons.2 ⟨vb _, vrL_cons.2 ⟨vb _, by simp only [vrL]⟩⟩⟩) w
    | true =>
      cases b2 with
      | false =>
        exact walkG okR1 run1 (vrL_cons.2 ⟨vi _, vrL_cons.2 ⟨vb _, vrL_cons.2 ⟨vb _, by simp only [vrL]⟩⟩⟩) w
      | true =>
        exact walkG okR0 run0 (vrL_cons.2 ⟨vi _, vrL_cons.2 ⟨vb _, vrL_cons.2 ⟨vb _, by simp only [vrL]⟩⟩⟩) w
  · cases b1 with
    | false =>
      cases b2 with
      | false =>
        exact walkG okR7 run7 (vrL_cons.2 ⟨vi _, vrL_cons.2 ⟨vb _, vrL_cons.2 ⟨vb _, by simp only [vrL]⟩⟩⟩) w
      | true =>
        exact walkG okR6 run6 (vrL_cons.2 ⟨vi _, vrL_cons.2 ⟨vb _, vrL_cons.2 ⟨vb _, by simp only [vrL]⟩⟩⟩) w
    | true =>
      cases b2 with
      | false =>
        exact walkG okR5 run5 (vrL_cons.2 ⟨vi _, vrL_cons.2 ⟨vb _, vrL_cons.2 ⟨vb _, by simp only [vrL]⟩⟩⟩) w
      | true =>
        exact walkG okR4 run4 (vrL_cons.2 ⟨vi _, vrL_cons.2 ⟨vb _, vrL_cons.2 ⟨vb _, by simp only [vrL]⟩⟩⟩) w
  · cases b1 with
    | false =>
      cases b2 with
      | false =>
        exact walkG okR11 run11 (vrL_cons.2 ⟨vi _, vrL_cons.2 ⟨vb _, vrL_cons.2 ⟨vb _, by simp only [vrL]⟩⟩⟩) w
      | true =>
        exact walkG okR10 run10 (vrL_cons.2 ⟨vi _, vrL_cons.2 ⟨vb _, vrL_cons.2 ⟨vb _, by simp only [vrL]⟩⟩⟩) w
    | true =>
      cases b2 with
      | false =>
        exact walkG okR9 run9 (vrL_cons.2 ⟨vi _, vrL_cons.2 ⟨vb _, vrL_cons.2 ⟨vb _, by simp only [vrL]⟩⟩⟩) w
      | true =>
        exact walkG okR8 run8 (vrL_cons.2 ⟨vi _, vrL_cons.2 ⟨vb _, vrL_cons.2 ⟨vb _, by simp only [vrL]⟩⟩⟩) w
  · cases b1 with
    | false =>
      cases b2 with
      | false =>
        exact walk cfgOk (all_get (i := 11) rs12 rfl) (vrL_cons.2 ⟨by simp only [vr]; exact ⟨c0, h0, rfl⟩, vrL_cons.2 ⟨vb _, vrL_cons.2 ⟨vb _, by simp only [vrL]⟩⟩⟩) w
      | true =>
        exact walk cfgOk (all_get (i := 10) rs12 rfl) (vrL_cons.2 ⟨by simp only [vr]; exact ⟨c0, h0, rfl⟩, vrL_cons.2 ⟨vb _, vrL_cons.2 ⟨vb _, by simp only [vrL]⟩⟩⟩) w
    | true =>
      cases b2 with
      | false =>
        exact walk cfgOk (all_get (i := 9) rs12 rfl) (vrL_cons.2 ⟨by simp only [vr]; exact ⟨c0, h0, rfl⟩, vrL_cons.2 ⟨vb _, vrL_cons.2 ⟨vb _, by simp only [vrL]⟩⟩⟩) w
      | true =>
        exact walk cfgOk (all_get (i := 8) rs12 rfl) (vrL_cons.2 ⟨by simp only [vr]; exact ⟨c0, h0, rfl⟩, vrL_cons.2 ⟨vb _, vrL_cons.2 ⟨vb _, by simp only [vrL]⟩⟩⟩) w

theorem card : Rows.TurnDeepCardSaid := cardOf fun n0 b1 b2 w => walks n0 b1 b2 w
end Go.Proofs.YtaadcblcpojhhaaGreatDoor.turnDeep
