import Derived.Test.YtaeakifdamlnlaaDoorMK8
import Derived.Deep.DeepMust
set_option linter.unusedVariables false
set_option linter.unusedSimpArgs false
set_option maxRecDepth 100000
namespace Go.Proofs.YtaeakifdamlnlaaDoor.markSigns
open Go.RowKit Go.Proofs.YtaeakifdamlnlaaDoor.Ev
set_option maxHeartbeats 400000 in
/-- a name that is too long: nothing is said -/
theorem longer1 (name other : ByteArray) (hn : name.size ≤ 9223372036854775807) (ho : other.size ≤ 9223372036854775807) (hl : 20 < name.size) (w : World) :
    Calls Tryd.prog 4 #[.string name, .string other] w fun e w' => e = .returned (.bool true) ∧ Below w.heap.size w w' := by
  have h16n := fun W => named name hn W
  have h16o := fun W => named other ho W
  have l1 : 20 < (name.size : Int) := by omega
  have l2 : ¬ (name.size : Int) ≤ 20 := by omega
  have l3 : decide ((name.size : Int) > 20) = true := decide_eq_true l1
  have l4 : decide (20 < (name.size : Int)) = true := decide_eq_true l1
  clear hl
  go_enter Tryd.func4, Tryd.ntmps4
  go_wp2_with (first
    | (go_at_call_of 16 (Value.string name); go_must (refine (h16n _).mono ?_; rintro e w' ⟨⟨q, rfl⟩, rfl⟩; cases q))
    | (go_at_call 16; go_must (refine (h16o _).mono ?_; rintro e w' ⟨⟨q', rfl⟩, rfl⟩; cases q')))
  all_goals
    go_ret
    exact ⟨rfl, Below.refl _ _⟩
set_option maxHeartbeats 400000 in
theorem longer2 (name other : ByteArray) (hn : name.size ≤ 9223372036854775807) (ho : other.size ≤ 9223372036854775807) (hl0 : name.size ≤ 20) (hl : 20 < other.size) (w : World) :
    Calls Tryd.prog 4 #[.string name, .string other] w fun e w' => e = .returned (.bool true) ∧ Below w.heap.size w w' := by
  have h16n := fun W => named name hn W
  have h16o := fun W => named other ho W
  have l1 : 20 < (other.size : Int) := by omega
  have l3 : decide ((other.size : Int) > 20) = true := decide_eq_true l1
  have l4 : decide (20 < (other.size : Int)) = true := decide_eq_true l1
  have m1 : ¬ 20 < (name.size : Int) := by omega
  have m2 : (name.size : Int) ≤ 20 := by omega
  have m3 : decide ((name.size : Int) > 20) = false := decide_eq_false m1
  clear hl
  go_enter Tryd.func4, Tryd.ntmps4
  go_wp2_with (first
    | (go_at_call_of 16 (Value.string name); go_must (refine (h16n _).mono ?_; rintro e w' ⟨⟨q, rfl⟩, rfl⟩; cases q))
    | (go_at_call 16; go_must (refine (h16o _).mono ?_; rintro e w' ⟨⟨q', rfl⟩, rfl⟩; cases q')))
  all_goals
    go_ret
    exact ⟨rfl, Below.refl _ _⟩
end Go.Proofs.YtaeakifdamlnlaaDoor.markSigns
