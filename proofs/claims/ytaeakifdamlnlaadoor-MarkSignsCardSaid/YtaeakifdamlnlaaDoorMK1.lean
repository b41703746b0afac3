import Derived.Test.YtaeakifdamlnlaaDoorRows
import Derived.WalkKit
import Derived.Below
import Derived.Deep.QuietTactic
import Derived.BigQuiet
import Derived.Deep.LoopGhost
import Derived.Lib.Hide
import Derived.Laws.Strings
import Derived.Laws.Cover1
set_option linter.unusedVariables false
set_option linter.unusedSimpArgs false
set_option maxRecDepth 100000
namespace Go.Proofs.YtaeakifdamlnlaaDoor
open Go.RowKit

theorem toList_ne {x y : ByteArray} (h : ¬ x = y) : (x.toList == y.toList) = false := by
  rw [beq_eq_false_iff_ne, ByteArray.toList_eq, ByteArray.toList_eq]
  exact fun e => h (ByteArray.ext (Array.toList_inj.mp e))
/-- what cmp.Compare tells of two texts -/
def scmp (x y : ByteArray) : Int := if Op.bytesLess x.toList y.toList = true then -1 else if x = y then 0 else 1
set_option maxHeartbeats 2000000 in
theorem cmpStr (x y : ByteArray) (w : World) : Calls Tryd.prog 56 #[.string x, .string y] w fun e w' => e = .returned (.int .i64 (scmp x y)) ∧ w' = w := by
  have hd : ∃ d, scmp x y = d ∧ ((Op.bytesLess x.toList y.toList = true ∧ d = -1) ∨ (Op.bytesLess x.toList y.toList = false ∧ (x.toList == y.toList) = true ∧ d = 0) ∨ (Op.bytesLess x.toList y.toList = false ∧ (x.toList == y.toList) = false ∧ d = 1)) := by
    refine ⟨_, rfl, ?_⟩
    unfold scmp
    by_cases h : Op.bytesLess x.toList y.toList = true
    · exact .inl ⟨h, if_pos h⟩
    · rw [if_neg h]
      have h' := Bool.eq_false_iff.2 h
      by_cases e : x = y
      · exact .inr (.inl ⟨h', by rw [e]; simp, if_pos e⟩)
      · exact .inr (.inr ⟨h', toList_ne e, if_neg e⟩)
  obtain ⟨d, hd, hc⟩ := hd
  rw [hd]
  clear hd
  rcases hc with ⟨h1, rfl⟩ | ⟨h1, h2, rfl⟩ | ⟨h1, h2, rfl⟩
  all_goals
    go_enter Tryd.func56, Tryd.ntmps56
    go_wp2
    go_ret
    exact ⟨rfl, rfl⟩
/-- the closure that find.place hands on -/
theorem clos (x y : ByteArray) (i : Int) (w : World) : Calls Tryd.prog 55 #[.agg #[.string x, .int .i64 i], .string y] w fun e w' => e = .returned (.int .i64 (scmp x y)) ∧ Below w.heap.size w w' := by
  have hc : ∀ W, Calls Tryd.prog 56 #[.string x, .string y] W fun e w' => e = .returned (.int .i64 (scmp x y)) ∧ w' = W := fun W => cmpStr x y W
  generalize scmp x y = d at hc ⊢
  go_enter Tryd.func55, Tryd.ntmps55
  go_wp2_with (go_at_call 56; refine (hc _).mono ?_; rintro e w' ⟨rfl, rfl⟩)
  go_ret
  exact ⟨rfl, (Below.refl _ _).alloc (Nat.le_refl _) _⟩
end Go.Proofs.YtaeakifdamlnlaaDoor
