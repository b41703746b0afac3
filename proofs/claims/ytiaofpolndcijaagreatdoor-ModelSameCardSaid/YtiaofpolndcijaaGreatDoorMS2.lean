import Derived.Test.YtiaofpolndcijaaGreatDoorMS1
import Derived.Laws.StructEq
set_option linter.unusedVariables false
set_option linter.unusedSimpArgs false
set_option maxRecDepth 100000
namespace Go.Proofs.YtiaofpolndcijaaGreatDoor
open Go.RowKit
/-- a reply as a value -/
def rep (d n : Value) (i k m l s : Int) : Value := .agg #[d, n, .int .i64 i, .int .i64 k, .int .i64 m, .int .i64 l, .int .i64 s]
theorem below_two {w : World} (o o' : Obj) : Below w.heap.size w ((w.alloc o).alloc o') :=
  ((Below.refl _ _).alloc (Nat.le_refl _) o).alloc (by rw [World.size_alloc]; omega) o'
theorem below_drewN {B : Nat} {a w : World} (h : Below B a w) (q : Nat) : Below B a (w.drewN q) := by
  induction q generalizing w with
  | zero => exact h
  | succ n ih => exact (ih h).drew
set_option maxHeartbeats 8000000 in
theorem modelSame_d (da na db nb : Value) (i k m l s i' k' m' l' s' : Int) (w : World)
    (hD : ∀ W, Below w.heap.size w W → Calls Tryz.prog 7 #[da, db] W fun e w' => e = .returned (.bool false) ∧ w' = W) :
    Calls Tryz.prog 4 #[rep da na i k m l s, rep db nb i' k' m' l' s'] w fun e w' => e = .returned (.bool false) ∧ Below w.heap.size w w' := by
  unfold rep
  go_enter Tryz.func4, Tryz.ntmps4
  go_wp2_with (go_at_call 7; refine (hD _ (below_two _ _)).mono ?_; rintro e w' ⟨rfl, rfl⟩)
  go_ret
  exact ⟨rfl, below_two _ _⟩
set_option maxHeartbeats 8000000 in
theorem modelSame_n (da na db nb : Value) (i k m l s i' k' m' l' s' : Int) (w : World)
    (hD : ∀ W, Below w.heap.size w W → Calls Tryz.prog 7 #[da, db] W fun e w' => e = .returned (.bool true) ∧ w' = W)
    (hN : ∀ W, Below w.heap.size w W → Calls Tryz.prog 8 #[na, nb] W fun e w' => e = .returned (.bool false) ∧ ∃ q, w' = W.drewN q) :
    Calls Tryz.prog 4 #[rep da na i k m l s, rep db nb i' k' m' l' s'] w fun e w' => e = .returned (.bool false) ∧ Below w.heap.size w w' := by
  unfold rep
  go_enter Tryz.func4, Tryz.ntmps4
  go_wp2_with (first
    | (go_at_call 7; refine (hD _ (below_two _ _)).mono ?_; rintro e w' ⟨rfl, rfl⟩)
    | (go_at_call 8; refine (hN _ (below_two _ _)).mono ?_; rintro e w' ⟨rfl, q, rfl⟩))
  go_ret
  exact ⟨rfl, below_drewN (below_two _ _) _⟩
set_option maxHeartbeats 8000000 in
theorem modelSame_i (da na db nb : Value) (i k m l s i' k' m' l' s' : Int) (w : World)
    (hD : ∀ W, Below w.heap.size w W → Calls Tryz.prog 7 #[da, db] W fun e w' => e = .returned (.bool true) ∧ w' = W)
    (hN : ∀ W, Below w.heap.size w W → Calls Tryz.prog 8 #[na, nb] W fun e w' => e = .returned (.bool true) ∧ ∃ q, w' = W.drewN q) :
    Calls Tryz.prog 4 #[rep da na i k m l s, rep db nb i' k' m' l' s'] w fun e w' => e = .returned (.bool (decide (i = i' ∧ k = k' ∧ m = m' ∧ l = l' ∧ s = s'))) ∧ Below w.heap.size w w' := by
  unfold rep
  go_enter Tryz.func4, Tryz.ntmps4
  go_wp2_with (first
    | (go_at_call 7; refine (hD _ (below_two _ _)).mono ?_; rintro e w' ⟨rfl, rfl⟩)
    | (go_at_call 8; refine (hN _ (below_two _ _)).mono ?_; rintro e w' ⟨rfl, q, rfl⟩))
  all_goals go_ret
  all_goals (refine ⟨?_, below_drewN (below_two _ _) _⟩)
  all_goals (clear hD hN; congr 2; symm; simp [*])
end Go.Proofs.YtiaofpolndcijaaGreatDoor
