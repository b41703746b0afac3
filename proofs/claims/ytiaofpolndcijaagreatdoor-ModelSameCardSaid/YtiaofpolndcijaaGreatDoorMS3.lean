import Derived.Test.YtiaofpolndcijaaGreatDoorMS2
set_option linter.unusedVariables false
set_option linter.unusedSimpArgs false
set_option maxRecDepth 100000
namespace Go.Proofs.YtiaofpolndcijaaGreatDoor
open Go.RowKit
/-- a value is a row of bytes, and these are they -/
def Byt (w : World) (a : Value) (x : ByteArray) : Prop := ∀ W, Below w.heap.size w W → (convert 22 9 a).run Tryz.prog W = .ok (.string x) W
theorem Byt.on {w W : World} {a : Value} {x : ByteArray} (h : Byt w a x) (hW : Below w.heap.size w W) (hs : w.heap.size ≤ W.heap.size) : Byt W a x :=
  fun _ hV => h _ (hW.trans (hV.mono hs))
set_option maxHeartbeats 8000000 in
theorem refSame22_d (da na db nb : Value) (i k m l s i' k' m' l' s' : Int) (w : World) (x y : ByteArray) (hA : Byt w da x) (hB : Byt w db y) (hne : ¬ x = y) :
    Calls Tryz.prog 5 #[rep da na i k m l s, rep db nb i' k' m' l' s'] w fun e w' => e = .returned (.bool false) ∧ Below w.heap.size w w' := by
  have h1 := toList_ne hne
  have h2 : decide (x = y) = false := decide_eq_false hne
  have h3 := fun o o' => hA _ (below_two o o')
  have h4 := fun o o' => hB _ (below_two o o')
  clear hA hB hne
  unfold rep
  go_enter Tryz.func5, Tryz.ntmps5
  go_wp2
  go_ret
  exact ⟨rfl, below_two _ _⟩
set_option maxHeartbeats 8000000 in
theorem refSame22_n (da na db nb : Value) (i k m l s i' k' m' l' s' : Int) (w : World) (x : ByteArray) (hA : Byt w da x) (hB : Byt w db x)
    (hN : ∀ W, Below w.heap.size w W → Calls Tryz.prog 9 #[na, nb] W fun e w' => e = .returned (.bool false) ∧ ∃ q, w' = W.drewN q) :
    Calls Tryz.prog 5 #[rep da na i k m l s, rep db nb i' k' m' l' s'] w fun e w' => e = .returned (.bool false) ∧ Below w.heap.size w w' := by
  have h3 := fun o o' => hA _ (below_two o o')
  have h4 := fun o o' => hB _ (below_two o o')
  clear hA hB
  unfold rep
  go_enter Tryz.func5, Tryz.ntmps5
  go_wp2_with (go_at_call 9; refine (hN _ (below_two _ _)).mono ?_; rintro e w' ⟨rfl, q, rfl⟩)
  go_ret
  exact ⟨rfl, below_drewN (below_two _ _) _⟩
set_option maxHeartbeats 8000000 in
theorem refSame22_i (da na db nb : Value) (i k m l s i' k' m' l' s' : Int) (w : World) (x : ByteArray) (hA : Byt w da x) (hB : Byt w db x)
    (hN : ∀ W, Below w.heap.size w W → Calls Tryz.prog 9 #[na, nb] W fun e w' => e = .returned (.bool true) ∧ ∃ q, w' = W.drewN q) :
    Calls Tryz.prog 5 #[rep da na i k m l s, rep db nb i' k' m' l' s'] w fun e w' => e = .returned (.bool (decide (i = i' ∧ k = k' ∧ m = m' ∧ l = l' ∧ s = s'))) ∧ Below w.heap.size w w' := by
  have h3 := fun o o' => hA _ (below_two o o')
  have h4 := fun o o' => hB _ (below_two o o')
  clear hA hB
  unfold rep
  go_enter Tryz.func5, Tryz.ntmps5
  go_wp2_with (go_at_call 9; refine (hN _ (below_two _ _)).mono ?_; rintro e w' ⟨rfl, q, rfl⟩)
  all_goals go_ret
  all_goals (refine ⟨?_, below_drewN (below_two _ _) _⟩)
  all_goals (clear hN h3 h4; congr 2; symm; simp [*])
end Go.Proofs.YtiaofpolndcijaaGreatDoor
