import Derived.Test.YtiaofpolndcijaaGreatDoorMS4
import Derived.Deep.RegionHeld3
import Derived.Deep.DeepMust
set_option linter.unusedVariables false
set_option linter.unusedSimpArgs false
set_option maxRecDepth 100000
namespace Go.Proofs.YtiaofpolndcijaaGreatDoor
open Go.RowKit
/-- the answer of either Same -/
def oneAns (x y : ByteArray) (p q : Nat) (xs ys : Nat → ByteArray) (i k m l s i' k' m' l' s' : Int) : Bool :=
  decide (x = y) && (decide (p = q) && sameTo xs ys q) && decide (i = i' ∧ k = k' ∧ m = m' ∧ l = l' ∧ s = s')
/-- an ending, what lies beyond a mark -/
def Ends (B : Nat) (b : Bool) (W : World) (e : Ending) (w' : World) : Prop := e = .returned (.bool b) ∧ Below B W w'
/-- two replies that lie boxed -/
structure Boxed (B : Nat) (W w' : World) : Prop where
  below : Below (B + 2) W w'
theorem keepBoth {N : Nat} {u V V' : World} {v0 v1 v2 v3 v4 v5 v6 u0 u1 u2 u3 u4 u5 u6 : Value} (h : Below V.heap.size V V') (hS : Below N u V ∧ N + 2 ≤ V.heap.size ∧ V.cell? ⟨N, 0, none⟩ = some v0 ∧ V.cell? ⟨N, 1, none⟩ = some v1 ∧ V.cell? ⟨N, 2, none⟩ = some v2 ∧ V.cell? ⟨N, 3, none⟩ = some v3 ∧ V.cell? ⟨N, 4, none⟩ = some v4 ∧ V.cell? ⟨N, 5, none⟩ = some v5 ∧ V.cell? ⟨N, 6, none⟩ = some v6 ∧ V.cell? ⟨N + 1, 0, none⟩ = some u0 ∧ V.cell? ⟨N + 1, 1, none⟩ = some u1 ∧ V.cell? ⟨N + 1, 2, none⟩ = some u2 ∧ V.cell? ⟨N + 1, 3, none⟩ = some u3 ∧ V.cell? ⟨N + 1, 4, none⟩ = some u4 ∧ V.cell? ⟨N + 1, 5, none⟩ = some u5 ∧ V.cell? ⟨N + 1, 6, none⟩ = some u6) : Below N u V' ∧ N + 2 ≤ V'.heap.size ∧ V'.cell? ⟨N, 0, none⟩ = some v0 ∧ V'.cell? ⟨N, 1, none⟩ = some v1 ∧ V'.cell? ⟨N, 2, none⟩ = some v2 ∧ V'.cell? ⟨N, 3, none⟩ = some v3 ∧ V'.cell? ⟨N, 4, none⟩ = some v4 ∧ V'.cell? ⟨N, 5, none⟩ = some v5 ∧ V'.cell? ⟨N, 6, none⟩ = some v6 ∧ V'.cell? ⟨N + 1, 0, none⟩ = some u0 ∧ V'.cell? ⟨N + 1, 1, none⟩ = some u1 ∧ V'.cell? ⟨N + 1, 2, none⟩ = some u2 ∧ V'.cell? ⟨N + 1, 3, none⟩ = some u3 ∧ V'.cell? ⟨N + 1, 4, none⟩ = some u4 ∧ V'.cell? ⟨N + 1, 5, none⟩ = some u5 ∧ V'.cell? ⟨N + 1, 6, none⟩ = some u6 := by
  obtain ⟨hb, hs, c0, c1, c2, c3, c4, c5, c6, c7, c8, c9, c10, c11, c12, c13⟩ := hS
  exact ⟨hb.trans (h.mono (by omega)), Nat.le_trans hs h.size, (h.cell (Nat.lt_of_lt_of_le (by dsimp only; omega) hs)).trans c0, (h.cell (Nat.lt_of_lt_of_le (by dsimp only; omega) hs)).trans c1, (h.cell (Nat.lt_of_lt_of_le (by dsimp only; omega) hs)).trans c2, (h.cell (Nat.lt_of_lt_of_le (by dsimp only; omega) hs)).trans c3, (h.cell (Nat.lt_of_lt_of_le (by dsimp only; omega) hs)).trans c4, (h.cell (Nat.lt_of_lt_of_le (by dsimp only; omega) hs)).trans c5, (h.cell (Nat.lt_of_lt_of_le (by dsimp only; omega) hs)).trans c6, (h.cell (Nat.lt_of_lt_of_le (by dsimp only; omega) hs)).trans c7, (h.cell (Nat.lt_of_lt_of_le (by dsimp only; omega) hs)).trans c8, (h.cell (Nat.lt_of_lt_of_le (by dsimp only; omega) hs)).trans c9, (h.cell (Nat.lt_of_lt_of_le (by dsimp only; omega) hs)).trans c10, (h.cell (Nat.lt_of_lt_of_le (by dsimp only; omega) hs)).trans c11, (h.cell (Nat.lt_of_lt_of_le (by dsimp only; omega) hs)).trans c12, (h.cell (Nat.lt_of_lt_of_le (by dsimp only; omega) hs)).trans c13⟩
set_option maxHeartbeats 8000000 in
theorem lawSame (A B : Option Addr) (nd cd ne ce : Nat) (Na Nb : Option Addr) (cp cq : Nat) (i k m l s i' k' m' l' s' : Int) (w : World) (x y : ByteArray) (p q : Nat) (xs ys : Nat → ByteArray)
    (hA : Byt w (.slice A nd cd) x) (hB : Byt w (.slice B ne ce) y) (ha : Nms w (.slice Na p cp) p xs) (hb : Nms w (.slice Nb q cq) q ys)
    (hK : ∀ W, Calls Tryz.prog 6 #[] W fun e w' => e = .returned (.bool true) ∧ Below W.heap.size W w') :
    Calls Tryz.prog 3 #[rep (.slice A nd cd) (.slice Na p cp) i k m l s, rep (.slice B ne ce) (.slice Nb q cq) i' k' m' l' s'] w fun e w' => e = .returned (.bool true) ∧ Below w.heap.size w w' := by
  have c4 : ∀ W, Below w.heap.size w W → Calls Tryz.prog 4 #[rep (.slice A nd cd) (.slice Na p cp) i k m l s, rep (.slice B ne ce) (.slice Nb q cq) i' k' m' l' s'] W (Ends W.heap.size (oneAns x y p q xs ys i k m l s i' k' m' l' s') W) :=
    fun W hW => modelSame _ _ _ _ i k m l s i' k' m' l' s' W x y p q xs ys (hA.on hW hW.size) (hB.on hW hW.size) (ha.on hW) (hb.on hW)
  have c5 : ∀ W, Below w.heap.size w W → Calls Tryz.prog 5 #[rep (.slice A nd cd) (.slice Na p cp) i k m l s, rep (.slice B ne ce) (.slice Nb q cq) i' k' m' l' s'] W (Ends W.heap.size (oneAns x y p q xs ys i k m l s i' k' m' l' s') W) :=
    fun W hW => refSame22 _ _ _ _ i k m l s i' k' m' l' s' W x y p q xs ys (hA.on hW hW.size) (hB.on hW hW.size) (ha.on hW) (hb.on hW)
  have c4s : ∀ W, Below w.heap.size w W → Calls Tryz.prog 4 #[rep (.slice A nd cd) (.slice Na p cp) i k m l s, rep (.slice A nd cd) (.slice Na p cp) i k m l s] W (Ends W.heap.size true W) :=
    fun W hW => (modelSame _ _ _ _ i k m l s i k m l s W x x p p xs xs (hA.on hW hW.size) (hA.on hW hW.size) (ha.on hW) (ha.on hW)).mono fun _ _ ⟨he, hw⟩ => ⟨by rw [he]; simp [sameTo_self], hw⟩
  have c6 : ∀ W, Calls Tryz.prog 6 #[] W (Ends W.heap.size true W) := hK
  clear hA hB ha hb hK
  generalize oneAns x y p q xs ys i k m l s i' k' m' l' s' = ans at c4 c5
  unfold rep at c4 c5 c4s ⊢
  go_enter Tryz.func3, Tryz.ntmps3
  go_wp2
  all_goals first | (go_ret; exact ⟨rfl, below_two _ _⟩) | skip
  generalize hW : (w.alloc (.cells #[.slice A nd cd, .slice Na p cp, .int .i64 i, .int .i64 k, .int .i64 m, .int .i64 l, .int .i64 s] 27)).alloc (.cells #[.slice B ne ce, .slice Nb q cq, .int .i64 i', .int .i64 k', .int .i64 m', .int .i64 l', .int .i64 s'] 27) = W
  have hB0 : Below w.heap.size w W := by rw [← hW]; exact below_two _ _
  have hsz : W.heap.size = w.heap.size + 2 := by rw [← hW]; simp
  have a0 : W.cell? ⟨w.heap.size, 0, none⟩ = some (.slice A nd cd) := by rw [← hW, World.cell?_alloc_past _ _ _ (by simp only [World.size_alloc]; omega), World.cell?_alloc_at _ _ _ _ rfl]; rfl
  have a1 : W.cell? ⟨w.heap.size, 1, none⟩ = some (.slice Na p cp) := by rw [← hW, World.cell?_alloc_past _ _ _ (by simp only [World.size_alloc]; omega), World.cell?_alloc_at _ _ _ _ rfl]; rfl
  have a2 : W.cell? ⟨w.heap.size, 2, none⟩ = some (.int .i64 i) := by rw [← hW, World.cell?_alloc_past _ _ _ (by simp only [World.size_alloc]; omega), World.cell?_alloc_at _ _ _ _ rfl]; rfl
  have a3 : W.cell? ⟨w.heap.size, 3, none⟩ = some (.int .i64 k) := by rw [← hW, World.cell?_alloc_past _ _ _ (by simp only [World.size_alloc]; omega), World.cell?_alloc_at _ _ _ _ rfl]; rfl
  have a4 : W.cell? ⟨w.heap.size, 4, none⟩ = some (.int .i64 m) := by rw [← hW, World.cell?_alloc_past _ _ _ (by simp only [World.size_alloc]; omega), World.cell?_alloc_at _ _ _ _ rfl]; rfl
  have a5 : W.cell? ⟨w.heap.size, 5, none⟩ = some (.int .i64 l) := by rw [← hW, World.cell?_alloc_past _ _ _ (by simp only [World.size_alloc]; omega), World.cell?_alloc_at _ _ _ _ rfl]; rfl
  have a6 : W.cell? ⟨w.heap.size, 6, none⟩ = some (.int .i64 s) := by rw [← hW, World.cell?_alloc_past _ _ _ (by simp only [World.size_alloc]; omega), World.cell?_alloc_at _ _ _ _ rfl]; rfl
  have b0 : W.cell? ⟨w.heap.size + 1, 0, none⟩ = some (.slice B ne ce) := by rw [← hW, World.cell?_alloc_at _ _ _ _ (by simp)]; rfl
  have b1 : W.cell? ⟨w.heap.size + 1, 1, none⟩ = some (.slice Nb q cq) := by rw [← hW, World.cell?_alloc_at _ _ _ _ (by simp)]; rfl
  have b2 : W.cell? ⟨w.heap.size + 1, 2, none⟩ = some (.int .i64 i') := by rw [← hW, World.cell?_alloc_at _ _ _ _ (by simp)]; rfl
  have b3 : W.cell? ⟨w.heap.size + 1, 3, none⟩ = some (.int .i64 k') := by rw [← hW, World.cell?_alloc_at _ _ _ _ (by simp)]; rfl
  have b4 : W.cell? ⟨w.heap.size + 1, 4, none⟩ = some (.int .i64 m') := by rw [← hW, World.cell?_alloc_at _ _ _ _ (by simp)]; rfl
  have b5 : W.cell? ⟨w.heap.size + 1, 5, none⟩ = some (.int .i64 l') := by rw [← hW, World.cell?_alloc_at _ _ _ _ (by simp)]; rfl
  have b6 : W.cell? ⟨w.heap.size + 1, 6, none⟩ = some (.int .i64 s') := by rw [← hW, World.cell?_alloc_at _ _ _ _ (by simp)]; rfl
  clear hW
  have hsz' : w.heap.size + 2 ≤ W.heap.size := Nat.le_of_eq hsz.symm
  clear hsz
  go_region_held3 (fun w' => Below w.heap.size w w' ∧ w.heap.size + 2 ≤ w'.heap.size ∧ w'.cell? ⟨w.heap.size, 0, none⟩ = some (.slice A nd cd) ∧ w'.cell? ⟨w.heap.size, 1, none⟩ = some (.slice Na p cp) ∧ w'.cell? ⟨w.heap.size, 2, none⟩ = some (.int .i64 i) ∧ w'.cell? ⟨w.heap.size, 3, none⟩ = some (.int .i64 k) ∧ w'.cell? ⟨w.heap.size, 4, none⟩ = some (.int .i64 m) ∧ w'.cell? ⟨w.heap.size, 5, none⟩ = some (.int .i64 l) ∧ w'.cell? ⟨w.heap.size, 6, none⟩ = some (.int .i64 s) ∧ w'.cell? ⟨w.heap.size + 1, 0, none⟩ = some (.slice B ne ce) ∧ w'.cell? ⟨w.heap.size + 1, 1, none⟩ = some (.slice Nb q cq) ∧ w'.cell? ⟨w.heap.size + 1, 2, none⟩ = some (.int .i64 i') ∧ w'.cell? ⟨w.heap.size + 1, 3, none⟩ = some (.int .i64 k') ∧ w'.cell? ⟨w.heap.size + 1, 4, none⟩ = some (.int .i64 m') ∧ w'.cell? ⟨w.heap.size + 1, 5, none⟩ = some (.int .i64 l') ∧ w'.cell? ⟨w.heap.size + 1, 6, none⟩ = some (.int .i64 s')) (first | (exact keepBoth hbl (by assumption)) | (refine ⟨Below.drew (by assumption), ?_⟩; go_keep) | go_keep)
    (first
      | (go_at_call_of 4 (Value.slice B ne ce); go_must (refine (c4 _ ?_).mono ?_; exact And.left (by assumption); rintro e w' ⟨rfl, hbl⟩))
      | (go_at_call 4; go_must (refine (c4s _ ?_).mono ?_; exact And.left (by assumption); rintro e w' ⟨rfl, hbl⟩))
      | (go_at_call 5; go_must (refine (c5 _ ?_).mono ?_; exact And.left (by assumption); rintro e w' ⟨rfl, hbl⟩))
      | (go_at_call 6; go_must (refine (c6 _).mono ?_; rintro e w' ⟨rfl, hbl⟩)))
  go_wp2
  go_ret
  exact ⟨rfl, And.left (by assumption)⟩
end Go.Proofs.YtiaofpolndcijaaGreatDoor
