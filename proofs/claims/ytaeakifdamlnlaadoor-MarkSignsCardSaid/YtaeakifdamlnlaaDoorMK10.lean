import Derived.Test.YtaeakifdamlnlaaDoorMK9
import Derived.Deep.DeepMust
set_option linter.unusedVariables false
set_option linter.unusedSimpArgs false
set_option maxRecDepth 100000
namespace Go.Proofs.YtaeakifdamlnlaaDoor.markSigns
open Go.RowKit Go.Proofs.YtaeakifdamlnlaaDoor.Ev
/-- what a call of mark's leaves -/
def Left (z : ByteArray) (d : Value) (W : World) (b : Bool) (e : Ending) (w' : World) : Prop := e = .returned (.bool b) ∧ D1 z w' d ∧ Below W.heap.size W w'
set_option maxHeartbeats 1000000 in
theorem main (name other z : ByteArray) (hn : name.size ≤ 9223372036854775807) (ho : other.size ≤ 9223372036854775807) (s1 : name.size ≤ 20) (s2 : other.size ≤ 20) (a b c q : Bool)
    (ha : (z.toList == [46, 119, 104, 46, 46, 119, 104, 46, 46, 111, 112, 113]) = a) (hb : (z.toList == [46, 119, 104, 46, 46, 119, 104, 46, 120, 105, 110, 111]) = b)
    (hc : (z.toList == [46, 119, 104, 46, 46, 119, 104, 46, 104, 101, 108, 100]) = c) (hq : (name.toList == other.toList) = q)
    (h7 : ∀ W, Calls Tryd.prog 7 #[.string name] W fun e w' => e = .returned (.string z) ∧ w' = W)
    (h9n : ∀ W A k, D1 z W (diskV 5 5 3 A 2 k) → Calls Tryd.prog 9 #[diskV 5 5 3 A 2 k, .int .i64 1, .string name] W (Left z (diskV 5 5 3 A 2 k) W true))
    (h9o : ∀ W A k, D1 z W (diskV 5 5 3 A 2 k) → Calls Tryd.prog 9 #[diskV 5 5 3 A 2 k, .int .i64 1, .string other] W (Left z (diskV 5 5 3 A 2 k) W q))
    (h11 : ∀ W A k, D1 z W (diskV 5 5 3 A 2 k) → Calls Tryd.prog 11 #[diskV 5 5 3 A 2 k, .int .i64 1] W (Left z (diskV 5 5 3 A 2 k) W a))
    (h19z : ∀ W, Calls Tryd.prog 19 #[.string z] W fun e w' => e = .returned (.bool true) ∧ w' = W)
    (h19n : (a || b || c) = true → ∀ W, Calls Tryd.prog 19 #[.string name] W fun e w' => e = .returned (.bool true) ∧ w' = W)
    (hcase : (a = false ∧ b = false ∧ c = false) ∨ (a = true ∧ b = false ∧ c = false) ∨ (a = false ∧ b = true ∧ c = false) ∨ (a = false ∧ b = false ∧ c = true))
    (h15 : ∀ W, Calls Tryd.prog 15 #[] W fun e w' => e = .returned (.bool true) ∧ Below W.heap.size W w') (w : World) :
    Calls Tryd.prog 4 #[.string name, .string other] w fun e w' => e = .returned (.bool true) ∧ Below w.heap.size w w' := by
  have h16n := fun W => named name hn W
  have h16o := fun W => named other ho W
  have m1 : ¬ 20 < (name.size : Int) := by omega
  have m2 : ¬ 20 < (other.size : Int) := by omega
  have m3 : decide ((name.size : Int) > 20) = false := decide_eq_false m1
  have m4 : decide ((other.size : Int) > 20) = false := decide_eq_false m2
  clear hn ho s1 s2
  have h17 := fun W v h => makeC z W v h
  unfold diskV at h9n h9o h11 h17
  have hend : ∀ {w0 w1 w2 w3 w4 w5 : World} {o : Obj}, Below w.heap.size w w0 → Below w0.heap.size w0 w1 → Below (w1.alloc o).heap.size (w1.alloc o) w2 → Below w2.heap.size w2 w3 → Below w3.heap.size w3 w4 → Below w4.heap.size w4 w5 → Below w.heap.size w w5 := by
    intro w0 w1 w2 w3 w4 w5 o g0 g1 g2 g3 g4 g5
    have k1 := g0.trans (g1.mono g0.size)
    have k2 := k1.trans ((below_box g2).mono k1.size)
    have k3 := k2.trans (g3.mono k2.size)
    have k4 := k3.trans (g4.mono k3.size)
    exact k4.trans (g5.mono k4.size)
  have E : Aside (∀ {w0 w1 w2 w3 w4 w5 : World} {o : Obj}, Below w.heap.size w w0 → Below w0.heap.size w0 w1 → Below (w1.alloc o).heap.size (w1.alloc o) w2 → Below w2.heap.size w2 w3 → Below w3.heap.size w3 w4 → Below w4.heap.size w4 w5 → Below w.heap.size w w5) := @hend
  clear hend
  rcases hcase with ⟨rfl, rfl, rfl⟩ | ⟨rfl, rfl, rfl⟩ | ⟨rfl, rfl, rfl⟩ | ⟨rfl, rfl, rfl⟩
  all_goals cases q
  all_goals
    have ha' := ha
    have hb' := hb
    have hc' := hc
    have hq' := hq
    simp only [beq_iff_eq, beq_eq_false_iff_ne, ne_eq] at ha' hb' hc' hq'
    go_enter Tryd.func4, Tryd.ntmps4
    go_wp2_with (first
      | (go_at_call_of 16 (Value.string name); go_must (refine (h16n _).mono ?_; rintro e w' ⟨⟨q, rfl⟩, rfl⟩; cases q))
      | (go_at_call 16; go_must (refine (h16o _).mono ?_; rintro e w' ⟨⟨q', rfl⟩, rfl⟩; cases q'))
      | (go_at_call 18; go_must (refine (newC _).mono ?_; rintro e w0 ⟨v0, rfl, hD0, hb0⟩))
      | (go_at_call 7; go_must (refine (h7 _).mono ?_; rintro e w' ⟨rfl, rfl⟩))
      | (go_at_call 17; go_must (refine (h17 _ _ hD0).mono ?_; rintro e w1 ⟨A, k, rfl, hD1, hb1⟩))
      | (go_at_call_of 9 (Value.string name); go_must (
          refine (h9n _ _ _ (hD1.on ((Below.refl _ _).alloc (Nat.le_refl _) _))).mono ?_
          rintro e w2 ⟨rfl, hD2, hb2⟩
          have c0 : w2.cell? ⟨w1.heap.size, 0, none⟩ = some (.int .i64 5) := (hb2.cell (by simp)).trans (World.cell?_alloc_at _ _ _ _ rfl)
          have c1 : w2.cell? ⟨w1.heap.size, 1, none⟩ = some (.int .i64 5) := (hb2.cell (by simp)).trans (World.cell?_alloc_at _ _ _ _ rfl)
          have c2 : w2.cell? ⟨w1.heap.size, 2, none⟩ = some (.int .i64 3) := (hb2.cell (by simp)).trans (World.cell?_alloc_at _ _ _ _ rfl)
          have c3 : w2.cell? ⟨w1.heap.size, 3, none⟩ = some (.slice A 2 k) := (hb2.cell (by simp)).trans (World.cell?_alloc_at _ _ _ _ rfl)
          have hz2 : w1.heap.size < w2.heap.size := Nat.lt_of_lt_of_le (by simp) hb2.size))
      | (go_at_call_of 9 (Value.string other); go_must (
          refine (h9o _ _ _ hD2).mono ?_
          rintro e w3 ⟨rfl, hD3, hb3⟩
          have e0 : w3.cell? ⟨w1.heap.size, 0, none⟩ = some (.int .i64 5) := (hb3.cell hz2).trans c0
          have e1 : w3.cell? ⟨w1.heap.size, 1, none⟩ = some (.int .i64 5) := (hb3.cell hz2).trans c1
          have e2 : w3.cell? ⟨w1.heap.size, 2, none⟩ = some (.int .i64 3) := (hb3.cell hz2).trans c2
          have e3 : w3.cell? ⟨w1.heap.size, 3, none⟩ = some (.slice A 2 k) := (hb3.cell hz2).trans c3))
      | (go_at_call_of 19 (Value.string z); go_must (refine (h19z _).mono ?_; rintro e w' ⟨rfl, rfl⟩))
      | (go_at_call 19; go_must (refine (h19n rfl _).mono ?_; rintro e w' ⟨rfl, rfl⟩))
      | (go_at_call 11; go_must (refine (h11 _ _ _ hD3).mono ?_; rintro e w4 ⟨rfl, hD4, hb4⟩))
      | (go_at_call 15; go_must (refine (h15 _).mono ?_; rintro e w5 ⟨rfl, hb5⟩)))
    all_goals
      go_ret
      first
        | exact ⟨rfl, Below.refl _ _⟩
        | exact ⟨rfl, E.out hb0 hb1 hb2 hb3 hb4 hb5⟩
end Go.Proofs.YtaeakifdamlnlaaDoor.markSigns
