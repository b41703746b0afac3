import Derived.Test.YtaeakifdamlnlaaDoorMK4
set_option linter.unusedVariables false
set_option linter.unusedSimpArgs false
set_option maxRecDepth 100000
namespace Go.Proofs.YtaeakifdamlnlaaDoor
open Go.RowKit
abbrev diskV (B I N : Int) (A : Option Addr) (n c : Nat) : Value := .agg #[.int .i64 B, .int .i64 I, .int .i64 N, .slice A n c]
/-- a disk that lies boxed -/
theorem keepBox {N : Nat} {u V V' : World} {v0 v1 v2 v3 : Value} (h : Below V.heap.size V V') (hS : Below N u V ∧ N + 1 ≤ V.heap.size ∧ V.cell? ⟨N, 0, none⟩ = some v0 ∧ V.cell? ⟨N, 1, none⟩ = some v1 ∧ V.cell? ⟨N, 2, none⟩ = some v2 ∧ V.cell? ⟨N, 3, none⟩ = some v3) :
    Below N u V' ∧ N + 1 ≤ V'.heap.size ∧ V'.cell? ⟨N, 0, none⟩ = some v0 ∧ V'.cell? ⟨N, 1, none⟩ = some v1 ∧ V'.cell? ⟨N, 2, none⟩ = some v2 ∧ V'.cell? ⟨N, 3, none⟩ = some v3 := by
  obtain ⟨hb, hs, c0, c1, c2, c3⟩ := hS
  exact ⟨hb.trans (h.mono (by omega)), Nat.le_trans hs h.size, (h.cell (Nat.lt_of_lt_of_le (by dsimp only; omega) hs)).trans c0, (h.cell (Nat.lt_of_lt_of_le (by dsimp only; omega) hs)).trans c1, (h.cell (Nat.lt_of_lt_of_le (by dsimp only; omega) hs)).trans c2, (h.cell (Nat.lt_of_lt_of_le (by dsimp only; omega) hs)).trans c3⟩
set_option maxHeartbeats 4000000 in
theorem hides (s y : ByteArray) (hy : y.size ≤ 40) (B I N : Int) (A : Option Addr) (n c : Nat) (w : World)
    (hG : ∀ W, Below w.heap.size w W → Calls Tryd.prog 33 #[diskV B I N A n c, .int .i64 1] W (Got s W)) :
    Calls Tryd.prog 9 #[diskV B I N A n c, .int .i64 1, .string y] w fun e w' => e = .returned (.bool (decide (s = pre ++ y))) ∧ Below w.heap.size w w' := by
  have h7 : ∀ W : World, Calls Tryd.prog 7 #[.string y] W fun e w' => e = .returned (.string (pre ++ y)) ∧ Below W.heap.size W w' := fun W => (white y hy W).mono fun e w' ⟨h1, h2⟩ => ⟨h1, by rw [h2]; exact Below.refl _ _⟩
  have h24 : ∀ W : World, Below w.heap.size w W → Calls Tryd.prog 24 #[diskV B I N A n c, .int .i64 1, .string (pre ++ y)] W fun e w' => e = .returned (.bool (decide (s = pre ++ y))) ∧ Below W.heap.size W w' :=
    fun W hW => has s (pre ++ y) B I N A n c W fun V hV => hG V (hW.trans (hV.mono hW.size))
  clear hG
  generalize decide (s = pre ++ y) = q at h24 ⊢
  generalize pre ++ y = z at h7 h24
  unfold diskV at h24 ⊢
  go_enter Tryd.func9, Tryd.ntmps9
  go_wp2
  generalize hW : w.alloc (.cells #[.int .i64 B, .int .i64 I, .int .i64 N, .slice A n c] 24) = W
  have hB0 : Below w.heap.size w W := by rw [← hW]; exact (Below.refl _ _).alloc (Nat.le_refl _) _
  have hsz : w.heap.size + 1 ≤ W.heap.size := by rw [← hW]; simp
  have a0 : W.cell? ⟨w.heap.size, 0, none⟩ = some (.int .i64 B) := by rw [← hW, World.cell?_alloc_at _ _ _ _ rfl]; rfl
  have a1 : W.cell? ⟨w.heap.size, 1, none⟩ = some (.int .i64 I) := by rw [← hW, World.cell?_alloc_at _ _ _ _ rfl]; rfl
  have a2 : W.cell? ⟨w.heap.size, 2, none⟩ = some (.int .i64 N) := by rw [← hW, World.cell?_alloc_at _ _ _ _ rfl]; rfl
  have a3 : W.cell? ⟨w.heap.size, 3, none⟩ = some (.slice A n c) := by rw [← hW, World.cell?_alloc_at _ _ _ _ rfl]; rfl
  clear hW
  go_region_held3 (fun w' => Below w.heap.size w w' ∧ w.heap.size + 1 ≤ w'.heap.size ∧ w'.cell? ⟨w.heap.size, 0, none⟩ = some (.int .i64 B) ∧ w'.cell? ⟨w.heap.size, 1, none⟩ = some (.int .i64 I) ∧ w'.cell? ⟨w.heap.size, 2, none⟩ = some (.int .i64 N) ∧ w'.cell? ⟨w.heap.size, 3, none⟩ = some (.slice A n c)) (first | (exact keepBox hbl (by assumption)) | (refine ⟨Below.drew (by assumption), ?_⟩; go_keep) | go_keep)
    (first
      | (go_at_call 7; go_must (refine (h7 _).mono ?_; rintro e w' ⟨rfl, hbl⟩))
      | (go_at_call 24; go_must (refine (h24 _ ?_).mono ?_; exact And.left (by assumption); rintro e w' ⟨rfl, hbl⟩)))
  go_wp2
  go_ret
  exact ⟨rfl, And.left (by assumption)⟩
end Go.Proofs.YtaeakifdamlnlaaDoor
