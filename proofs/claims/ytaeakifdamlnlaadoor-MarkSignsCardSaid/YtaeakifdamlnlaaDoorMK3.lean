import Derived.Test.YtaeakifdamlnlaaDoorMK2
set_option linter.unusedVariables false
set_option linter.unusedSimpArgs false
set_option maxRecDepth 100000
namespace Go.Proofs.YtaeakifdamlnlaaDoor
open Go.RowKit
/-- a node as a value -/
abbrev nodeV (i k m l s : Int) (B : Value) (t : ByteArray) (N : Value) : Value := .agg #[.int .i64 i, .int .i64 k, .int .i64 m, .int .i64 l, .int .i64 s, B, .string t, N]
/-- what a search tells -/
def Found (n : Nat) (nm : Nat → ByteArray) (x : ByteArray) (i : Nat) : Prop := i ≤ n ∧ (∀ t, t < i → scmp (nm t) x < 0) ∧ (∀ t, i ≤ t → t < n → 0 ≤ scmp (nm t) x)
theorem below_box {w w' : World} {o : Obj} (h : Below (w.alloc o).heap.size (w.alloc o) w') : Below w.heap.size w w' :=
  ((Below.refl w.heap.size w).alloc (Nat.le_refl _) o).trans (h.mono (by simp))
set_option maxHeartbeats 4000000 in
theorem place (b o n cap : Nat) (nm : Nat → ByteArray) (ino : Nat → Int) (x : ByteArray) (w : World) (hn : n < 4611686018427387904) (hb : b < w.heap.size) (hN : NameAt w b o n nm ino)
    (hmono : ∀ s t, s ≤ t → t < n → scmp (nm t) x < 0 → scmp (nm s) x < 0) (i k m l s : Int) (B : Value) (t : ByteArray) (hB : ∃ A n c, B = .slice A n c) :
    Calls Tryd.prog 42 #[nodeV i k m l s B t (.slice (some ⟨b, o, none⟩) n cap), .string x] w fun e w' =>
      ∃ j, Found n nm x j ∧ e = .returned (.tuple #[.int .i64 (j : Nat), .bool (decide (j < n) && decide (scmp (nm j) x = 0))]) ∧ Below w.heap.size w w' := by
  obtain ⟨A', n', c', rfl⟩ := hB
  have hc : ∀ W, Below w.heap.size w W → Calls Tryd.prog 54 #[.slice (some ⟨b, o, none⟩) n cap, .string x, .func (.func 55) #[] #[]] W fun e w' =>
      ∃ j, Found n nm x j ∧ e = .returned (.tuple #[.int .i64 (j : Nat), .bool (decide (j < n) && decide (scmp (nm j) x = 0))]) ∧ Below W.heap.size W w' :=
    fun W hW => (bsf b o n cap nm ino x W hn (Nat.lt_of_lt_of_le hb hW.size) (hN.on hW hb) hmono).mono fun e w' ⟨j, h1, h2, h3, h4, h5⟩ => ⟨j, ⟨h1, h2, h3⟩, h4, h5⟩
  clear hmono hN
  generalize hQ : (fun j => decide (j < n) && decide (scmp (nm j) x = 0)) = Q at hc
  have hQ' : ∀ j, (decide (j < n) && decide (scmp (nm j) x = 0)) = Q j := fun j => by rw [← hQ]
  simp only [hQ'] at hc ⊢
  clear hQ hQ'
  unfold nodeV
  go_enter Tryd.func42, Tryd.ntmps42
  go_wp2_with (go_at_call 54; refine (hc _ ((Below.refl _ _).alloc (Nat.le_refl _) _)).mono ?_; rintro e w' ⟨j, hj, rfl, hbl⟩)
  go_ret2
  exact ⟨j, hj, rfl, below_box hbl⟩
/-- the number that a name has, if it is there -/
def nameOf (n : Nat) (nm : Nat → ByteArray) (ino : Nat → Int) (x : ByteArray) (j : Nat) : Value := if j < n ∧ scmp (nm j) x = 0 then .tuple #[.int .i64 (ino j), .bool true] else .tuple #[.int .i64 0, .bool false]
set_option maxHeartbeats 4000000 in
theorem findName (b o n cap : Nat) (nm : Nat → ByteArray) (ino : Nat → Int) (x : ByteArray) (w : World) (hn : n < 4611686018427387904) (hb : b < w.heap.size) (hN : NameAt w b o n nm ino)
    (hmono : ∀ s t, s ≤ t → t < n → scmp (nm t) x < 0 → scmp (nm s) x < 0) (i k m l s : Int) (B : Value) (t : ByteArray) (hB : ∃ A n c, B = .slice A n c) :
    Calls Tryd.prog 34 #[nodeV i k m l s B t (.slice (some ⟨b, o, none⟩) n cap), .string x] w fun e w' =>
      ∃ j, Found n nm x j ∧ e = .returned (nameOf n nm ino x j) ∧ Below w.heap.size w w' := by
  have hc : ∀ W, Below w.heap.size w W → Calls Tryd.prog 42 #[nodeV i k m l s B t (.slice (some ⟨b, o, none⟩) n cap), .string x] W fun e w' =>
      ∃ j, Found n nm x j ∧ ((Aside (j < n ∧ scmp (nm j) x = 0) ∧ e = .returned (.tuple #[.int .i64 (j : Nat), .bool true])) ∨ (Aside (¬ (j < n ∧ scmp (nm j) x = 0)) ∧ e = .returned (.tuple #[.int .i64 (j : Nat), .bool false]))) ∧ Below W.heap.size W w' :=
    fun W hW => (place b o n cap nm ino x W hn (Nat.lt_of_lt_of_le hb hW.size) (hN.on hW hb) hmono i k m l s B t hB).mono fun e w' ⟨j, h1, h2, h3⟩ => ⟨j, h1, by
      by_cases h : j < n ∧ scmp (nm j) x = 0
      · exact .inl ⟨h, by rw [h2]; simp [h.1, h.2]⟩
      · refine .inr ⟨h, ?_⟩
        have : (decide (j < n) && decide (scmp (nm j) x = 0)) = false := by
          rw [← Bool.not_eq_true, Bool.and_eq_true, decide_eq_true_eq, decide_eq_true_eq]; exact h
        rw [h2, this], h3⟩
  obtain ⟨A', n', c', rfl⟩ := hB
  have HN : Aside (NameAt w b o n nm ino) := hN
  clear hN hmono
  unfold nodeV at hc ⊢
  go_enter Tryd.func34, Tryd.ntmps34
  go_wp2_with (go_at_call 42; refine (hc _ ((Below.refl _ _).alloc (Nat.le_refl _) _)).mono ?_; rintro e w' ⟨j, hj, ⟨hf, rfl⟩ | ⟨hf, rfl⟩, hbl⟩ <;> first
    | (have hi := (HN.out.on (below_box hbl) hb j hf.out.1).2
       have hq : w'.cell? ⟨w.heap.size, 7, none⟩ = some (.slice (some ⟨b, o, none⟩) n cap) := (hbl.cell (by simp)).trans (World.cell?_alloc_at _ _ _ _ rfl)
       have hjn : j < n := hf.out.1
       have hB : Aside (Below w.heap.size w w') := below_box hbl
       generalize hid : ino j = id at hi
       have ID : Aside (ino j = id) := hid
       clear hbl hid)
    | (have hB : Aside (Below w.heap.size w w') := below_box hbl
       clear hbl))
  · go_ret2
    exact ⟨j, hj, by unfold nameOf; rw [if_pos hf.out, ID.out]; rfl, hB.out⟩
  · go_ret2
    exact ⟨j, hj, by unfold nameOf; rw [if_neg hf.out]; rfl, hB.out⟩
end Go.Proofs.YtaeakifdamlnlaaDoor
