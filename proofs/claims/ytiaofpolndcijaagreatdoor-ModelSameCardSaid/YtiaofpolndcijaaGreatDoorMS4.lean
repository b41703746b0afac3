import Derived.Test.YtiaofpolndcijaaGreatDoorMS3
set_option linter.unusedVariables false
set_option linter.unusedSimpArgs false
set_option maxRecDepth 100000
namespace Go.Proofs.YtiaofpolndcijaaGreatDoor
open Go.RowKit
/-- a value is a row of texts that lie in the memory, and these are they -/
def Nms (w : World) (a : Value) (n : Nat) (xs : Nat → ByteArray) : Prop :=
  n ≤ 9223372036854775807 ∧ ∃ A ca, a = .slice A n ca ∧ (n = 0 ∨ ∃ b o, A = some ⟨b, o, none⟩ ∧ b < w.heap.size ∧ ∀ j, j < n → w.cell? ⟨b, o + j, none⟩ = some (.string (xs j)))
theorem Nms.on {w W : World} {a : Value} {n : Nat} {xs : Nat → ByteArray} (h : Nms w a n xs) (hW : Below w.heap.size w W) : Nms W a n xs := by
  obtain ⟨hn, A, ca, rfl, h⟩ := h
  refine ⟨hn, A, ca, rfl, ?_⟩
  rcases h with h | ⟨b, o, rfl, hb, hc⟩
  · exact .inl h
  · exact .inr ⟨b, o, rfl, Nat.lt_of_lt_of_le hb hW.size, fun j hj => by rw [hW.cell hb]; exact hc j hj⟩
theorem drew0 {w w' : World} (h : w' = w) : ∃ q, w' = w.drewN q := ⟨0, h⟩
theorem nms8 {w : World} {a b : Value} {m n : Nat} {xs ys : Nat → ByteArray} (ha : Nms w a m xs) (hb : Nms w b n ys) (W : World) (hW : Below w.heap.size w W) :
    Calls Tryz.prog 8 #[a, b] W fun e w' => e = .returned (.bool (decide (m = n) && sameTo xs ys n)) ∧ ∃ q, w' = W.drewN q := by
  obtain ⟨hm, A, ca, eA, ka⟩ := ha.on hW
  obtain ⟨hn, B, cb, eB, kb⟩ := hb.on hW
  clear hW ha hb
  subst eA eB
  by_cases hne : m = n
  · subst hne
    by_cases h0 : m = 0
    · subst h0
      clear ka kb hm hn
      refine (slEqual_zero A B ca cb W).mono ?_
      rintro e w' ⟨rfl, hw⟩
      exact ⟨rfl, drew0 hw⟩
    · obtain ⟨b1, o1, rfl, _, hc1⟩ := ka.resolve_left h0
      obtain ⟨b2, o2, rfl, _, hc2⟩ := kb.resolve_left h0
      refine (slEqual_eq b1 o1 b2 o2 m ca cb xs ys W hm hc1 hc2).mono ?_
      rintro e w' ⟨rfl, hw⟩
      exact ⟨by rw [decide_eq_true (rfl : m = m)]; rfl, hw⟩
  · refine (slEqual_ne A B m n ca cb W hne).mono ?_
    rintro e w' ⟨rfl, hw⟩
    exact ⟨by rw [decide_eq_false hne]; rfl, drew0 hw⟩
theorem nms9 {w : World} {a b : Value} {m n : Nat} {xs ys : Nat → ByteArray} (ha : Nms w a m xs) (hb : Nms w b n ys) (W : World) (hW : Below w.heap.size w W) :
    Calls Tryz.prog 9 #[a, b] W fun e w' => e = .returned (.bool (decide (m = n) && sameTo xs ys n)) ∧ ∃ q, w' = W.drewN q := by
  obtain ⟨hm, A, ca, eA, ka⟩ := ha.on hW
  obtain ⟨hn, B, cb, eB, kb⟩ := hb.on hW
  clear hW ha hb
  subst eA eB
  by_cases hne : m = n
  · subst hne
    by_cases h0 : m = 0
    · subst h0
      clear ka kb hm hn
      refine (refSame_zero A B ca cb W).mono ?_
      rintro e w' ⟨rfl, hw⟩
      exact ⟨rfl, drew0 hw⟩
    · obtain ⟨b1, o1, rfl, _, hc1⟩ := ka.resolve_left h0
      obtain ⟨b2, o2, rfl, _, hc2⟩ := kb.resolve_left h0
      refine (refSame_eq b1 o1 b2 o2 m ca cb xs ys W hm hc1 hc2).mono ?_
      rintro e w' ⟨rfl, hw⟩
      exact ⟨by rw [decide_eq_true (rfl : m = m)]; rfl, hw⟩
  · refine (refSame_ne A B m n ca cb W hne).mono ?_
    rintro e w' ⟨rfl, hw⟩
    exact ⟨by rw [decide_eq_false hne]; rfl, drew0 hw⟩
/-- WHAT model.Same SAYS OF TWO REPLIES. -/
theorem modelSame (da na db nb : Value) (i k m l s i' k' m' l' s' : Int) (w : World) (x y : ByteArray) (p q : Nat) (xs ys : Nat → ByteArray)
    (hA : Byt w da x) (hB : Byt w db y) (ha : Nms w na p xs) (hb : Nms w nb q ys) :
    Calls Tryz.prog 4 #[rep da na i k m l s, rep db nb i' k' m' l' s'] w fun e w' =>
      e = .returned (.bool (decide (x = y) && (decide (p = q) && sameTo xs ys q) && decide (i = i' ∧ k = k' ∧ m = m' ∧ l = l' ∧ s = s'))) ∧ Below w.heap.size w w' := by
  have hD : ∀ W, Below w.heap.size w W → Calls Tryz.prog 7 #[da, db] W fun e w' => e = .returned (.bool (decide (x = y))) ∧ w' = W :=
    fun W hW => bytesEqual da db x y W (hA.on hW hW.size) (hB.on hW hW.size)
  have hN := nms8 ha hb
  by_cases h : x = y
  · subst h
    rcases hs : (decide (p = q) && sameTo xs ys q) with _ | _
    · exact (modelSame_n da na db nb i k m l s i' k' m' l' s' w (by simpa using hD) (by simpa only [hs] using hN)).mono fun _ _ ⟨he, hw⟩ => ⟨by rw [he]; simp, hw⟩
    · exact (modelSame_i da na db nb i k m l s i' k' m' l' s' w (by simpa using hD) (by simpa only [hs] using hN)).mono fun _ _ ⟨he, hw⟩ => ⟨by rw [he]; simp, hw⟩
  · exact (modelSame_d da na db nb i k m l s i' k' m' l' s' w (by simpa [h] using hD)).mono fun _ _ ⟨he, hw⟩ => ⟨by rw [he]; simp [h], hw⟩
/-- WHAT the reference's Same SAYS OF TWO REPLIES. -/
theorem refSame22 (da na db nb : Value) (i k m l s i' k' m' l' s' : Int) (w : World) (x y : ByteArray) (p q : Nat) (xs ys : Nat → ByteArray)
    (hA : Byt w da x) (hB : Byt w db y) (ha : Nms w na p xs) (hb : Nms w nb q ys) :
    Calls Tryz.prog 5 #[rep da na i k m l s, rep db nb i' k' m' l' s'] w fun e w' =>
      e = .returned (.bool (decide (x = y) && (decide (p = q) && sameTo xs ys q) && decide (i = i' ∧ k = k' ∧ m = m' ∧ l = l' ∧ s = s'))) ∧ Below w.heap.size w w' := by
  have hN := nms9 ha hb
  by_cases h : x = y
  · subst h
    rcases hs : (decide (p = q) && sameTo xs ys q) with _ | _
    · exact (refSame22_n da na db nb i k m l s i' k' m' l' s' w x hA hB (by simpa only [hs] using hN)).mono fun _ _ ⟨he, hw⟩ => ⟨by rw [he]; simp, hw⟩
    · exact (refSame22_i da na db nb i k m l s i' k' m' l' s' w x hA hB (by simpa only [hs] using hN)).mono fun _ _ ⟨he, hw⟩ => ⟨by rw [he]; simp, hw⟩
  · exact (refSame22_d da na db nb i k m l s i' k' m' l' s' w x y hA hB h).mono fun _ _ ⟨he, hw⟩ => ⟨by rw [he]; simp [h], hw⟩
theorem sameTo_self (xs : Nat → ByteArray) : ∀ n, sameTo xs xs n = true
  | 0 => rfl
  | n + 1 => by simp [sameTo, sameTo_self xs n]
end Go.Proofs.YtiaofpolndcijaaGreatDoor
