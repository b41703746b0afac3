/- What the program's functions of seen answer, over data. -/
import Derived.Test.YtkccnomdfkhfnaaGreatSEF
import Derived.Test.YtkccnomdfkhfnaaGreatSEP0
set_option linter.unusedVariables false
set_option linter.unusedSimpArgs false
namespace Go.Proofs.YtkccnomdfkhfnaaGreat
open Go.RowKit Go.Proofs.YtkccnomdfkhfnaaGreat.Ev
abbrev Str := List UInt8

/-! ## a lower bound, and what is found -/
structure LB {E : Type} (xs : List E) (p : E → Bool) (k : Nat) : Prop where
  le : k ≤ xs.length
  lo : ∀ i (h : i < xs.length), i < k → p xs[i] = true
  hi : ∀ i (h : i < xs.length), k ≤ i → p xs[i] = false
theorem find_lb {E : Type} {xs : List E} {p e : E → Bool} {k : Nat} (L : LB xs p k) (hpe : ∀ x, p x = true → e x = false) (hs : ∀ i j (hi : i < xs.length) (hj : j < xs.length), i < j → e xs[j] = true → p xs[i] = true) :
    xs.find? e = if h : k < xs.length then (if e xs[k] then some xs[k] else none) else none := by
  have none_of : (∀ h : k < xs.length, e xs[k] = false) → xs.find? e = none := fun hk => by
    rw [List.find?_eq_none]
    intro x hx hex
    obtain ⟨i, hi, rfl⟩ := List.getElem_of_mem hx
    rcases Nat.lt_trichotomy i k with g | g | g
    · rw [hpe _ (L.lo i hi g)] at hex; cases hex
    · subst g; rw [hk hi] at hex; cases hex
    · have hk2 : k < xs.length := by omega
      have := hs k i hk2 hi g hex
      rw [L.hi k hk2 (Nat.le_refl _)] at this; cases this
  split
  · rename_i h
    cases he : e xs[k] with
    | false => rw [if_neg (by simp)]; exact none_of fun _ => he
    | true =>
      rw [if_pos rfl, List.find?_eq_some_iff_getElem]
      exact ⟨he, k, h, rfl, fun j hj => by rw [hpe _ (L.lo j (by omega) hj)]; rfl⟩
  · rename_i h
    exact none_of fun h' => absurd h' h

/-! ## numbers compared, nodes found -/
theorem F92_fn (a : Int) : F92.pre (a, ()) ∧ F92.fn (a, ()) = (false, ()) := by simp [F92.pre, F92.fn, F92, DT.pre, DT.fn]
theorem F65_ok (a b : Int) : F65.pre (a, b, ()) ∧ F65.fn (a, b, ()) = ((if a < b then -1 else if b < a then 1 else 0 : Int), ()) := by
  have h : (F65 (a, b, ())).Ok (· = ((if a < b then -1 else if b < a then 1 else 0 : Int), ())) := by
    unfold F65
    simp only [F92_fn, ok_node, ok_leaf, allA_cons, allA_one, allA_nil, true_and, decide_eq_true_eq, decide_eq_false_iff_not]
    refine ⟨fun h => by simp at h, fun _ => ⟨fun h => by simp at h, fun _ => ⟨fun h => ?_, fun h => ⟨fun g => ?_, fun g => ?_⟩⟩⟩⟩
    · rw [if_pos h]
    · rw [if_neg h, if_pos g]
    · rw [if_neg h, if_neg g]
  exact h
theorem F64_ok (n : Ndt) (t : Int) : F64.pre (n, t, ()) ∧ F64.fn (n, t, ()) = ((if n.1 < t then -1 else if t < n.1 then 1 else 0 : Int), ()) := by
  obtain ⟨h1, h2⟩ := F65_ok n.1 t
  refine ⟨?_, ?_⟩
  · simp only [F64.pre, F64, DT.pre, allA_one]; exact h1
  · simp only [F64.fn, F64, DT.fn, h2]
abbrev SortN (xs : List Ndt) : Prop := ∀ i j (hi : i < xs.length) (hj : j < xs.length), i < j → xs[i].1 < xs[j].1
theorem bsN (xs : List Ndt) (t : Int) (hn : xs.length < 2305843009213693952) (hs : SortN xs) : F63_64.pre (xs, t, (), ()) ∧ ∃ k, LB xs (fun x => decide (x.1 < t)) k ∧
    F63_64.fn (xs, t, (), ()) = ((k : Int), (if h : k < xs.length then xs[k].1 == t else false), ()) := by
  obtain ⟨h1, y, h2, h3⟩ := loopP (tr := F63_64L0)
    (fun x => ∃ i j : Nat, x = (xs, t, (), (xs.length : Int), (i : Int), (j : Int), ()) ∧ i ≤ j ∧ j ≤ xs.length ∧ (∀ k (h : k < xs.length), k < i → xs[k].1 < t) ∧ ∀ k (h : k < xs.length), j ≤ k → ¬ xs[k].1 < t)
    (fun x => (x.2.2.2.2.2.1 - x.2.2.2.2.1).toNat)
    (fun y => ∃ k : Nat, y = .inl (xs, t, (), (xs.length : Int), (k : Int), ()) ∧ LB xs (fun x => decide (x.1 < t)) k) (by
      rintro _ ⟨i, j, rfl, hij, hjn, hlo, hhi⟩
      unfold F63_64L0
      simp only [ok_node, ok_leaf, allA_cons, allA_one, allA_nil, true_and, decide_eq_true_eq, decide_eq_false_iff_not]
      refine ⟨fun h => ?_, fun h => ?_⟩
      · have hm := mid_eq (i := i) (j := j) (by omega)
        have hmlt : (i + j) / 2 < xs.length := by omega
        have hx : @id Ndt (xsAt Nd xs ((i + j) / 2)) = xs[(i + j) / 2] := xsAt_lt hmlt
        rw [hm.2, hm.1, Int.toNat_natCast, hx, wrp_succ (by omega)]
        obtain ⟨p1, p2⟩ := F64_ok xs[(i + j) / 2] t
        rw [p2]
        refine ⟨⟨p1, by omega, by rw [Int.ofNat_eq_natCast]; omega, by omega, rfl⟩, fun g => ⟨⟨_, _, rfl, by omega, by omega, fun k hk hki => ?_, hhi⟩, by simp; omega⟩, fun g => ⟨⟨_, _, rfl, by omega, by omega, hlo, fun k hk hki => ?_⟩, by simp; omega⟩⟩
        · have hlt : xs[(i + j) / 2].1 < t := by
            by_cases q : xs[(i + j) / 2].1 < t
            · exact q
            · rw [if_neg q] at g; split at g <;> omega
          rcases Nat.lt_or_ge k ((i + j) / 2) with q | q
          · exact Int.lt_trans (hs k _ hk hmlt q) hlt
          · have : k = (i + j) / 2 := by omega
            subst this; exact hlt
        · have hge : ¬ xs[(i + j) / 2].1 < t := fun q => by rw [if_pos q] at g; omega
          rcases Nat.lt_or_ge ((i + j) / 2) k with q | q
          · have := hs _ k hmlt hk q
            omega
          · have : k = (i + j) / 2 := by omega
            subst this; exact hge
      · have : i = j := by omega
        subst this
        exact ⟨i, rfl, hjn, fun k hk hki => by simpa using hlo k hk hki, fun k hk hki => by simpa using hhi k hk hki⟩)
    _ ⟨0, xs.length, rfl, Nat.zero_le _, Nat.le_refl _, fun k _ h => absurd h (Nat.not_lt_zero _), fun k h h' => absurd h (by omega)⟩
  obtain ⟨k, rfl, L⟩ := h3
  have hk := L.le
  have hok : (F63_64 (xs, t, (), ())).Ok (· = ((k : Int), (if h : k < xs.length then xs[k].1 == t else false), ())) := by
    unfold F63_64
    have h1 : loopInv F63_64L0 (xs, t, (), (Int.ofNat xs.length), (0 : Int), (Int.ofNat xs.length), ()) := h1
    have h2 : loopOut F63_64L0 (xs, t, (), (Int.ofNat xs.length), (0 : Int), (Int.ofNat xs.length), ()) = some (.inl (xs, t, (), (xs.length : Int), (k : Int), ())) := h2
    simp only [h2, getL, ok_node, ok_leaf, allA_cons, allA_one, allA_nil, true_and, decide_eq_true_eq, decide_eq_false_iff_not, Int.toNat_natCast]
    refine ⟨h1, fun h => ?_, fun h => ?_⟩
    · have hlt : k < xs.length := by omega
      have hx : @id Ndt (xsAt Nd xs k) = xs[k] := xsAt_lt hlt
      rw [hx]
      obtain ⟨p1, p2⟩ := F64_ok xs[k] t
      rw [p2, dif_pos hlt]
      refine ⟨⟨p1, by omega, by rw [Int.ofNat_eq_natCast]; omega⟩, ?_⟩
      have : ((if xs[k].1 < t then (-1 : Int) else if t < xs[k].1 then 1 else 0) == 0) = (xs[k].1 == t) := by
        by_cases q : xs[k].1 = t
        · simp [q]
        · have : (xs[k].1 == t) = false := by simpa using q
          rw [this]
          rcases Int.lt_trichotomy xs[k].1 t with g | g | g
          · rw [if_pos g]; rfl
          · exact absurd g q
          · rw [if_neg (by omega), if_pos g]; rfl
      rw [this]
    · rw [dif_neg (by omega)]
  exact ⟨hok.1, k, L, hok.2⟩
end Go.Proofs.YtkccnomdfkhfnaaGreat
