/- What the functions of the other seat compute, written down: turned from the first seat. -/
import Derived.Test.YtkccnomdfkhfnaaSHF
import Derived.Test.YtkccnomdfkhfnaaSEP0
set_option linter.unusedVariables false
set_option linter.unusedSimpArgs false
set_option maxRecDepth 100000
namespace Go.Proofs.Ytkccnomdfkhfnaa
open Go.RowKit Go.Proofs.Ytkccnomdfkhfnaa.Ev
abbrev Str := List UInt8
structure LB {E : Type} (xs : List E) (p : E → Bool) (k : Nat) : Prop where
  le : k ≤ xs.length
  lo : ∀ i (h : i < xs.length), i < k → p xs[i] = true
  hi : ∀ i (h : i < xs.length), k ≤ i → p xs[i] = false
theorem find_lb {E : Type} {xs : List E} {p e : E → Bool} {k : Nat} (L : LB xs p k) (hpe : ∀ x, p x = true → e x = false) (hs : ∀ i j (hi : i < xs.length) (hj : j < xs.length), i < j → e xs[j] = true → p xs[i] = true) :
    xs.find? e = if h : k < xs.length then (if e xs[k] then some xs[k] else none) else none := by
  have none_of : (∀ h : k < xs.length, e xs[k] = false) → xs.find? e = none := fun hk => by
    rw [List.find?_eq_none]
    intro x hx hex
    obtain ⟨i, hi, rfl⟩ := List.getElem_of_mem hx
    rcases Nat.lt_trichotomy i k with g | g | g
    · rw [hpe _ (L.lo i hi g)] at hex; cases hex
    · subst g; rw [hk hi] at hex; cases hex
    · have hk2 : k < xs.length := by omega
      have := hs k i hk2 hi g hex
      rw [L.hi k hk2 (Nat.le_refl _)] at this; cases this
  split
  · rename_i h
    cases he : e xs[k] with
    | false => rw [if_neg (by simp)]; exact none_of fun _ => he
    | true =>
      rw [if_pos rfl, List.find?_eq_some_iff_getElem]
      exact ⟨he, k, h, rfl, fun j hj => by rw [hpe _ (L.lo j (by omega) hj)]; rfl⟩
  · rename_i h
    exact none_of fun h' => absurd h' h
theorem F70_fn (a : Int) : F70.pre (a, ()) ∧ F70.fn (a, ()) = (false, ()) := by simp [F70.pre, F70.fn, F70, DT.pre, DT.fn]
theorem F45_ok (a b : Int) : F45.pre (a, b, ()) ∧ F45.fn (a, b, ()) = ((if a < b then -1 else if b < a then 1 else 0 : Int), ()) := by
  have h : (F45 (a, b, ())).Ok (· = ((if a < b then -1 else if b < a then 1 else 0 : Int), ())) := by
    unfold F45
    simp only [F70_fn, ok_node, ok_leaf, allA_cons, allA_one, allA_nil, true_and, decide_eq_true_eq, decide_eq_false_iff_not]
    refine ⟨fun h => by simp at h, fun _ => ⟨fun h => by simp at h, fun _ => ⟨fun h => ?_, fun h => ⟨fun g => ?_, fun g => ?_⟩⟩⟩⟩
    · rw [if_pos h]
    · rw [if_neg h, if_pos g]
    · rw [if_neg h, if_neg g]
  exact h
theorem F44_ok (n : Ndt) (t : Int) : F44.pre (n, t, ()) ∧ F44.fn (n, t, ()) = ((if n.1 < t then -1 else if t < n.1 then 1 else 0 : Int), ()) := by
  obtain ⟨h1, h2⟩ := F45_ok n.1 t
  refine ⟨?_, ?_⟩
  · simp only [F44.pre, F44, DT.pre, allA_one]; exact h1
  · simp only [F44.fn, F44, DT.fn, h2]
abbrev SortN (xs : List Ndt) : Prop := ∀ i j (hi : i < xs.length) (hj : j < xs.length), i < j → xs[i].1 < xs[j].1
theorem bsN (xs : List Ndt) (t : Int) (hn : xs.length < 2305843009213693952) (hs : SortN xs) : F43_44.pre (xs, t, (), ()) ∧ ∃ k, LB xs (fun x => decide (x.1 < t)) k ∧
    F43_44.fn (xs, t, (), ()) = ((k : Int), (if h : k < xs.length then xs[k].1 == t else false), ()) := by
  obtain ⟨h1, y, h2, h3⟩ := loopP (tr := F43_44L0)
    (fun x => ∃ i j : Nat, x = (xs, t, (), (xs.length : Int), (i : Int), (j : Int), ()) ∧ i ≤ j ∧ j ≤ xs.length ∧ (∀ k (h : k < xs.length), k < i → xs[k].1 < t) ∧ ∀ k (h : k < xs.length), j ≤ k → ¬ xs[k].1 < t)
    (fun x => (x.2.2.2.2.2.1 - x.2.2.2.2.1).toNat)
    (fun y => ∃ k : Nat, y = .inl (xs, t, (), (xs.length : Int), (k : Int), ()) ∧ LB xs (fun x => decide (x.1 < t)) k) (by
      rintro _ ⟨i, j, rfl, hij, hjn, hlo, hhi⟩
      unfold F43_44L0
      simp only [ok_node, ok_leaf, allA_cons, allA_one, allA_nil, true_and, decide_eq_true_eq, decide_eq_false_iff_not]
      refine ⟨fun h => ?_, fun h => ?_⟩
      · have hm := mid_eq (i := i) (j := j) (by omega)
        have hmlt : (i + j) / 2 < xs.length := by omega
        have hx : @id Ndt (xsAt Nd xs ((i + j) / 2)) = xs[(i + j) / 2] := xsAt_lt hmlt
        rw [hm.2, hm.1, Int.toNat_natCast, hx, wrp_succ (by omega)]
        obtain ⟨p1, p2⟩ := F44_ok xs[(i + j) / 2] t
        rw [p2]
        refine ⟨⟨p1, by omega, by rw [Int.ofNat_eq_natCast]; omega, by omega, rfl⟩, fun g => ⟨⟨_, _, rfl, by omega, by omega, fun k hk hki => ?_, hhi⟩, by simp; omega⟩, fun g => ⟨⟨_, _, rfl, by omega, by omega, hlo, fun k hk hki => ?_⟩, by simp; omega⟩⟩
        · have hlt : xs[(i + j) / 2].1 < t := by
            by_cases q : xs[(i + j) / 2].1 < t
            · exact q
            · rw [if_neg q] at g; split at g <;> omega
          rcases Nat.lt_or_ge k ((i + j) / 2) with q | q
          · exact Int.lt_trans (hs k _ hk hmlt q) hlt
          · have : k = (i + j) / 2 := by omega
            subst this; exact hlt
        · have hge : ¬ xs[(i + j) / 2].1 < t := fun q => by rw [if_pos q] at g; omega
          rcases Nat.lt_or_ge ((i + j) / 2) k with q | q
          · have := hs _ k hmlt hk q
            omega
          · have : k = (i + j) / 2 := by omega
            subst this; exact hge
      · have : i = j := by omega
        subst this
        exact ⟨i, rfl, hjn, fun k hk hki => by simpa using hlo k hk hki, fun k hk hki => by simpa using hhi k hk hki⟩)
    _ ⟨0, xs.length, rfl, Nat.zero_le _, Nat.le_refl _, fun k _ h => absurd h (Nat.not_lt_zero _), fun k h h' => absurd h (by omega)⟩
  obtain ⟨k, rfl, L⟩ := h3
  have hk := L.le
  have hok : (F43_44 (xs, t, (), ())).Ok (· = ((k : Int), (if h : k < xs.length then xs[k].1 == t else false), ())) := by
    unfold F43_44
    have h1 : loopInv F43_44L0 (xs, t, (), (Int.ofNat xs.length), (0 : Int), (Int.ofNat xs.length), ()) := h1
    have h2 : loopOut F43_44L0 (xs, t, (), (Int.ofNat xs.length), (0 : Int), (Int.ofNat xs.length), ()) = some (.inl (xs, t, (), (xs.length : Int), (k : Int), ())) := h2
    simp only [h2, getL, ok_node, ok_leaf, allA_cons, allA_one, allA_nil, true_and, decide_eq_true_eq, decide_eq_false_iff_not, Int.toNat_natCast]
    refine ⟨h1, fun h => ?_, fun h => ?_⟩
    · have hlt : k < xs.length := by omega
      have hx : @id Ndt (xsAt Nd xs k) = xs[k] := xsAt_lt hlt
      rw [hx]
      obtain ⟨p1, p2⟩ := F44_ok xs[k] t
      rw [p2, dif_pos hlt]
      refine ⟨⟨p1, by omega, by rw [Int.ofNat_eq_natCast]; omega⟩, ?_⟩
      have : ((if xs[k].1 < t then (-1 : Int) else if t < xs[k].1 then 1 else 0) == 0) = (xs[k].1 == t) := by
        by_cases q : xs[k].1 = t
        · simp [q]
        · have : (xs[k].1 == t) = false := by simpa using q
          rw [this]
          rcases Int.lt_trichotomy xs[k].1 t with g | g | g
          · rw [if_pos g]; rfl
          · exact absurd g q
          · rw [if_neg (by omega), if_pos g]; rfl
      rw [this]
    · rw [dif_neg (by omega)]
  exact ⟨hok.1, k, L, hok.2⟩
theorem bl_irrefl : ∀ x : Str, Op.bytesLess x x = false
  | [] => rfl
  | a :: x => by simp [Op.bytesLess, bl_irrefl x]
theorem bl_anti : ∀ a b : Str, Op.bytesLess a b = false → Op.bytesLess b a = false → a = b
  | [], [], _, _ => rfl
  | [], _ :: _, h, _ => by simp [Op.bytesLess] at h
  | _ :: _, [], _, h => by simp [Op.bytesLess] at h
  | a :: x, b :: y, h, k => by
    simp only [Op.bytesLess, Bool.or_eq_false_iff, decide_eq_false_iff_not, Bool.and_eq_false_iff] at h k
    have e : a = b := UInt8.le_antisymm (UInt8.not_lt.1 k.1) (UInt8.not_lt.1 h.1)
    subst e
    rcases h.2 with g | g
    · simp at g
    · rcases k.2 with g' | g'
      · simp at g'
      · rw [bl_anti x y g g']
theorem bl_trans : ∀ a b c : Str, Op.bytesLess a b = true → Op.bytesLess b c = true → Op.bytesLess a c = true
  | _, [], _, h, _ => by simp [Op.bytesLess] at h
  | _, _ :: _, [], _, k => by simp [Op.bytesLess] at k
  | [], _ :: _, _ :: _, _, _ => rfl
  | a :: x, b :: y, c :: z, h, k => by
    simp only [Op.bytesLess, Bool.or_eq_true, decide_eq_true_eq, Bool.and_eq_true, beq_iff_eq] at h k ⊢
    rcases h with h | ⟨h, h'⟩
    · rcases k with k | ⟨k, k'⟩
      · exact .inl (UInt8.lt_trans h k)
      · subst k; exact .inl h
    · subst h
      rcases k with k | ⟨k, k'⟩
      · exact .inl k
      · exact .inr ⟨k, bl_trans x y z h' k'⟩
theorem bl_asymm {a b : Str} (h : Op.bytesLess a b = true) : Op.bytesLess b a = false := by
  cases q : Op.bytesLess b a with
  | false => rfl
  | true => have := bl_trans a b a h q; rw [bl_irrefl] at this; cases this
theorem bl_ne {a b : Str} (h : Op.bytesLess a b = true) : a ≠ b := fun e => by rw [e, bl_irrefl] at h; cases h
theorem F99_fn (a : Str) : F99.pre (a, ()) ∧ F99.fn (a, ()) = (false, ()) := by simp [F99.pre, F99.fn, F99, DT.pre, DT.fn]
theorem F92_ok (a b : Str) : F92.pre (a, b, ()) ∧ F92.fn (a, b, ()) = ((if Op.bytesLess a b then -1 else if a = b then 0 else 1 : Int), ()) := by
  have h : (F92 (a, b, ())).Ok (· = ((if Op.bytesLess a b then -1 else if a = b then 0 else 1 : Int), ())) := by
    unfold F92
    simp only [F99_fn, ok_node, ok_leaf, allA_cons, allA_one, allA_nil, true_and]
    refine ⟨fun h => by simp at h, fun _ => ⟨fun h => by simp at h, fun _ => ⟨fun h => ?_, fun h => ⟨fun g => ?_, fun g => ?_⟩⟩⟩⟩
    · rw [if_pos h]
    · simp [h] at g; simp [h, g]
    · simp [h] at g; simp [h, g, bl_irrefl]
  exact h
theorem F91_ok (n : Nmt) (t : Str) : F91.pre (n, t, ()) ∧ F91.fn (n, t, ()) = ((if Op.bytesLess n.1 t then -1 else if n.1 = t then 0 else 1 : Int), ()) := by
  obtain ⟨h1, h2⟩ := F92_ok n.1 t
  refine ⟨?_, ?_⟩
  · simp only [F91.pre, F91, DT.pre, allA_one]; exact h1
  · simp only [F91.fn, F91, DT.fn, h2]
abbrev SortS (xs : List Nmt) : Prop := ∀ i j (hi : i < xs.length) (hj : j < xs.length), i < j → Op.bytesLess xs[i].1 xs[j].1 = true
theorem bsS (xs : List Nmt) (t : Str) (hn : xs.length < 2305843009213693952) (hs : SortS xs) : F90_91.pre (xs, t, (), ()) ∧ ∃ k, LB xs (fun x => Op.bytesLess x.1 t) k ∧
    F90_91.fn (xs, t, (), ()) = ((k : Int), (if h : k < xs.length then xs[k].1 == t else false), ()) := by
  obtain ⟨h1, y, h2, h3⟩ := loopP (tr := F90_91L0)
    (fun x => ∃ i j : Nat, x = (xs, t, (), (xs.length : Int), (i : Int), (j : Int), ()) ∧ i ≤ j ∧ j ≤ xs.length ∧ (∀ k (h : k < xs.length), k < i → Op.bytesLess xs[k].1 t = true) ∧ ∀ k (h : k < xs.length), j ≤ k → Op.bytesLess xs[k].1 t = false)
    (fun x => (x.2.2.2.2.2.1 - x.2.2.2.2.1).toNat)
    (fun y => ∃ k : Nat, y = .inl (xs, t, (), (xs.length : Int), (k : Int), ()) ∧ LB xs (fun x => Op.bytesLess x.1 t) k) (by
      rintro _ ⟨i, j, rfl, hij, hjn, hlo, hhi⟩
      unfold F90_91L0
      simp only [ok_node, ok_leaf, allA_cons, allA_one, allA_nil, true_and, decide_eq_true_eq, decide_eq_false_iff_not]
      refine ⟨fun h => ?_, fun h => ?_⟩
      · have hm := mid_eq (i := i) (j := j) (by omega)
        have hmlt : (i + j) / 2 < xs.length := by omega
        have hx : @id Nmt (xsAt Nm xs ((i + j) / 2)) = xs[(i + j) / 2] := xsAt_lt hmlt
        rw [hm.2, hm.1, Int.toNat_natCast, hx, wrp_succ (by omega)]
        obtain ⟨p1, p2⟩ := F91_ok xs[(i + j) / 2] t
        rw [p2]
        refine ⟨⟨p1, by omega, by rw [Int.ofNat_eq_natCast]; omega, by omega, rfl⟩, fun g => ⟨⟨_, _, rfl, by omega, by omega, fun k hk hki => ?_, hhi⟩, by simp; omega⟩, fun g => ⟨⟨_, _, rfl, by omega, by omega, hlo, fun k hk hki => ?_⟩, by simp; omega⟩⟩
        · have hlt : Op.bytesLess xs[(i + j) / 2].1 t = true := by
            cases q : Op.bytesLess xs[(i + j) / 2].1 t with
            | true => rfl
            | false => rw [if_neg (by simp [q])] at g; split at g <;> omega
          rcases Nat.lt_or_ge k ((i + j) / 2) with q | q
          · exact bl_trans _ _ _ (hs k _ hk hmlt q) hlt
          · have : k = (i + j) / 2 := by omega
            subst this; exact hlt
        · have hge : Op.bytesLess xs[(i + j) / 2].1 t = false := by
            cases q : Op.bytesLess xs[(i + j) / 2].1 t with
            | false => rfl
            | true => rw [if_pos q] at g; omega
          rcases Nat.lt_or_ge ((i + j) / 2) k with q | q
          · have h2 := hs _ k hmlt hk q
            cases z : Op.bytesLess xs[k].1 t with
            | false => rfl
            | true => have := bl_trans _ _ _ h2 z; rw [hge] at this; cases this
          · have : k = (i + j) / 2 := by omega
            subst this; exact hge
      · have : i = j := by omega
        subst this
        exact ⟨i, rfl, hjn, fun k hk hki => hlo k hk hki, fun k hk hki => hhi k hk hki⟩)
    _ ⟨0, xs.length, rfl, Nat.zero_le _, Nat.le_refl _, fun k _ h => absurd h (Nat.not_lt_zero _), fun k h h' => absurd h (by omega)⟩
  obtain ⟨k, rfl, L⟩ := h3
  have hk := L.le
  have hok : (F90_91 (xs, t, (), ())).Ok (· = ((k : Int), (if h : k < xs.length then xs[k].1 == t else false), ())) := by
    unfold F90_91
    have h1 : loopInv F90_91L0 (xs, t, (), (Int.ofNat xs.length), (0 : Int), (Int.ofNat xs.length), ()) := h1
    have h2 : loopOut F90_91L0 (xs, t, (), (Int.ofNat xs.length), (0 : Int), (Int.ofNat xs.length), ()) = some (.inl (xs, t, (), (xs.length : Int), (k : Int), ())) := h2
    simp only [h2, getL, ok_node, ok_leaf, allA_cons, allA_one, allA_nil, true_and, decide_eq_true_eq, decide_eq_false_iff_not, Int.toNat_natCast]
    refine ⟨h1, fun h => ?_, fun h => ?_⟩
    · have hlt : k < xs.length := by omega
      have hx : @id Nmt (xsAt Nm xs k) = xs[k] := xsAt_lt hlt
      rw [hx]
      obtain ⟨p1, p2⟩ := F91_ok xs[k] t
      rw [p2, dif_pos hlt]
      refine ⟨⟨p1, by omega, by rw [Int.ofNat_eq_natCast]; omega⟩, ?_⟩
      have : ((if Op.bytesLess xs[k].1 t then (-1 : Int) else if xs[k].1 = t then 0 else 1) == 0) = (xs[k].1 == t) := by
        rw [if_neg (by have : Op.bytesLess xs[k].1 t = false := L.hi k hlt (Nat.le_refl _); simp [this])]
        by_cases q : xs[k].1 = t
        · simp [q]
        · have : (xs[k].1 == t) = false := by simpa using q
          rw [this, if_neg q]; rfl
      rw [this]
    · rw [dif_neg (by omega)]
  exact ⟨hok.1, k, L, hok.2⟩
abbrev ndNames (n : Ndt) : List Nmt := n.2.2.2.2.2.2.2
abbrev ndBlocks (n : Ndt) : List Bkt := n.2.2.2.2.2.1
abbrev dkNodes (d : Dkt) : List Ndt := d.2.2.2
abbrev ndZ : Ndt := (0, 0, 0, 0, 0, [], [], [])
def nodeOf (d : Dkt) (u : Int) : Option Ndt := (dkNodes d).find? fun n => n.1 == u
def nameOf (n : Ndt) (s : Str) : Option Int := ((ndNames n).find? fun x => x.1 == s).map (·.2)
structure SmN (n : Ndt) : Prop where
  names : (ndNames n).length < 2305843009213693952
  blocks : (ndBlocks n).length < 2305843009213693952
  wf : WfE Nd n
structure SmD (d : Dkt) : Prop where
  nodes : (dkNodes d).length < 2305843009213693952
  each : ∀ n ∈ dkNodes d, SmN n
  wf : WfE Dk d
structure Rises (d : Dkt) : Prop where
  sm : SmD d
  nodes : SortN (dkNodes d)
  names : ∀ n ∈ dkNodes d, SortS (ndNames n)
theorem row_small {e : ET} {xs : List e.T} (h : WfL (.row e) xs) (h2 : 8 ≤ e.by) : List.length xs < 2305843009213693952 := by
  simp only [WfL] at h
  have h1 : List.length xs * e.by ≤ Room := h.1
  have : List.length xs * 8 ≤ List.length xs * e.by := Nat.mul_le_mul_left _ h2
  unfold Room at h1
  omega
theorem SmN.of {n : Ndt} (h : WfE Nd n) : SmN n := by
  have h0 := h
  simp only [Nd, WfE] at h
  exact ⟨row_small (e := Nm) h.2.2.2.2.2.2.2 (by decide), row_small (e := Bk) h.2.2.2.2.2.1 (by decide), h0⟩
theorem SmD.of {d : Dkt} (h : WfE Dk d) : SmD d := by
  have h0 := h
  simp only [Dk, WfE] at h
  refine ⟨row_small (e := Nd) h.2.2.2 (by decide), fun n hn => ?_, h0⟩
  obtain ⟨i, hi, rfl⟩ := List.getElem_of_mem hn
  have h3 := h.2.2.2
  simp only [WfL] at h3
  exact SmN.of (h3.2 i _ (List.getElem?_eq_getElem hi))
theorem ndZ_sm : SmN ndZ := ⟨by decide, by decide, by
  simp only [Nd, WfE, WfL]
  exact ⟨rfl, rfl, rfl, rfl, rfl, ⟨by decide, fun i x h => by cases i <;> cases h⟩, by decide, ⟨by decide, fun i x h => by cases i <;> cases h⟩⟩⟩
theorem Rises.node {d : Dkt} (h : Rises d) (u : Int) : SmN ((nodeOf d u).getD ndZ) ∧ SortS (ndNames ((nodeOf d u).getD ndZ)) := by
  cases q : nodeOf d u with
  | none => exact ⟨ndZ_sm, fun i j hi => absurd hi (Nat.not_lt_zero _)⟩
  | some n =>
    have := List.mem_of_find?_eq_some q
    exact ⟨h.sm.each n this, h.names n this⟩
theorem nodes_bs {d : Dkt} (h : Rises d) (u : Int) : F43_44.pre (dkNodes d, u, (), ()) ∧ ∃ k : Nat, F43_44.fn (dkNodes d, u, (), ()) = ((k : Int), (nodeOf d u).isSome, ()) ∧ (nodeOf d u = none ∨ ∃ h : k < (dkNodes d).length, nodeOf d u = some (dkNodes d)[k]) := by
  obtain ⟨h1, k, L, h2⟩ := bsN (dkNodes d) u h.sm.nodes h.nodes
  have hf := find_lb (e := fun n => n.1 == u) L (fun x hx => by simp at hx ⊢; omega) (fun i j hi hj hij he => by simp at he ⊢; have := h.nodes i j hi hj hij; omega)
  have hf : nodeOf d u = if h : k < (dkNodes d).length then (if (dkNodes d)[k].1 == u then some (dkNodes d)[k] else none) else none := hf
  refine ⟨h1, k, ?_, ?_⟩
  · rw [h2, hf]
    split
    · split <;> simp_all
    · rfl
  · rw [hf]
    split
    · rename_i hk
      split
      · exact .inr ⟨hk, rfl⟩
      · exact .inl rfl
    · exact .inl rfl
theorem names_bs {n : Ndt} (h : SmN n) (hs : SortS (ndNames n)) (s : Str) : F40.pre (n, s, ()) ∧ F40.fn (n, s, ()) = ((nameOf n s).getD 0, (nameOf n s).isSome, ()) := by
  obtain ⟨h1, k, L, h2⟩ := bsS (ndNames n) s h.names hs
  have hf := find_lb (e := fun x => x.1 == s) L (fun x hx => by have := bl_ne hx; simpa using this) (fun i j hi hj hij he => by simp at he; have := hs i j hi hj hij; rw [he] at this; exact this)
  have hf : nameOf n s = (if h : k < (ndNames n).length then (if (ndNames n)[k].1 == s then some (ndNames n)[k] else none) else none).map (·.2) := congrArg (Option.map fun (x : Nmt) => x.2) hf
  have h91 : F68.pre (n, s, ()) ∧ F68.fn (n, s, ()) = ((k : Int), (if h : k < (ndNames n).length then (ndNames n)[k].1 == s else false), ()) := by
    refine ⟨?_, ?_⟩
    · simp only [F68.pre, F68, DT.pre, allA_one]; exact h1
    · simp only [F68.fn, F68, DT.fn]; rw [h2]
  have hok : (F40 (n, s, ())).Ok (· = ((nameOf n s).getD 0, (nameOf n s).isSome, ())) := by
    unfold F40
    rw [h91.2, hf]
    simp only [ok_node, ok_leaf, allA_cons, allA_one, allA_nil, true_and, Int.toNat_natCast]
    refine ⟨h91.1, fun g => ?_, fun g => ?_⟩
    · split at g
      · rename_i hk
        rw [dif_pos hk, if_neg (by simpa using g)]; rfl
      · rename_i hk
        rw [dif_neg hk]; rfl
    · split at g
      · rename_i hk
        rw [dif_pos hk, if_pos (by simpa using g)]
        have hx : @id Nmt (xsAt Nm (ndNames n) k) = (ndNames n)[k] := xsAt_lt hk
        rw [hx]
        have hk' : k < n.2.2.2.2.2.2.2.length := hk
        exact ⟨⟨by omega, by rw [Int.ofNat_eq_natCast]; omega⟩, rfl⟩
      · simp at g
  exact hok
abbrev wWays (w : Wdt) : List Int := w.1
abbrev wDisks (w : Wdt) : List Dkt := w.2.2.1
abbrev sOpq : Str := dec 12 14380664602328719262401654897 []
abbrev sWh : Str := dec 4 779577390 []
def white (s : Str) : Str := sWh ++ s
def dkOf (w : Wdt) (s : Spt) : Dkt := @id Dkt (xsAt Dk (wDisks w) (Int.toNat s.1))
def nodeZ (w : Wdt) (s : Spt) : Ndt := (nodeOf (dkOf w s) s.2).getD ndZ
def heeds (ways : List Int) (b : Int) : Bool := decide (0 ≤ b) && (decide (b < Int.ofNat ways.length) && ((@id Int (xsAt (.one (.int .i64)) ways (Int.toNat b)) == 1) || (@id Int (xsAt (.one (.int .i64)) ways (Int.toNat b)) == 3)))
def sign (w : Wdt) (s : Spt) (x : Str) : Bool := (nameOf (nodeZ w s) x).isSome && (((nodeZ w s).2.1 == 2) && heeds (wWays w) s.1)
structure GoodD (d : Dkt) : Prop extends Rises d where
  few : ∀ n ∈ dkNodes d, (ndNames n).length ≤ 1048576
  short : ∀ n ∈ dkNodes d, ∀ x ∈ ndNames n, List.length x.1 ≤ 1048576
structure GoodW (w : Wdt) : Prop where
  disks : (wDisks w).length ≤ 8
  ways : (wWays w).length < 2305843009213693952
  each : ∀ d ∈ wDisks w, GoodD d
def SpotOk (w : Wdt) (s : Spt) : Prop := 0 ≤ s.1 ∧ s.1 < Int.ofNat (wDisks w).length
theorem dkOf_mem {w : Wdt} {s : Spt} (h : SpotOk w s) : dkOf w s ∈ wDisks w := by
  have hlt : Int.toNat s.1 < (wDisks w).length := by obtain ⟨h1, h2⟩ := h; rw [Int.ofNat_eq_natCast] at h2; omega
  have : dkOf w s = (wDisks w)[Int.toNat s.1] := xsAt_lt hlt
  rw [this]; exact List.getElem_mem hlt
theorem nodeZ_few {w : Wdt} (hw : GoodW w) {s : Spt} (h : SpotOk w s) : (ndNames (nodeZ w s)).length ≤ 1048576 := by
  have hd := hw.each _ (dkOf_mem h)
  unfold nodeZ
  cases q : nodeOf (dkOf w s) s.2 with
  | none => exact Nat.zero_le _
  | some n => exact hd.few n (List.mem_of_find?_eq_some q)
theorem nodeZ_good {w : Wdt} (hw : GoodW w) {s : Spt} (h : SpotOk w s) : SmN (nodeZ w s) ∧ SortS (ndNames (nodeZ w s)) ∧ ∀ x ∈ ndNames (nodeZ w s), List.length x.1 ≤ 1048576 := by
  have hd := hw.each _ (dkOf_mem h)
  obtain ⟨h1, h2⟩ := hd.toRises.node s.2
  refine ⟨h1, h2, ?_⟩
  unfold nodeZ
  cases q : nodeOf (dkOf w s) s.2 with
  | none => intro x hx; cases hx
  | some n => exact hd.short n (List.mem_of_find?_eq_some q)
theorem F20_ok {w : Wdt} (hw : GoodW w) {s : Spt} (h : SpotOk w s) : F20.pre (w, s, ()) ∧ F20.fn (w, s, ()) = (nodeZ w s, ()) := by
  have hd := hw.each _ (dkOf_mem h)
  obtain ⟨h1, k, h2, h3⟩ := nodes_bs hd.toRises s.2
  have hok : (F20 (w, s, ())).Ok (· = (nodeZ w s, ())) := by
    unfold F20
    have e : (@id Dkt (xsAt Dk w.2.2.1 (Int.toNat s.1))) = dkOf w s := rfl
    simp only [e]
    have h1 : F43_44.pre ((dkOf w s).2.2.2, s.2, (), ()) := h1
    have h2 : F43_44.fn ((dkOf w s).2.2.2, s.2, (), ()) = ((k : Int), (nodeOf (dkOf w s) s.2).isSome, ()) := h2
    rw [h2]
    simp only [ok_node, ok_leaf, allA_cons, allA_one, allA_nil, true_and, Int.toNat_natCast]
    refine ⟨⟨h1, h.1, h.2⟩, fun g => ?_, fun g => ?_⟩
    · unfold nodeZ
      cases q : nodeOf (dkOf w s) s.2 with
      | none => rfl
      | some n => rw [q] at g; simp at g
    · rcases h3 with h3 | ⟨hk, h3⟩
      · rw [h3] at g; simp at g
      · have hx : @id Ndt (xsAt Nd (dkOf w s).2.2.2 k) = (dkNodes (dkOf w s))[k] := xsAt_lt hk
        rw [hx]
        have hk : k < (dkOf w s).2.2.2.length := hk
        refine ⟨⟨by omega, by rw [Int.ofNat_eq_natCast]; omega⟩, ?_⟩
        unfold nodeZ
        rw [h3]; rfl
  exact hok
theorem F93_ok (c : Cft) (b way : Int) : F93.pre (c, b, way, ()) ∧ F93.fn (c, b, way, ()) = (decide (0 ≤ b) && (decide (b < Int.ofNat c.1.length) && (@id Int (xsAt (.one (.int .i64)) c.1 (Int.toNat b)) == way)), ()) := by
  have hok : (F93 (c, b, way, ())).Ok (· = (decide (0 ≤ b) && (decide (b < Int.ofNat c.1.length) && (@id Int (xsAt (.one (.int .i64)) c.1 (Int.toNat b)) == way)), ())) := by
    unfold F93
    simp only [ok_node, ok_leaf, allA_cons, allA_one, allA_nil, true_and, decide_eq_true_eq, decide_eq_false_iff_not]
    refine ⟨fun h => ⟨fun g => ⟨⟨h, g⟩, ?_⟩, fun g => ?_⟩, fun h => ?_⟩
    · have h : (0 : Int) ≤ b := h
      rw [decide_eq_true h, decide_eq_true g]; rfl
    · have h : (0 : Int) ≤ b := h
      rw [decide_eq_true h, decide_eq_false g]; rfl
    · have h : ¬ (0 : Int) ≤ b := h
      rw [decide_eq_false h]; rfl
  exact hok
theorem F69_ok (c : Cft) (b : Int) : F69.pre (c, b, ()) ∧ F69.fn (c, b, ()) = (heeds c.1 b, ()) := by
  obtain ⟨p1, e1⟩ := F93_ok c b 1
  obtain ⟨p3, e3⟩ := F93_ok c b 3
  have hok : (F69 (c, b, ())).Ok (· = (heeds c.1 b, ())) := by
    unfold F69
    simp only [e1, e3, ok_node, ok_leaf, allA_cons, allA_one, allA_nil, true_and]
    unfold heeds
    refine ⟨p1, fun g => ?_, fun g => ⟨p3, ?_⟩⟩
    · simp only [Bool.and_eq_true] at g
      rw [g.1, g.2.1, g.2.2]; rfl
    · generalize (@id Int (xsAt (.one (.int .i64)) c.1 (Int.toNat b)) == 1) = p at g ⊢
      generalize (@id Int (xsAt (.one (.int .i64)) c.1 (Int.toNat b)) == 3) = q at g ⊢
      generalize decide (0 ≤ b) = r at g ⊢
      generalize decide (b < Int.ofNat c.1.length) = t at g ⊢
      revert g
      cases p <;> cases q <;> cases r <;> cases t <;> simp
  exact hok
theorem F41_ok {w : Wdt} (hw : GoodW w) {s : Spt} (h : SpotOk w s) (x : Str) : F41.pre (w, s, x, ()) ∧ F41.fn (w, s, x, ()) = (sign w s x, ()) := by
  obtain ⟨p1, e1⟩ := F20_ok hw h
  obtain ⟨g1, g2, _⟩ := nodeZ_good hw h
  obtain ⟨p2, e2⟩ := names_bs g1 g2 x
  obtain ⟨p3, e3⟩ := F69_ok (w.1, w.2.1) s.1
  have hok : (F41 (w, s, x, ())).Ok (· = (sign w s x, ())) := by
    unfold F41
    simp only [e1, e2, e3, ok_node, ok_leaf, allA_cons, allA_one, allA_nil, true_and]
    unfold sign
    refine ⟨⟨p2, p1⟩, fun a => ⟨fun b => ⟨p3, by rw [a, b]; rfl⟩, fun b => by rw [a, b]; rfl⟩, fun a => by rw [a]; rfl⟩
  exact hok
theorem sWh_len : List.length sWh = 4 := by decide
theorem F42_ok {x : Str} (h : List.length x ≤ 2000000) : F42.pre (x, ()) ∧ F42.fn (x, ()) = (white x, ()) := by
  refine ⟨?_, rfl⟩
  simp only [F42.pre, F42, DT.pre, allA_one]
  have : List.length (dec 4 779577390 []) = 4 := sWh_len
  rw [this]; unfold Room; omega
def scanB (w : Wdt) (name : Str) (l : List Spt) (d : Spt) : List Spt ⊕ (List Spt × Int) :=
  match nameOf (nodeZ w d) name with
  | some ino => bif (nodeZ w (d.1, ino)).2.1 == 2 then
      (bif sign w (d.1, ino) sOpq then .inr (l ++ [(d.1, ino)], d.1) else bif sign w d (white name) then .inr (l ++ [(d.1, ino)], d.1) else .inl (l ++ [(d.1, ino)]))
    else .inr (bif (Int.ofNat l.length) == 0 then l ++ [(d.1, ino)] else l, d.1 - 1)
  | none => bif sign w d (white name) then .inr (l, d.1) else .inl l
def scanS (w : Wdt) (name : Str) : List Spt → List Spt → List Spt × Int
  | [], l => (l, Int.ofNat (wDisks w).length - 1)
  | d :: r, l => match scanB w name l d with
    | .inl l' => scanS w name r l'
    | .inr y => y
theorem scanB_len {w : Wdt} {name : Str} {l : List Spt} {d : Spt} {l' : List Spt} (h : scanB w name l d = .inl l') : l'.length ≤ l.length + 1 := by
  unfold scanB at h
  split at h
  · cases h1 : ((nodeZ w (d.1, _)).2.1 == 2) <;> rw [h1] at h
    · cases h
    · simp only [cond_true] at h
      cases h2 : sign w (d.1, _) sOpq <;> rw [h2] at h
      · simp only [cond_false] at h
        cases h3 : sign w d (white name) <;> rw [h3] at h
        · cases h; simp
        · cases h
      · cases h
  · cases h3 : sign w d (white name) <;> rw [h3] at h
    · cases h; omega
    · cases h
abbrev stS (w : Wdt) (name : Str) (dirs l : List Spt) (i : Nat) : List UInt8 × Unit × List Spt × List Spt × Int × Int × List (Int) × Int × List Dkt × Int × List Rwt × List Rwt × Int × Unit :=
  (name, (), l, dirs, (dirs.length : Int), (i : Int), w.1, w.2.1, w.2.2.1, w.2.2.2.1, w.2.2.2.2.1, w.2.2.2.2.2.1, w.2.2.2.2.2.2, ())
theorem F19_step {w : Wdt} (hw : GoodW w) {name : Str} (hn : List.length name ≤ 2000000) {dirs : List Spt} (hd : ∀ d ∈ dirs, SpotOk w d) (hlen : dirs.length < 2305843009213693952) {l : List Spt} {i : Nat} (hi : i < dirs.length) (hl : l.length * 16 + 16 ≤ Room) :
    (F19L0 (stS w name dirs l i)).Ok fun r => r = match scanB w name l dirs[i] with
      | .inl l' => .inl (stS w name dirs l' (i + 1))
      | .inr y => .inr (.inl (y.1, y.2, ())) := by
  have hs : SpotOk w dirs[i] := hd _ (List.getElem_mem hi)
  have hx : @id Spt (xsAt Sp dirs i) = dirs[i] := xsAt_lt hi
  generalize hdi : dirs[i] = d at hs hx ⊢
  obtain ⟨p1, e1⟩ := F20_ok hw hs
  obtain ⟨g1, g2, _⟩ := nodeZ_good hw hs
  obtain ⟨p2, e2⟩ := names_bs g1 g2 name
  obtain ⟨p3, e3⟩ := F42_ok hn
  obtain ⟨p4, e4⟩ := F41_ok hw hs (white name)
  have hs' : ∀ ino, SpotOk w (d.1, ino) := fun ino => hs
  have hwr : wrp .i64 (d.1 - 1) = d.1 - 1 := by
    obtain ⟨a, b⟩ := hs
    rw [Int.ofNat_eq_natCast] at b
    have := hw.disks
    exact wrp_id (by omega) (by omega)
  have hroom : ∀ s : Spt, (List.length (l ++ [s])) * 16 ≤ Room := fun s => by simp; omega
  unfold F19L0
  have e5 : ∀ ino, F41.pre (w, (d.1, ino), sOpq, ()) ∧ F41.fn (w, (d.1, ino), sOpq, ()) = (sign w (d.1, ino) sOpq, ()) := fun ino => F41_ok hw (hs' ino) sOpq
  have e6 : ∀ ino, F20.pre (w, (d.1, ino), ()) ∧ F20.fn (w, (d.1, ino), ()) = (nodeZ w (d.1, ino), ()) := fun ino => F20_ok hw (hs' ino)
  simp only [Int.toNat_natCast, hx, e1, e2, e3, e4, e5, e6, ok_node, ok_leaf, allA_cons, allA_one, allA_nil, true_and, wrp_succ (show i < 4611686018427387904 by omega), hwr, p1, p2, p3, p4, hroom, and_true]
  have hi2 : (i : Int) < (dirs.length : Int) := by omega
  have hi3 : (i : Int) < Int.ofNat dirs.length := hi2
  simp only [decide_eq_true hi2, hi3, Int.natCast_nonneg, true_and, forall_const, and_true, Bool.true_eq_false, false_implies]
  unfold scanB
  cases q : nameOf (nodeZ w d) name with
  | none =>
    simp only [Option.isSome_none, Option.getD_none, Bool.false_eq_true, false_implies, forall_const, true_and]
    cases sign w d (white name) <;> simp
  | some ino =>
    simp only [Option.isSome_some, Option.getD_some, Bool.true_eq_false, false_implies, forall_const, and_true]
    cases (nodeZ w (d.1, ino)).2.1 == 2 <;> cases ((Int.ofNat l.length) == 0) <;> cases sign w (d.1, ino) sOpq <;> cases sign w d (white name) <;> simp
theorem F19_ok {w : Wdt} (hw : GoodW w) {name : Str} (hn : List.length name ≤ 2000000) {dirs : List Spt} (hd : ∀ d ∈ dirs, SpotOk w d) (hlen : dirs.length ≤ 1000) :
    F19.pre (w, dirs, name, ()) ∧ F19.fn (w, dirs, name, ()) = ((scanS w name dirs []).1, (scanS w name dirs []).2, ()) := by
  have hdk : w.2.2.1.length ≤ 8 := hw.disks
  obtain ⟨h1, y, h2, h3⟩ := loopP (tr := F19L0)
    (fun x => ∃ (i : Nat) (l : List Spt), x = stS w name dirs l i ∧ i ≤ dirs.length ∧ l.length ≤ i ∧ scanS w name (dirs.drop i) l = scanS w name dirs [])
    (fun x => (x.2.2.2.2.1 - x.2.2.2.2.2.1).toNat)
    (fun y => y = .inl ((scanS w name dirs []).1, (scanS w name dirs []).2, ()) ∨ ∃ l : List Spt, y = .inr (.inl ((), l, w.1, w.2.1, w.2.2.1, w.2.2.2.1, w.2.2.2.2.1, w.2.2.2.2.2.1, w.2.2.2.2.2.2, ())) ∧ scanS w name dirs [] = (l, Int.ofNat (wDisks w).length - 1)) (by
      rintro _ ⟨i, l, rfl, hi, hl, hR⟩
      rcases Nat.lt_or_ge i dirs.length with g | g
      · obtain ⟨s1, s2⟩ := F19_step hw hn hd (by omega) g (l := l) (by unfold Room; omega)
        refine ⟨s1, ?_⟩
        rw [s2]
        rw [List.drop_eq_getElem_cons g] at hR
        simp only [scanS] at hR
        cases q : scanB w name l dirs[i] with
        | inl l' =>
          rw [q] at hR
          have := scanB_len q
          exact ⟨⟨i + 1, l', rfl, g, by omega, hR⟩, by simp; omega⟩
        | inr y =>
          rw [q] at hR
          exact .inl (by rw [← hR])
      · have : i = dirs.length := by omega
        subst this
        rw [List.drop_length] at hR
        unfold F19L0
        simp only [ok_node, ok_leaf, allA_nil, true_and, Int.lt_irrefl, decide_false, Bool.false_eq_true, false_implies, forall_const]
        exact .inr ⟨l, rfl, hR.symm⟩)
    _ ⟨0, [], rfl, Nat.zero_le _, Nat.le_refl _, rfl⟩
  have hok : (F19 (w, dirs, name, ())).Ok (· = ((scanS w name dirs []).1, (scanS w name dirs []).2, ())) := by
    unfold F19
    have h1 : loopInv F19L0 (name, (), [], dirs, (Int.ofNat (List.length dirs)), (0 : Int), w.1, w.2.1, w.2.2.1, w.2.2.2.1, w.2.2.2.2.1, w.2.2.2.2.2.1, w.2.2.2.2.2.2, ()) := h1
    have h2 : loopOut F19L0 (name, (), [], dirs, (Int.ofNat (List.length dirs)), (0 : Int), w.1, w.2.1, w.2.2.1, w.2.2.2.1, w.2.2.2.2.1, w.2.2.2.2.2.1, w.2.2.2.2.2.2, ()) = some y := h2
    simp only [h1, h2, ok_node, ok_leaf, allA_cons, allA_one, allA_nil, true_and]
    rcases h3 with rfl | ⟨l, rfl, e⟩
    · simp [isL, getL]
    · simp only [isL, getL, restR, Bool.false_eq_true, false_implies, forall_const, true_and, e]
      rw [wrp_id (by rw [Int.ofNat_eq_natCast]; omega) (by rw [Int.ofNat_eq_natCast]; omega)]
  exact hok
theorem F10_ok {w : Wdt} (hw : GoodW w) {name : Str} (hn : List.length name ≤ 2000000) {dirs : List Spt} (hd : ∀ d ∈ dirs, SpotOk w d) (hlen : dirs.length ≤ 1000) :
    F10.pre (w, dirs, name, ()) ∧ F10.fn (w, dirs, name, ()) = ((scanS w name dirs []).1, ()) := by
  obtain ⟨p, e⟩ := F19_ok hw hn hd hlen
  exact ⟨by simp only [F10.pre, F10, DT.pre, allA_one]; exact p, by simp only [F10.fn, F10, DT.fn, e]⟩
def rootsS (n : Nat) : List Spt := (List.range n).map fun (i : Nat) => ((i : Int), (1 : Int))
theorem rootsS_succ (i : Nat) : rootsS (i + 1) = rootsS i ++ [((i : Int), (1 : Int))] := by simp [rootsS, List.range_succ]
theorem rootsS_len (n : Nat) : (rootsS n).length = n := by simp [rootsS]
theorem rootsS_ok {w : Wdt} : ∀ d ∈ rootsS (wDisks w).length, SpotOk w d := by
  intro d hd
  obtain ⟨i, hi, rfl⟩ := List.mem_map.1 hd
  have := List.mem_range.1 hi
  refine ⟨Int.natCast_nonneg _, ?_⟩
  rw [Int.ofNat_eq_natCast]
  show (i : Int) < _
  omega
theorem F9_ok {w : Wdt} (hw : (wDisks w).length ≤ 8) : F9.pre (w, ()) ∧ F9.fn (w, ()) = (rootsS (wDisks w).length, ()) := by
  have hw' : w.2.2.1.length ≤ 8 := hw
  obtain ⟨h1, y, h2, h3⟩ := loopP (tr := F9L0) (fun x => ∃ i : Nat, x = (rootsS i, ((wDisks w).length : Int), (i : Int), ()) ∧ i ≤ (wDisks w).length) (fun x => (x.2.1 - x.2.2.1).toNat) (fun y => y = .inl (rootsS (wDisks w).length, ())) (by
    rintro _ ⟨i, rfl, hi⟩
    unfold F9L0
    simp only [ok_node, ok_leaf, allA_cons, allA_one, allA_nil, true_and, decide_eq_true_eq, decide_eq_false_iff_not]
    refine ⟨fun g => ⟨?_, ⟨i + 1, ?_, ?_⟩, ?_⟩, fun g => ?_⟩
    · rw [List.length_append, rootsS_len]; unfold Room; simp; omega
    · rw [wrp_succ (by omega), rootsS_succ]
    · omega
    · rw [wrp_succ (by omega)]; simp; omega
    · have : i = (wDisks w).length := by omega
      subst this; rfl)
    _ ⟨0, rfl, Nat.zero_le _⟩
  subst h3
  have hok : (F9 (w, ())).Ok (· = (rootsS (wDisks w).length, ())) := by
    unfold F9
    have h1 : loopInv F9L0 ([], (Int.ofNat (List.length w.2.2.1)), (0 : Int), ()) := h1
    have h2 : loopOut F9L0 ([], (Int.ofNat (List.length w.2.2.1)), (0 : Int), ()) = some (.inl (rootsS (wDisks w).length, ())) := h2
    simp only [h1, h2, ok_leaf, allA_one, true_and]
    simp [getL]
  exact hok
def kept (x : Str) : Bool := decide ((Int.ofNat (List.length x)) ≥ (4 : Int)) && ((List.take 4 x) == sWh)
theorem F25_ok (x : Str) : F25.pre (x, ()) ∧ F25.fn (x, ()) = (kept x, ()) := by
  have hok : (F25 (x, ())).Ok (· = (kept x, ())) := by
    unfold F25
    simp only [ok_node, ok_leaf, allA_cons, allA_one, allA_nil, true_and]
    unfold kept
    refine ⟨fun g => ⟨⟨by omega, by simpa using g⟩, by rw [g]; rfl⟩, fun g => by rw [g]; rfl⟩
  exact hok
def goneB (w : Wdt) (dirs : List Spt) (x : Str) : Bool := kept x || ((Int.ofNat (List.length (scanS w x dirs []).1)) == (0 : Int))
theorem F48_ok {w : Wdt} (hw : GoodW w) {dirs : List Spt} (hd : ∀ d ∈ dirs, SpotOk w d) (hlen : dirs.length ≤ 1000) {xs : List Str} (hxs : xs.length < 2305843009213693952) (hx : ∀ x ∈ xs, List.length x ≤ 1048576) : F48_24.pre (xs, (w, dirs, ()), ()) ∧ ∃ k : Int, F48_24.fn (xs, (w, dirs, ()), ()) = (k, ()) ∧ ((k = -1 ∧ ∀ x ∈ xs, goneB w dirs x = false) ∨ ∃ i : Nat, k = i ∧ i < xs.length ∧ (∀ j (h : j < xs.length), j < i → goneB w dirs xs[j] = false) ∧ ∀ (h : i < xs.length), goneB w dirs xs[i] = true) := by
  obtain ⟨h1, y, h2, h3⟩ := loopP (tr := F48_24L0)
    (fun x => ∃ i : Nat, x = (xs, (w, dirs, ()), (xs.length : Int), (i : Int), ()) ∧ i ≤ xs.length ∧ ∀ j (h : j < xs.length), j < i → goneB w dirs xs[j] = false)
    (fun x => (x.2.2.1 - x.2.2.2.1).toNat)
    (fun y => (y = .inr (.inl ()) ∧ ∀ x ∈ xs, goneB w dirs x = false) ∨ ∃ i : Nat, y = .inl ((i : Int), ()) ∧ i < xs.length ∧ (∀ j (h : j < xs.length), j < i → goneB w dirs xs[j] = false) ∧ ∀ (h : i < xs.length), goneB w dirs xs[i] = true) (by
      rintro _ ⟨i, rfl, hi, hR⟩
      rcases Nat.lt_or_ge i xs.length with g | g
      · have hxi : @id (List UInt8) (xsAt (.one .str) xs i) = xs[i] := xsAt_lt g
        obtain ⟨p1, e1⟩ := F25_ok xs[i]
        obtain ⟨p2, e2⟩ := F10_ok hw (name := xs[i]) (by have := hx _ (List.getElem_mem g); omega) hd hlen
        have c1 : @id Wdt (xsAt Wd [w] 0) = w := rfl
        have c2 : @id (List (Int × Int)) (xsAt (.one (.row Sp)) [dirs] 0) = dirs := rfl
        have hi3 : (i : Int) < Int.ofNat xs.length := by rw [Int.ofNat_eq_natCast]; omega
        have hi2 : (i : Int) < (xs.length : Int) := hi3
        unfold F48_24L0
        simp only [Int.toNat_natCast, hxi, c1, c2, e1, e2, ok_node, ok_leaf, allA_cons, allA_one, allA_nil, true_and, wrp_succ (show i < 4611686018427387904 by omega), p1, p2, and_true, decide_eq_true hi2, hi3, Int.natCast_nonneg, forall_const, Bool.true_eq_false, false_implies]
        refine ⟨fun q => .inr ⟨i, rfl, g, hR, fun _ => by unfold goneB; rw [q]; rfl⟩, fun q => ⟨fun q2 => .inr ⟨i, rfl, g, hR, fun _ => by unfold goneB; rw [q, q2]; rfl⟩, fun q2 => ⟨⟨i + 1, rfl, g, fun j hj hji => ?_⟩, by simp; omega⟩⟩⟩
        rcases Nat.lt_or_ge j i with z | z
        · exact hR j hj z
        · have : j = i := by omega
          subst this; unfold goneB; rw [q, q2]; rfl
      · have : i = xs.length := by omega
        subst this
        unfold F48_24L0
        simp only [ok_node, ok_leaf, allA_nil, true_and, Int.lt_irrefl, decide_false, Bool.false_eq_true, false_implies, forall_const]
        have hall : ∀ x ∈ xs, goneB w dirs x = false := fun x hx => by
          obtain ⟨j, hj, rfl⟩ := List.getElem_of_mem hx
          exact hR j hj hj
        first | exact .inl ⟨by simp, hall⟩ | exact hall | exact .inl hall)
    _ ⟨0, rfl, Nat.zero_le _, fun j _ h => absurd h (Nat.not_lt_zero _)⟩
  have h1 : loopInv F48_24L0 (xs, ((@id (Wdt) (xsAt Wd [w] 0)), (@id (List (Int × Int)) (xsAt (.one (.row Sp)) [dirs] 0)), ()), (Int.ofNat (List.length xs)), (0 : Int), ()) := h1
  have h2 : loopOut F48_24L0 (xs, ((@id (Wdt) (xsAt Wd [w] 0)), (@id (List (Int × Int)) (xsAt (.one (.row Sp)) [dirs] 0)), ()), (Int.ofNat (List.length xs)), (0 : Int), ()) = some y := h2
  rcases h3 with ⟨rfl, h3⟩ | ⟨i, rfl, h3, h4, h5⟩
  · have hok : (F48_24 (xs, (w, dirs, ()), ())).Ok (· = ((-1 : Int), ())) := by
      unfold F48_24
      simp only [h1, h2, ok_node, ok_leaf, allA_cons, allA_one, allA_nil, true_and]
      simp [isL]
    exact ⟨hok.1, -1, hok.2, .inl ⟨rfl, h3⟩⟩
  · have hok : (F48_24 (xs, (w, dirs, ()), ())).Ok (· = ((i : Int), ())) := by
      unfold F48_24
      simp only [h1, h2, ok_node, ok_leaf, allA_cons, allA_one, allA_nil, true_and]
      simp [isL, getL]
    exact ⟨hok.1, _, hok.2, .inr ⟨i, rfl, h3, h4, h5⟩⟩
theorem F23_ok {w : Wdt} (hw : GoodW w) {dirs : List Spt} (hd : ∀ d ∈ dirs, SpotOk w d) (hlen : dirs.length ≤ 1000) {xs : List Str} (hxs : xs.length < 2305843009213693952) (hx : ∀ x ∈ xs, List.length x ≤ 1048576) : F23_24.pre (xs, (w, dirs, ()), ()) ∧ F23_24.fn (xs, (w, dirs, ()), ()) = (xs.filter fun x => !goneB w dirs x, ()) := by
  obtain ⟨p0, k, e0, h0⟩ := F48_ok hw hd hlen hxs hx
  have c1 : @id Wdt (xsAt Wd [w] 0) = w := rfl
  have c2 : @id (List (Int × Int)) (xsAt (.one (.row Sp)) [dirs] 0) = dirs := rfl
  rcases h0 with ⟨rfl, hall⟩ | ⟨i0, rfl, hi0, hlo, hat⟩
  · have hok : (F23_24 (xs, (w, dirs, ()), ())).Ok (· = (xs.filter fun x => !goneB w dirs x, ())) := by
      unfold F23_24
      simp only [c1, c2, e0, p0, ok_node, ok_leaf, allA_cons, allA_one, allA_nil, true_and]
      refine ⟨fun _ => ?_, fun h => by simp at h⟩
      rw [List.filter_eq_self.2 fun x hx => by rw [hall x hx]; rfl]
    exact hok
  · obtain ⟨h1, y, h2, h3⟩ := loopP (tr := F23_24L0)
      (fun x => ∃ (ys : List Str) (i j : Nat), x = (ys, (w, dirs, ()), (i : Int), (j : Int), ()) ∧ ys.length = xs.length ∧ i < j ∧ j ≤ xs.length ∧ ys.take i = (xs.take j).filter (fun x => !goneB w dirs x) ∧ ys.drop j = xs.drop j)
      (fun x => (xs.length - x.2.2.2.1).toNat)
      (fun y => ∃ (ys : List Str) (i : Nat), y = .inl (ys, (i : Int), ()) ∧ ys.length = xs.length ∧ i ≤ xs.length ∧ ys.take i = xs.filter (fun x => !goneB w dirs x)) (by
        rintro _ ⟨ys, i, j, rfl, hl, hij, hj, ht, hdr⟩
        rcases Nat.lt_or_ge j xs.length with g | g
        · have hjy : j < ys.length := Nat.lt_of_lt_of_eq g hl.symm
          have hyj : ys[j] = xs[j] := by
            have h1 : (ys.drop j)[0]? = (xs.drop j)[0]? := by rw [hdr]
            simp only [List.getElem?_drop, Nat.add_zero] at h1
            rw [List.getElem?_eq_getElem hjy, List.getElem?_eq_getElem g] at h1
            exact Option.some.inj h1
          have hxi : @id (List UInt8) (xsAt (.one .str) ys (0 + j)) = xs[j] := by rw [Nat.zero_add, ← hyj]; exact xsAt_lt hjy
          obtain ⟨p1, e1⟩ := F25_ok xs[j]
          obtain ⟨p2, e2⟩ := F10_ok hw (name := xs[j]) (by have := hx _ (List.getElem_mem g); omega) hd hlen
          have hi3 : (j : Int) < Int.ofNat ys.length := by rw [Int.ofNat_eq_natCast]; omega
          have hi4 : (i : Int) < Int.ofNat ys.length := by rw [Int.ofNat_eq_natCast]; omega
          unfold F23_24L0
          simp only [Int.toNat_natCast, hxi, c1, c2, e1, e2, ok_node, ok_leaf, allA_cons, allA_one, allA_nil, true_and, wrp_succ (show j < 4611686018427387904 by omega), wrp_succ (show i < 4611686018427387904 by omega), p1, p2, and_true, hi3, hi4, decide_true, Int.natCast_nonneg, forall_const, Bool.true_eq_false, false_implies]
          have htk : xs.take (j + 1) = xs.take j ++ [xs[j]] := by rw [List.take_add_one, List.getElem?_eq_getElem g]; rfl
          have hdr1 : ys.drop (j + 1) = xs.drop (j + 1) := by
            rw [← List.drop_drop, ← List.drop_drop, hdr]
          have gone : goneB w dirs xs[j] = true → ys.take i = (xs.take (j + 1)).filter (fun x => !goneB w dirs x) := fun h => by
            rw [htk, List.filter_append, ht]; simp [h]
          have mdec : (((xs.length : Int) - ((j + 1 : Nat) : Int)).toNat) < (((xs.length : Int) - (j : Int)).toNat) := by omega
          refine ⟨fun q => ⟨⟨ys, i, j + 1, rfl, hl, by omega, g, gone (by unfold goneB; rw [q]; rfl), hdr1⟩, mdec⟩, fun q => ⟨fun q2 => ⟨⟨_, i + 1, j + 1, rfl, by simp [hl], by omega, g, ?_, ?_⟩, mdec⟩, fun q2 => ⟨⟨ys, i, j + 1, rfl, hl, by omega, g, gone (by unfold goneB; rw [q]; simpa using q2), hdr1⟩, mdec⟩⟩⟩
          · have hk : goneB w dirs xs[j] = false := by unfold goneB; rw [q]; simpa using q2
            rw [htk, List.filter_append, ← ht]
            simp only [hk, Bool.not_false, List.filter_cons_of_pos, List.filter_nil, Nat.zero_add]
            rw [List.take_add_one, List.take_set_of_le (Nat.le_refl _)]
            simp [show i < ys.length by omega]
          · rw [Nat.zero_add, List.drop_set_of_lt (by omega)]; exact hdr1
        · have hje : j = xs.length := by omega
          subst hje
          rw [List.take_length] at ht
          have hi3 : ¬ ((xs.length : Int) < Int.ofNat ys.length) := by rw [hl, Int.ofNat_eq_natCast]; omega
          unfold F23_24L0
          simp only [ok_node, ok_leaf, allA_nil, true_and, decide_eq_false hi3, Bool.false_eq_true, false_implies, forall_const]
          exact ⟨ys, i, rfl, hl, by omega, ht⟩)
      (xs, (w, dirs, ()), ((i0 : Nat) : Int), ((i0 + 1 : Nat) : Int), ()) ⟨xs, i0, i0 + 1, rfl, rfl, by omega, hi0, by
        rw [List.take_add_one, List.getElem?_eq_getElem hi0, List.filter_append]
        have : (List.filter (fun x => !goneB w dirs x) (some xs[i0]).toList) = [] := by simp [hat hi0]
        rw [this, List.append_nil, List.filter_eq_self.2 fun x hx => ?_]
        obtain ⟨j, hj, rfl⟩ := List.getElem_of_mem hx
        rw [List.length_take] at hj
        rw [List.getElem_take, hlo j (by omega) (by omega)]; rfl, rfl⟩
    obtain ⟨ys, i, rfl, hl, hi, ht⟩ := h3
    have hok : (F23_24 (xs, (w, dirs, ()), ())).Ok (· = (xs.filter fun x => !goneB w dirs x, ())) := by
      unfold F23_24
      simp only [c1, c2, e0, p0, ok_node, ok_leaf, allA_cons, allA_one, allA_nil, true_and]
      refine ⟨fun h => by first | (simp at h; done) | (simp at h; omega), fun _ => ?_⟩
      rw [wrp_succ (show i0 < 4611686018427387904 by omega)]
      have hi4 : (i : Int) ≤ Int.ofNat ys.length := by rw [hl, Int.ofNat_eq_natCast]; omega
      simp only [h1, h2, getL, Int.natCast_nonneg, hi4, true_and, Int.toNat_natCast]
      rw [List.drop_zero, Nat.zero_add, List.append_assoc, List.take_append_of_le_length (by simp; omega), List.take_take, Nat.min_self, ht]
    exact hok
theorem F82_ok {sz : Int} {bl : List Bkt} (hw : WfL (.row Bk) bl) : F82.pre ((sz, bl), ()) ∧ F82.fn ((sz, bl), ()) = ((sz, bl), ()) := by
  have hlen : List.length bl * 32 ≤ Room := by simp only [WfL] at hw; exact hw.1
  have hroomN : List.length bl < 4611686018427387904 := by unfold Room at hlen; omega
  obtain ⟨h1, y, h2, h3⟩ := loopP (tr := F82L0) (fun x => ∃ i : Nat, x = ((), (), (), (i : Int), sz, bl, (0 : Int), (), sz, bl.take i, ()) ∧ i ≤ bl.length) (fun x => (x.2.2.2.2.2.1.length - x.2.2.2.1).toNat) (fun y => y = .inl ((), (), (0 : Int), (), sz, bl, ())) (by
    rintro _ ⟨i, rfl, hi⟩
    rcases Nat.lt_or_ge i bl.length with g | g
    · have hx : @id Bkt (xsAt Bk bl i) = bl[i] := xsAt_lt g
      have hb : List.length bl[i].2 * 1 ≤ Room := by
        simp only [WfL] at hw
        have := hw.2 i _ (List.getElem?_eq_getElem g)
        simp only [Bk, WfE, WfL] at this
        exact this.2.1
      have hi3 : (i : Int) < Int.ofNat bl.length := by rw [Int.ofNat_eq_natCast]; omega
      have htk : bl.take i ++ (bl[i].1, [] ++ bl[i].2) :: [] = bl.take (i + 1) := by rw [List.take_add_one, List.getElem?_eq_getElem g]; rfl
      unfold F82L0
      simp only [Int.toNat_natCast, hx, htk, hi3, decide_true, ok_node, ok_leaf, allA_cons, allA_one, allA_nil, true_and, and_true, Int.natCast_nonneg, forall_const, Bool.true_eq_false, false_implies, wrp_succ (show i < 4611686018427387904 by omega)]
      refine ⟨⟨?_, ?_⟩, ⟨i + 1, rfl, g⟩, ?_⟩
      · rw [List.length_take]; have := Nat.min_le_right (i + 1) bl.length; unfold Room at hlen ⊢; omega
      · simpa using hb
      · simp; omega
    · have : i = bl.length := by omega
      subst this
      unfold F82L0
      simp [List.take_length])
    _ ⟨0, rfl, Nat.zero_le _⟩
  subst h3
  have hok : (F82 ((sz, bl), ())).Ok (· = ((sz, bl), ())) := by
    unfold F82
    have h1 : loopInv F82L0 ((), (), (), (0 : Int), sz, bl, (0 : Int), (), sz, [], ()) := h1
    have h2 : loopOut F82L0 ((), (), (), (0 : Int), sz, bl, (0 : Int), (), sz, [], ()) = some (.inl ((), (), (0 : Int), (), sz, bl, ())) := h2
    simp only [h1, h2, ok_leaf, allA_one, true_and]
    simp [getL]
  exact hok
theorem F52_ok {n : Ndt} (hw : WfE Nd n) : F52.pre (n, ()) ∧ F52.fn (n, ()) = (n, ()) := by
  have h := hw
  simp only [Nd, WfE] at h
  have hb : WfL (.row Bk) n.2.2.2.2.2.1 := h.2.2.2.2.2.1
  obtain ⟨p, e⟩ := F82_ok (sz := n.2.2.2.2.1) hb
  have hn : List.length n.2.2.2.2.2.2.2 * 24 ≤ Room := by
    have h3 := h.2.2.2.2.2.2.2
    simp only [WfL] at h3
    exact h3.1
  have hok : (F52 (n, ())).Ok (· = (n, ())) := by
    unfold F52
    simp only [e, ok_leaf, allA_cons, allA_one, List.nil_append, p, hn, true_and]
  exact hok
theorem F49_ok {d : Dkt} (hd : SmD d) (u : Int) : F49.pre (d, u, ()) ∧ F49.fn (d, u, ()) = ((nodeOf d u).getD ndZ, (nodeOf d u).isSome, ()) := by
  have hsm : d.2.2.2.length < 2305843009213693952 := hd.nodes
  obtain ⟨h1, y, h2, h3⟩ := loopP (tr := F49L0)
    (fun x => ∃ i : Nat, x = (u, (), (), (i : Int), d.1, d.2.1, d.2.2.1, d.2.2.2, (0 : Int), (0 : Int), (0 : Int), (0 : Int), (0 : Int), (), (dec 0 0 []), (), ()) ∧ i ≤ d.2.2.2.length ∧ (d.2.2.2.drop i).find? (fun n => n.1 == u) = nodeOf d u)
    (fun x => (x.2.2.2.2.2.2.2.1.length - x.2.2.2.1).toNat)
    (fun y => (∃ n : Ndt, y = .inl ((), true, n.1, n.2.1, n.2.2.1, n.2.2.2.1, n.2.2.2.2.1, n.2.2.2.2.2.1, n.2.2.2.2.2.2.1, n.2.2.2.2.2.2.2, ()) ∧ nodeOf d u = some n) ∨ (∃ z, y = .inr (.inl z)) ∧ nodeOf d u = none) (by
      rintro _ ⟨i, rfl, hi, hR⟩
      rcases Nat.lt_or_ge i d.2.2.2.length with g | g
      · have hx : @id Ndt (xsAt Nd d.2.2.2 i) = d.2.2.2[i] := xsAt_lt g
        obtain ⟨p, e⟩ := F52_ok (hd.each _ (List.getElem_mem g)).wf
        rw [List.drop_eq_getElem_cons g, List.find?_cons] at hR
        have hi3 : (i : Int) < Int.ofNat d.2.2.2.length := by rw [Int.ofNat_eq_natCast]; omega
        unfold F49L0
        simp only [Int.toNat_natCast, hx, e, p, hi3, decide_true, ok_node, ok_leaf, allA_cons, allA_one, allA_nil, true_and, and_true, Int.natCast_nonneg, forall_const, Bool.true_eq_false, false_implies, wrp_succ (show i < 4611686018427387904 by omega)]
        refine ⟨fun q => .inl ⟨d.2.2.2[i], rfl, ?_⟩, fun q => ⟨⟨i + 1, rfl, g, ?_⟩, by simp; omega⟩⟩
        · rw [q] at hR; exact hR.symm
        · rw [q] at hR; exact hR
      · have : i = d.2.2.2.length := by omega
        subst this
        rw [List.drop_length] at hR
        unfold F49L0
        simp only [ok_node, ok_leaf, allA_nil, true_and, Int.ofNat_eq_natCast, Int.lt_irrefl, decide_false, Bool.false_eq_true, false_implies, forall_const]
        first | exact .inr ⟨⟨_, rfl⟩, hR.symm⟩ | exact .inr ⟨trivial, hR.symm⟩ | simp [← hR])
    _ ⟨0, rfl, Nat.zero_le _, rfl⟩
  have hok : (F49 (d, u, ())).Ok (· = ((nodeOf d u).getD ndZ, (nodeOf d u).isSome, ())) := by
    unfold F49
    have h1 : loopInv F49L0 (u, (), (), (0 : Int), d.1, d.2.1, d.2.2.1, d.2.2.2, (0 : Int), (0 : Int), (0 : Int), (0 : Int), (0 : Int), (), (dec 0 0 []), (), ()) := h1
    have h2 : loopOut F49L0 (u, (), (), (0 : Int), d.1, d.2.1, d.2.2.1, d.2.2.2, (0 : Int), (0 : Int), (0 : Int), (0 : Int), (0 : Int), (), (dec 0 0 []), (), ()) = some y := h2
    simp only [h1, h2, ok_node, ok_leaf, allA_cons, allA_one, allA_nil, true_and]
    rcases h3 with ⟨n, rfl, e⟩ | ⟨⟨z, rfl⟩, e⟩
    · simp [isL, getL, e]
    · rw [e]
      refine ⟨fun h => by simp [isL] at h, fun _ => rfl⟩
  exact hok
theorem F50_ok {n : Ndt} (hn : SmN n) (s : Str) : F50.pre (n, s, ()) ∧ F50.fn (n, s, ()) = ((nameOf n s).getD 0, (nameOf n s).isSome, ()) := by
  have hsm : n.2.2.2.2.2.2.2.length < 2305843009213693952 := hn.names
  obtain ⟨h1, y, h2, h3⟩ := loopP (tr := F50L0)
    (fun x => ∃ i : Nat, x = (s, (), (i : Int), n.1, n.2.1, n.2.2.1, n.2.2.2.1, n.2.2.2.2.1, n.2.2.2.2.2.1, n.2.2.2.2.2.2.1, n.2.2.2.2.2.2.2, ()) ∧ i ≤ n.2.2.2.2.2.2.2.length ∧ ((n.2.2.2.2.2.2.2.drop i).find? (fun x => x.1 == s)).map (·.2) = nameOf n s)
    (fun x => (x.2.2.2.2.2.2.2.2.2.2.1.length - x.2.2.1).toNat)
    (fun y => (∃ v : Int, y = .inl (v, true, ()) ∧ nameOf n s = some v) ∨ (∃ z, y = .inr (.inl z)) ∧ nameOf n s = none) (by
      rintro _ ⟨i, rfl, hi, hR⟩
      rcases Nat.lt_or_ge i n.2.2.2.2.2.2.2.length with g | g
      · have hx : @id Nmt (xsAt Nm n.2.2.2.2.2.2.2 i) = n.2.2.2.2.2.2.2[i] := xsAt_lt g
        rw [List.drop_eq_getElem_cons g, List.find?_cons] at hR
        have hi3 : (i : Int) < Int.ofNat n.2.2.2.2.2.2.2.length := by rw [Int.ofNat_eq_natCast]; omega
        unfold F50L0
        simp only [Int.toNat_natCast, hx, hi3, decide_true, ok_node, ok_leaf, allA_cons, allA_one, allA_nil, true_and, and_true, Int.natCast_nonneg, forall_const, Bool.true_eq_false, false_implies, wrp_succ (show i < 4611686018427387904 by omega)]
        refine ⟨fun q => .inl ⟨_, rfl, ?_⟩, fun q => ⟨⟨i + 1, rfl, g, ?_⟩, by simp; omega⟩⟩
        · rw [q] at hR; exact hR.symm
        · rw [q] at hR; exact hR
      · have : i = n.2.2.2.2.2.2.2.length := by omega
        subst this
        rw [List.drop_length] at hR
        unfold F50L0
        simp only [ok_node, ok_leaf, allA_nil, true_and, Int.ofNat_eq_natCast, Int.lt_irrefl, decide_false, Bool.false_eq_true, false_implies, forall_const]
        first | exact .inr ⟨⟨_, rfl⟩, hR.symm⟩ | exact .inr ⟨trivial, hR.symm⟩ | simp [← hR])
    _ ⟨0, rfl, Nat.zero_le _, rfl⟩
  have hok : (F50 (n, s, ())).Ok (· = ((nameOf n s).getD 0, (nameOf n s).isSome, ())) := by
    unfold F50
    have h1 : loopInv F50L0 (s, (), (0 : Int), n.1, n.2.1, n.2.2.1, n.2.2.2.1, n.2.2.2.2.1, n.2.2.2.2.2.1, n.2.2.2.2.2.2.1, n.2.2.2.2.2.2.2, ()) := h1
    have h2 : loopOut F50L0 (s, (), (0 : Int), n.1, n.2.1, n.2.2.1, n.2.2.2.1, n.2.2.2.2.1, n.2.2.2.2.2.1, n.2.2.2.2.2.2.1, n.2.2.2.2.2.2.2, ()) = some y := h2
    simp only [h1, h2, ok_node, ok_leaf, allA_cons, allA_one, allA_nil, true_and]
    rcases h3 with ⟨n, rfl, e⟩ | ⟨⟨z, rfl⟩, e⟩
    · simp [isL, getL, e]
    · rw [e]
      refine ⟨fun h => by simp [isL] at h, fun _ => rfl⟩
  exact hok
theorem nodeOf_sm {d : Dkt} (hd : SmD d) (u : Int) : SmN ((nodeOf d u).getD ndZ) := by
  cases q : nodeOf d u with
  | none => exact ndZ_sm
  | some n => exact hd.each n (List.mem_of_find?_eq_some q)
theorem F16_ok {x : Str} (h : List.length x ≤ 2000000) : F16.pre (x, ()) ∧ F16.fn (x, ()) = (white x, ()) := by
  refine ⟨?_, rfl⟩
  simp only [F16.pre, F16, DT.pre, allA_one]
  have : List.length (dec 4 779577390 []) = 4 := sWh_len
  rw [this]; unfold Room; omega
abbrev Lt (a b : Str) : Prop := Op.bytesLess a b = true
abbrev Rise (l : List Str) : Prop := l.Pairwise Lt
theorem rise_ext : ∀ a b : List Str, Rise a → Rise b → (∀ x, x ∈ a ↔ x ∈ b) → a = b
  | [], [], _, _, _ => rfl
  | [], y :: b, _, _, h => by have := (h y).2 List.mem_cons_self; cases this
  | x :: a, [], _, _, h => by have := (h x).1 List.mem_cons_self; cases this
  | x :: a, y :: b, ha, hb, h => by
    rw [Rise, List.pairwise_cons] at ha hb
    have hxy : x = y := by
      rcases List.mem_cons.1 ((h x).1 List.mem_cons_self) with e | e
      · exact e
      · rcases List.mem_cons.1 ((h y).2 List.mem_cons_self) with e' | e'
        · exact e'.symm
        · have h1 := hb.1 x e
          have h2 : Op.bytesLess x y = true := ha.1 y e'
          rw [bl_asymm h1] at h2; cases h2
    subst hxy
    rw [rise_ext a b ha.2 hb.2 fun z => ⟨fun hz => ?_, fun hz => ?_⟩]
    · rcases List.mem_cons.1 ((h z).1 (List.mem_cons_of_mem _ hz)) with e | e
      · subst e; have := ha.1 z hz; rw [Lt, bl_irrefl] at this; cases this
      · exact e
    · rcases List.mem_cons.1 ((h z).2 (List.mem_cons_of_mem _ hz)) with e | e
      · subst e; have := hb.1 z hz; rw [Lt, bl_irrefl] at this; cases this
      · exact e
theorem sort_le (l : List Str) : (F21.fn l).Pairwise fun a b => Op.bytesLess b a = false := by
  have hle : ∀ a b : Str, decide (a ≤ b) = !Op.bytesLess b a := fun a b => by
    rw [bytesLess_eq]
    by_cases h : b < a
    · have : ¬ a ≤ b := fun q => q h
      simp [h, this]
    · have : a ≤ b := h
      simp [h, this]
  have h := List.pairwise_mergeSort (le := fun x y : Str => decide (x ≤ y)) (fun a b c h1 h2 => by
    rw [hle] at h1 h2 ⊢
    simp only [Bool.not_eq_true'] at h1 h2 ⊢
    cases q : Op.bytesLess c a with
    | false => rfl
    | true =>
      cases z : Op.bytesLess a b with
      | true => have := bl_trans _ _ _ q z; rw [h2] at this; cases this
      | false => have := bl_anti a b z h1; subst this; rw [h2] at q; cases q) (fun a b => by
    rw [hle, hle]
    cases q : Op.bytesLess b a with
    | false => rfl
    | true => rw [bl_asymm q]; rfl) l
  refine List.Pairwise.imp (fun {a b} h => ?_) h
  rw [hle] at h
  simpa using h
theorem sort_mem (l : List Str) (x : Str) : x ∈ F21.fn l ↔ x ∈ l := List.mem_mergeSort
theorem sort_len (l : List Str) : (F21.fn l).length = l.length := List.length_mergeSort _
theorem compact_all_mem (zs : List Str) : ∀ x ∈ zs, x ∈ Lib.compact zs := by
  have key : ∀ (j : Nat) (hj : j < zs.length), zs[j] ∈ Lib.compact zs := by
    intro j
    induction j using Nat.strongRecOn with
    | ind j ih =>
      intro hj
      cases hk : Lib.keeps zs.toArray j with
      | true =>
        unfold Lib.compact Lib.compactUpTo
        refine List.mem_map.2 ⟨j, List.mem_filter.2 ⟨List.mem_range.2 hj, hk⟩, ?_⟩
        simp [hj]
      | false =>
        unfold Lib.keeps at hk
        simp only [decide_eq_false_iff_not, not_or, Classical.not_not] at hk
        have h1 : j - 1 < zs.length := by omega
        have := ih (j - 1) (by omega) h1
        have e : zs[j] = zs[j - 1] := by have := hk.2; simpa [hj, h1] using this
        rw [e]; exact this
  intro x hx
  obtain ⟨j, hj, rfl⟩ := List.getElem_of_mem hx
  exact key j hj
theorem compact_rise {zs : List Str} (h : zs.Pairwise fun a b => Op.bytesLess b a = false) : Rise (Lib.compact zs) := by
  unfold Lib.compact Lib.compactUpTo
  rw [Rise, List.pairwise_map]
  have h0 : ((List.range zs.length).filter (Lib.keeps zs.toArray)).Pairwise (· < ·) := List.Pairwise.filter _ List.pairwise_lt_range
  have hget := List.pairwise_iff_getElem.1 h
  refine List.Pairwise.imp_of_mem (fun {i j} hi hj hij => ?_) h0
  have hi' := List.mem_range.1 (List.mem_filter.1 hi).1
  have hj' := List.mem_range.1 (List.mem_filter.1 hj).1
  have hk := (List.mem_filter.1 hj).2
  unfold Lib.keeps at hk
  simp only [decide_eq_true_eq] at hk
  have hj1 : j - 1 < zs.length := by omega
  have hne : zs[j] ≠ zs[j - 1] := by
    rcases hk with hk | hk
    · omega
    · simpa [hj', hj1] using hk
  have e1 : (zs.toArray)[i]! = zs[i] := by simp [hi']
  have e2 : (zs.toArray)[j]! = zs[j] := by simp [hj']
  rw [e1, e2]
  have hlt : Op.bytesLess zs[j - 1] zs[j] = true := by
    cases q : Op.bytesLess zs[j - 1] zs[j] with
    | true => rfl
    | false => exact absurd (bl_anti _ _ (hget (j - 1) j hj1 hj' (by omega)) q) hne
  rcases Nat.lt_or_ge i (j - 1) with g | g
  · have hle := hget i (j - 1) hi' hj1 g
    cases q : Op.bytesLess zs[i] zs[j - 1] with
    | true => exact bl_trans _ _ _ q hlt
    | false => rw [bl_anti _ _ q hle]; exact hlt
  · have : i = j - 1 := by omega
    subst this; exact hlt
def insS (s : Str) : List Str → List Str
  | [] => [s]
  | x :: r => bif Op.bytesLess x s then x :: insS s r else bif x == s then x :: r else s :: x :: r
theorem insS_mem (s : Str) : ∀ (l : List Str) (x : Str), x ∈ insS s l ↔ x = s ∨ x ∈ l
  | [], x => by simp [insS]
  | y :: r, x => by
    unfold insS
    cases Op.bytesLess y s with
    | true => simp only [cond_true, List.mem_cons, insS_mem s r]; exact ⟨fun h => by rcases h with h | h | h <;> simp [h], fun h => by rcases h with h | h | h <;> simp [h]⟩
    | false =>
      cases q : y == s with
      | true => have := beq_iff_eq.1 q; subst this; simp
      | false => simp
theorem insS_rise (s : Str) : ∀ l : List Str, Rise l → Rise (insS s l)
  | [], _ => by simp [insS]
  | y :: r, h => by
    rw [Rise, List.pairwise_cons] at h
    unfold insS
    cases q : Op.bytesLess y s with
    | true =>
      rw [cond_true, Rise, List.pairwise_cons]
      refine ⟨fun x hx => ?_, insS_rise s r h.2⟩
      rcases (insS_mem s r x).1 hx with rfl | hx
      · exact q
      · exact h.1 x hx
    | false =>
      rw [cond_false]
      cases z : y == s with
      | true => rw [cond_true, Rise, List.pairwise_cons]; exact h
      | false =>
        have hys : Op.bytesLess s y = true := by
          cases w : Op.bytesLess s y with
          | true => rfl
          | false => have := bl_anti y s q w; subst this; simp at z
        rw [cond_false, Rise, List.pairwise_cons, List.pairwise_cons]
        refine ⟨fun x hx => ?_, h⟩
        rcases List.mem_cons.1 hx with rfl | hx
        · exact hys
        · exact bl_trans _ _ _ hys (h.1 x hx)
def namesS (w : Wdt) (dirs : List Spt) : List Str := dirs.flatMap fun d => (ndNames (nodeZ w d)).map (·.1)
abbrev stN0 (w : Wdt) (dirs : List Spt) (l : List Str) (i : Nat) : Unit × Unit × List (List UInt8) × List Spt × Int × Int × List (Int) × Int × List Dkt × Int × List Rwt × List Rwt × Int × List Spt × Unit :=
  ((), (), l, dirs, (dirs.length : Int), (i : Int), w.1, w.2.1, w.2.2.1, w.2.2.2.1, w.2.2.2.2.1, w.2.2.2.2.2.1, w.2.2.2.2.2.2, dirs, ())
abbrev stN1 (w : Wdt) (dirs : List Spt) (l : List Str) (i : Nat) (ns : List Nmt) (k : Nat) : Unit × Unit × List (List UInt8) × List Spt × Int × Int × List Nmt × Int × Int × List (Int) × Int × List Dkt × Int × List Rwt × List Rwt × Int × List Spt × Unit :=
  ((), (), l, dirs, (dirs.length : Int), (i : Int), ns, (ns.length : Int), (k : Int), w.1, w.2.1, w.2.2.1, w.2.2.2.1, w.2.2.2.2.1, w.2.2.2.2.2.1, w.2.2.2.2.2.2, dirs, ())
theorem F11L1_ok {w : Wdt} {dirs : List Spt} {l : List Str} {i : Nat} {ns : List Nmt} (hn : ns.length ≤ 1048576) (hl : l.length ≤ 10000000000) :
    loopInv F11L1 (stN1 w dirs l i ns 0) ∧ loopOut F11L1 (stN1 w dirs l i ns 0) = some (.inl (stN0 w dirs (l ++ ns.map (·.1)) i)) := by
  obtain ⟨h1, y, h2, h3⟩ := loopP (tr := F11L1) (fun x => ∃ k : Nat, x = stN1 w dirs (l ++ (ns.take k).map (·.1)) i ns k ∧ k ≤ ns.length) (fun x => (x.2.2.2.2.2.2.2.1 - x.2.2.2.2.2.2.2.2.1).toNat) (fun y => y = .inl (stN0 w dirs (l ++ ns.map (·.1)) i)) (by
    rintro _ ⟨k, rfl, hk⟩
    rcases Nat.lt_or_ge k ns.length with g | g
    · have hx : @id Nmt (xsAt Nm ns k) = ns[k] := xsAt_lt g
      have hi3 : (k : Int) < Int.ofNat ns.length := by rw [Int.ofNat_eq_natCast]; omega
      have hi2 : (k : Int) < (ns.length : Int) := hi3
      have htk : (l ++ (ns.take k).map (·.1)) ++ ns[k].1 :: [] = l ++ (ns.take (k + 1)).map (·.1) := by rw [List.take_add_one, List.getElem?_eq_getElem g, List.map_append, List.append_assoc]; rfl
      unfold F11L1
      simp only [Int.toNat_natCast, hx, htk, hi2, hi3, decide_true, ok_node, ok_leaf, allA_cons, allA_one, allA_nil, true_and, and_true, Int.natCast_nonneg, forall_const, Bool.true_eq_false, false_implies, wrp_succ (show k < 4611686018427387904 by omega)]
      refine ⟨?_, ⟨k + 1, rfl, g⟩, by simp; omega⟩
      rw [List.length_append, List.length_map, List.length_take]
      have := Nat.min_le_right (k + 1) ns.length
      unfold Room; omega
    · have : k = ns.length := by omega
      subst this
      unfold F11L1
      simp [List.take_length])
    (stN1 w dirs l i ns 0) ⟨0, by simp, Nat.zero_le _⟩
  exact ⟨h1, by rw [h2, h3]⟩
theorem F11_ok {w : Wdt} (hw : GoodW w) {dirs : List Spt} (hd : ∀ d ∈ dirs, SpotOk w d) (hlen : dirs.length ≤ 1000) :
    F11.pre (w, dirs, ()) ∧ F11.fn (w, dirs, ()) = ((Lib.compact (F21.fn (namesS w dirs))).filter fun x => !goneB w dirs x, ()) := by
  have hlong : ∀ x ∈ namesS w dirs, List.length x ≤ 1048576 := by
    intro x hx
    obtain ⟨d, hdm, hx⟩ := List.mem_flatMap.1 hx
    obtain ⟨n, hn, rfl⟩ := List.mem_map.1 hx
    exact (nodeZ_good hw (hd d hdm)).2.2 n hn
  obtain ⟨h1, y, h2, h3⟩ := loopP (tr := F11L0)
    (fun x => ∃ (i : Nat) (l : List Str), x = stN0 w dirs l i ∧ i ≤ dirs.length ∧ l.length ≤ i * 1048576 ∧ l ++ namesS w (dirs.drop i) = namesS w dirs)
    (fun x => (x.2.2.2.2.1 - x.2.2.2.2.2.1).toNat)
    (fun y => y = .inl ((), (), namesS w dirs, w.1, w.2.1, w.2.2.1, w.2.2.2.1, w.2.2.2.2.1, w.2.2.2.2.2.1, w.2.2.2.2.2.2, dirs, ()) ∧ (namesS w dirs).length ≤ 1048576000) (by
      rintro _ ⟨i, l, rfl, hi, hl, hR⟩
      rcases Nat.lt_or_ge i dirs.length with g | g
      · have hs : SpotOk w dirs[i] := hd _ (List.getElem_mem g)
        have hx : @id Spt (xsAt Sp dirs i) = dirs[i] := xsAt_lt g
        rw [List.drop_eq_getElem_cons g] at hR
        generalize hdi : dirs[i] = d at hs hx hR
        obtain ⟨p1, e1⟩ := F20_ok hw hs
        have hf : (ndNames (nodeZ w d)).length ≤ 1048576 := nodeZ_few hw hs
        have hlb : l.length ≤ 10000000000 := by have := Nat.mul_le_mul_right 1048576 (show i ≤ 1000 by omega); omega
        obtain ⟨q1, q2⟩ := F11L1_ok (w := w) (dirs := dirs) (l := l) (i := i) hf hlb
        have q1 : loopInv F11L1 ((), (), l, dirs, (dirs.length : Int), (i : Int), (nodeZ w d).2.2.2.2.2.2.2, Int.ofNat (List.length (nodeZ w d).2.2.2.2.2.2.2), (0 : Int), w.1, w.2.1, w.2.2.1, w.2.2.2.1, w.2.2.2.2.1, w.2.2.2.2.2.1, w.2.2.2.2.2.2, dirs, ()) := q1
        have q2 : loopOut F11L1 ((), (), l, dirs, (dirs.length : Int), (i : Int), (nodeZ w d).2.2.2.2.2.2.2, Int.ofNat (List.length (nodeZ w d).2.2.2.2.2.2.2), (0 : Int), w.1, w.2.1, w.2.2.1, w.2.2.2.1, w.2.2.2.2.1, w.2.2.2.2.2.1, w.2.2.2.2.2.2, dirs, ()) = _ := q2
        have hi3 : (i : Int) < Int.ofNat dirs.length := by rw [Int.ofNat_eq_natCast]; omega
        have hi2 : (i : Int) < (dirs.length : Int) := hi3
        unfold F11L0
        simp only [Int.toNat_natCast, hx, e1, p1, q1, q2, getL, hi2, hi3, decide_true, ok_node, ok_leaf, allA_cons, allA_one, allA_nil, true_and, and_true, Int.natCast_nonneg, forall_const, Bool.true_eq_false, false_implies, wrp_succ (show i < 4611686018427387904 by omega)]
        refine ⟨⟨i + 1, _, rfl, g, ?_, ?_⟩, by simp; omega⟩
        · rw [List.length_append, List.length_map, Nat.add_mul]; omega
        · rw [← hR, List.append_assoc]; rfl
      · have : i = dirs.length := by omega
        subst this
        rw [List.drop_length] at hR
        unfold F11L0
        simp only [ok_node, ok_leaf, allA_nil, true_and, Int.lt_irrefl, decide_false, Bool.false_eq_true, false_implies, forall_const]
        have e : l = namesS w dirs := by rw [← hR]; exact (List.append_nil l).symm
        subst e
        refine ⟨rfl, ?_⟩
        have := Nat.mul_le_mul_right 1048576 hlen
        omega)
    (stN0 w dirs [] 0) ⟨0, [], rfl, Nat.zero_le _, Nat.zero_le _, rfl⟩
  obtain ⟨rfl, hns⟩ := h3
  have hc : (Lib.compact (F21.fn (namesS w dirs))).length ≤ 1048576000 := by
    have h1 := compact_len (F21.fn (namesS w dirs))
    rw [sort_len] at h1
    exact Nat.le_trans h1 hns
  obtain ⟨p, e⟩ := F23_ok hw hd hlen (xs := Lib.compact (F21.fn (namesS w dirs))) (by omega) (fun x hx => hlong x ((sort_mem _ x).1 (compact_mem _ x hx)))
  have hok : (F11 (w, dirs, ())).Ok (· = ((Lib.compact (F21.fn (namesS w dirs))).filter fun x => !goneB w dirs x, ())) := by
    unfold F11
    have h1 : loopInv F11L0 ((), (), [], dirs, (Int.ofNat (List.length dirs)), (0 : Int), w.1, w.2.1, w.2.2.1, w.2.2.2.1, w.2.2.2.2.1, w.2.2.2.2.2.1, w.2.2.2.2.2.2, dirs, ()) := h1
    have h2 : loopOut F11L0 ((), (), [], dirs, (Int.ofNat (List.length dirs)), (0 : Int), w.1, w.2.1, w.2.2.1, w.2.2.2.1, w.2.2.2.2.1, w.2.2.2.2.2.1, w.2.2.2.2.2.2, dirs, ()) = _ := h2
    have e37 : ∀ l : List Str, F22.fn (l, ()) = (Lib.compact l, ()) := fun _ => rfl
    simp only [h1, h2, getL, e37, e, p, ok_leaf, allA_cons, allA_one, true_and, and_true]
    exact ⟨trivial, trivial⟩
  exact hok
def stepN (w : Wdt) (dirs : List Spt) (l : List Str) (x : Str) : List Str := bif goneB w dirs x then l else insS x l
theorem foldN_mem (w : Wdt) (dirs : List Spt) : ∀ (xs l : List Str) (z : Str), z ∈ xs.foldl (stepN w dirs) l ↔ z ∈ l ∨ (z ∈ xs ∧ goneB w dirs z = false)
  | [], l, z => by simp
  | x :: r, l, z => by
    rw [List.foldl_cons, foldN_mem w dirs r]
    unfold stepN
    cases q : goneB w dirs x with
    | true =>
      simp only [cond_true, List.mem_cons]
      constructor
      · rintro (h | ⟨h, h'⟩)
        · exact .inl h
        · exact .inr ⟨.inr h, h'⟩
      · rintro (h | ⟨h | h, h'⟩)
        · exact .inl h
        · subst h; rw [q] at h'; cases h'
        · exact .inr ⟨h, h'⟩
    | false =>
      simp only [cond_false, insS_mem, List.mem_cons]
      constructor
      · rintro ((h | h) | ⟨h, h'⟩)
        · subst h; exact .inr ⟨.inl rfl, q⟩
        · exact .inl h
        · exact .inr ⟨.inr h, h'⟩
      · rintro (h | ⟨h | h, h'⟩)
        · exact .inl (.inr h)
        · exact .inl (.inl h)
        · exact .inr ⟨h, h'⟩
theorem foldN_rise (w : Wdt) (dirs : List Spt) : ∀ (xs l : List Str), Rise l → Rise (xs.foldl (stepN w dirs) l)
  | [], l, h => h
  | x :: r, l, h => by
    rw [List.foldl_cons]
    refine foldN_rise w dirs r _ ?_
    unfold stepN
    cases goneB w dirs x
    · exact insS_rise x l h
    · exact h
theorem names_same (w : Wdt) (dirs : List Spt) : ((Lib.compact (F21.fn (namesS w dirs))).filter fun x => !goneB w dirs x) = (namesS w dirs).foldl (stepN w dirs) [] := by
  refine rise_ext _ _ (List.Pairwise.filter _ (compact_rise (sort_le _))) (foldN_rise w dirs _ [] List.Pairwise.nil) fun z => ?_
  rw [foldN_mem, List.mem_filter]
  simp only [List.not_mem_nil, false_or, Bool.not_eq_true']
  refine and_congr_left fun _ => ⟨fun h => (sort_mem _ z).1 (compact_mem _ z h), fun h => compact_all_mem _ z ((sort_mem _ z).2 h)⟩
theorem F12_ok {xs : List Str} (hl : xs.length < 2305843009213693952) : F12.pre (xs, xs, ()) ∧ F12.fn (xs, xs, ()) = (true, ()) := by
  obtain ⟨h1, y, h2, h3⟩ := loopP (tr := F12L0) (fun x => ∃ i : Nat, x = (xs, xs, (i : Int), ()) ∧ i ≤ xs.length) (fun x => (x.1.length - x.2.2.1).toNat) (fun y => ∃ z, y = .inr (.inl z)) (by
    rintro _ ⟨i, rfl, hi⟩
    rcases Nat.lt_or_ge i xs.length with g | g
    · have hi3 : (i : Int) < Int.ofNat xs.length := by rw [Int.ofNat_eq_natCast]; omega
      unfold F12L0
      simp only [hi3, beq_self_eq_true, Bool.not_true, decide_true, ok_node, ok_leaf, allA_cons, allA_one, allA_nil, true_and, and_true, Int.natCast_nonneg, forall_const, Bool.true_eq_false, Bool.false_eq_true, false_implies, wrp_succ (show i < 4611686018427387904 by omega)]
      exact ⟨⟨i + 1, rfl, g⟩, by simp; omega⟩
    · have : i = xs.length := by omega
      subst this
      unfold F12L0
      simp)
    _ ⟨0, rfl, Nat.zero_le _⟩
  obtain ⟨z, rfl⟩ := h3
  have hok : (F12 (xs, xs, ())).Ok (· = (true, ())) := by
    unfold F12
    have h1 : loopInv F12L0 (xs, xs, (0 : Int), ()) := h1
    have h2 : loopOut F12L0 (xs, xs, (0 : Int), ()) = _ := h2
    simp only [h1, h2, isL, ok_node, ok_leaf, allA_cons, allA_one, allA_nil, true_and, bne_self_eq_false, Bool.false_eq_true, false_implies, forall_const]
  exact hok
theorem F17_ok {xs : List Spt} (hl : xs.length < 2305843009213693952) : F17.pre (xs, xs, ()) ∧ F17.fn (xs, xs, ()) = (true, ()) := by
  obtain ⟨h1, y, h2, h3⟩ := loopP (tr := F17L0) (fun x => ∃ i : Nat, x = (xs, xs, (i : Int), ()) ∧ i ≤ xs.length) (fun x => (x.1.length - x.2.2.1).toNat) (fun y => ∃ z, y = .inr (.inl z)) (by
    rintro _ ⟨i, rfl, hi⟩
    rcases Nat.lt_or_ge i xs.length with g | g
    · have hi3 : (i : Int) < Int.ofNat xs.length := by rw [Int.ofNat_eq_natCast]; omega
      have nb : notB true = false := rfl
      unfold F17L0
      simp only [hi3, beq_self_eq_true, Bool.and_self, nb, decide_true, ok_node, ok_leaf, allA_cons, allA_one, allA_nil, true_and, and_true, Int.natCast_nonneg, forall_const, Bool.true_eq_false, Bool.false_eq_true, false_implies, wrp_succ (show i < 4611686018427387904 by omega)]
      exact ⟨⟨i + 1, rfl, g⟩, by simp; omega⟩
    · have : i = xs.length := by omega
      subst this
      unfold F17L0
      simp)
    _ ⟨0, rfl, Nat.zero_le _⟩
  obtain ⟨z, rfl⟩ := h3
  have hok : (F17 (xs, xs, ())).Ok (· = (true, ())) := by
    unfold F17
    have h1 : loopInv F17L0 (xs, xs, (0 : Int), ()) := h1
    have h2 : loopOut F17L0 (xs, xs, (0 : Int), ()) = _ := h2
    simp only [h1, h2, isL, ok_node, ok_leaf, allA_cons, allA_one, allA_nil, true_and, bne_self_eq_false, Bool.false_eq_true, false_implies, forall_const]
  exact hok
theorem F14_ok {c : Cft} (hl : c.1.length < 2305843009213693952) : F14.pre (c, ()) ∧ ∃ b, F14.fn (c, ()) = (b, ()) := by
  obtain ⟨h1, y, h2, h3⟩ := loopP (tr := F14L0) (fun x => ∃ i : Nat, x = ((), (i : Int), c.1, c.2, ()) ∧ i ≤ c.1.length) (fun x => (x.2.2.1.length - x.2.1).toNat) (fun y => (∃ b, y = .inl (b, ())) ∨ y = .inr (.inl ((), c.1, c.2, ()))) (by
    rintro _ ⟨i, rfl, hi⟩
    rcases Nat.lt_or_ge i c.1.length with g | g
    · have hi3 : (i : Int) < Int.ofNat c.1.length := by rw [Int.ofNat_eq_natCast]; omega
      unfold F14L0
      simp only [hi3, decide_true, ok_node, ok_leaf, allA_cons, allA_one, allA_nil, true_and, and_true, Int.natCast_nonneg, forall_const, Bool.true_eq_false, false_implies, wrp_succ (show i < 4611686018427387904 by omega)]
      exact ⟨fun _ => .inl ⟨_, rfl⟩, fun _ => ⟨fun _ => .inl ⟨_, rfl⟩, fun _ => ⟨⟨i + 1, rfl, g⟩, by simp; omega⟩⟩⟩
    · have : i = c.1.length := by omega
      subst this
      unfold F14L0
      simp only [ok_node, ok_leaf, allA_nil, true_and, Int.ofNat_eq_natCast, Int.lt_irrefl, decide_false, Bool.false_eq_true, false_implies, forall_const]
      first | exact .inr rfl | simp)
    _ ⟨0, rfl, Nat.zero_le _⟩
  have hok : (F14 (c, ())).Ok (fun r => ∃ b, r = (b, ())) := by
    unfold F14
    have h1 : loopInv F14L0 ((), (0 : Int), c.1, c.2, ()) := h1
    have h2 : loopOut F14L0 ((), (0 : Int), c.1, c.2, ()) = some y := h2
    simp only [h1, h2, ok_node, ok_leaf, allA_cons, allA_one, allA_nil, true_and, decide_eq_true_eq, decide_eq_false_iff_not]
    refine ⟨fun _ => ⟨_, rfl⟩, fun hL => ?_⟩
    rcases h3 with ⟨b, rfl⟩ | rfl
    · simp [isL] at hL
    · simp only [getL, restR]
      exact ⟨fun h => ⟨fun _ => ⟨⟨by omega, by rw [Int.ofNat_eq_natCast] at h ⊢; omega⟩, fun _ => ⟨fun _ => ⟨_, rfl⟩, fun _ => ⟨_, rfl⟩⟩, fun _ => ⟨_, rfl⟩⟩, fun _ => ⟨_, rfl⟩⟩, fun _ => ⟨_, rfl⟩⟩
  exact hok
theorem F13_ok : F13.pre () ∧ F13.fn () = (true, ()) := ⟨trivial, rfl⟩
theorem scan_spots {w : Wdt} {name : Str} : ∀ (r l : List Spt), (∀ d ∈ r, SpotOk w d) → (∀ d ∈ l, SpotOk w d) → ∀ d ∈ (scanS w name r l).1, SpotOk w d
  | [], l, _, hl => hl
  | d :: r, l, hr, hl => by
    have hd := hr d List.mem_cons_self
    have hadd : ∀ ino, ∀ x ∈ l ++ [(d.1, ino)], SpotOk w x := fun ino x hx => by
      rcases List.mem_append.1 hx with hx | hx
      · exact hl x hx
      · rw [List.mem_singleton] at hx; subst hx; exact hd
    have key : match scanB w name l d with | .inl l' => ∀ x ∈ l', SpotOk w x | .inr y => ∀ x ∈ y.1, SpotOk w x := by
      unfold scanB
      cases nameOf (nodeZ w d) name with
      | none => cases sign w d (white name) <;> exact hl
      | some ino =>
        dsimp only
        cases (nodeZ w (d.1, ino)).2.1 == 2
        · cases h : (Int.ofNat l.length == 0)
          · simp only [h, cond_false]; exact hl
          · simp only [h, cond_true, cond_false]; exact hadd ino
        · cases sign w (d.1, ino) sOpq <;> cases sign w d (white name) <;> exact hadd ino
    simp only [scanS]
    cases q : scanB w name l d with
    | inl l' => rw [q] at key; exact scan_spots r l' (fun x hx => hr x (List.mem_cons_of_mem _ hx)) key
    | inr y => rw [q] at key; exact key
def insBy {α : Type} (p : α → Bool) (n : α) : List α → List α
  | [] => [n]
  | x :: r => bif p x then x :: insBy p n r else n :: x :: r
theorem insBy_at {α : Type} (p : α → Bool) (n : α) : ∀ (l : List α) (i : Nat), i ≤ l.length → (∀ j (h : j < l.length), j < i → p l[j] = true) → (∀ h : i < l.length, p l[i] = false) →
    l.take i ++ n :: l.drop i = insBy p n l
  | [], i, _, _, _ => by simp [insBy]
  | x :: r, 0, _, _, h => by
    have := h (by simp)
    simp only [List.getElem_cons_zero] at this
    simp [insBy, this]
  | x :: r, i + 1, hi, h1, h2 => by
    have h0 := h1 0 (by simp) (by omega)
    simp only [List.getElem_cons_zero] at h0
    simp only [insBy, h0, cond_true, List.take_succ_cons, List.drop_succ_cons, List.cons_append]
    rw [insBy_at p n r i (by simpa using hi) (fun j h hj => h1 (j + 1) (Nat.succ_lt_succ h) (by omega)) (fun h => h2 (Nat.succ_lt_succ h))]
def dropS (d : Dkt) (u : Int) : Dkt := (d.1, d.2.1, d.2.2.1, (dkNodes d).filter fun n => n.1 != u)
abbrev st60 (d : Dkt) (u : Int) (l : List Ndt) (i : Nat) : Int × Unit × Unit × List Ndt × Int × Int × Int × Int × List Ndt × Int × Int × Int × Unit × Unit :=
  (u, (), (), l, (i : Int), d.1, d.2.1, d.2.2.1, d.2.2.2, 0, 0, 0, (), ())
theorem F51_ok {d : Dkt} (hn : (dkNodes d).length ≤ 1048576) (u : Int) : F51.pre (d, u, ()) ∧ F51.fn (d, u, ()) = (dropS d u, ()) := by
  obtain ⟨h1, y, h2, h3⟩ := loopP (tr := F51L0)
    (fun x => ∃ i : Nat, x = st60 d u (((dkNodes d).take i).filter fun n => n.1 != u) i ∧ i ≤ (dkNodes d).length)
    (fun x => ((dkNodes d).length - x.2.2.2.2.1).toNat)
    (fun y => y = .inl ((), (), (dkNodes d).filter (fun n => n.1 != u), d.1, d.2.1, d.2.2.1, d.2.2.2, 0, 0, 0, (), ())) (by
      rintro _ ⟨i, rfl, hi⟩
      rcases Nat.lt_or_ge i (dkNodes d).length with g | g
      · have hxi : @id Ndt (xsAt Nd d.2.2.2 i) = (dkNodes d)[i] := xsAt_lt g
        have hi3 : (i : Int) < Int.ofNat (List.length d.2.2.2) := by rw [Int.ofNat_eq_natCast]; exact Int.ofNat_lt.2 g
        have hlen : (((dkNodes d).take i).filter fun n => n.1 != u).length ≤ i := Nat.le_trans (List.length_filter_le _ _) (by rw [List.length_take]; omega)
        have htk : (dkNodes d).take (i + 1) = (dkNodes d).take i ++ [(dkNodes d)[i]] := by rw [List.take_add_one, List.getElem?_eq_getElem g]; rfl
        unfold F51L0
        simp only [Int.toNat_natCast, hxi, ok_node, ok_leaf, allA_cons, allA_one, allA_nil, true_and, wrp_succ (show i < 4611686018427387904 by omega), hi3, decide_true, Int.natCast_nonneg, forall_const, Bool.true_eq_false, false_implies, and_true]
        refine ⟨fun q => ⟨?_, ⟨i + 1, ?_, g⟩, ?_⟩, fun q => ⟨⟨i + 1, ?_, g⟩, ?_⟩⟩
        · rw [List.length_append]; simp only [List.length_cons, List.length_nil]; unfold Room; omega
        · rw [htk, List.filter_append, List.filter_cons_of_pos (by simpa using q), List.filter_nil]
        · omega
        · rw [htk, List.filter_append, List.filter_cons_of_neg (by simpa using q), List.filter_nil, List.append_nil]
        · omega
      · have : i = (dkNodes d).length := by omega
        subst this
        have hi3 : ¬ (((dkNodes d).length : Int) < Int.ofNat (List.length d.2.2.2)) := Int.lt_irrefl _
        unfold F51L0
        simp only [ok_node, ok_leaf, allA_nil, true_and, decide_eq_false hi3, Bool.false_eq_true, false_implies, forall_const]
        rw [List.take_length])
    (st60 d u [] 0) ⟨0, rfl, Nat.zero_le _⟩
  subst h3
  have h1 : loopInv F51L0 (u, (), (), [], (0 : Int), d.1, d.2.1, d.2.2.1, d.2.2.2, (0 : Int), (0 : Int), (0 : Int), (), ()) := h1
  have h2 : loopOut F51L0 (u, (), (), [], (0 : Int), d.1, d.2.1, d.2.2.1, d.2.2.2, (0 : Int), (0 : Int), (0 : Int), (), ()) = some _ := h2
  have hok : (F51 (d, u, ())).Ok (· = (dropS d u, ())) := by
    unfold F51
    simp only [h1, h2, ok_leaf, allA_one, true_and]
    simp [getL, dropS]
  exact hok
theorem dropS_len (d : Dkt) (u : Int) : (dkNodes (dropS d u)).length ≤ (dkNodes d).length := List.length_filter_le _ _
theorem put_len {α : Type} {l : List α} {n : α} {k : Nat} (h : l.length ≤ 1048576) : (l.take k ++ [n] ++ l.drop k).length * 104 ≤ Room ∧ (l.take k ++ [n]).length * 104 ≤ Room ∧ (l.take k).length * 104 ≤ Room := by
  simp only [List.length_append, List.length_cons, List.length_nil, List.length_take, List.length_drop]
  unfold Room
  omega
def putS (d : Dkt) (n : Ndt) : Dkt := (d.1, d.2.1, d.2.2.1, insBy (fun x => decide (x.1 < n.1)) n (dkNodes (dropS d n.1)))
abbrev st32 (d : Dkt) (n : Ndt) (i : Nat) : Unit × Unit × Unit × Int × Int × Int × Int × List Ndt × Int × Int × Int × Int × Int × List Bkt × List UInt8 × List Nmt × Int × Int × Int × Unit × Unit :=
  ((), (), (), (i : Int), d.1, d.2.1, d.2.2.1, d.2.2.2, n.1, n.2.1, n.2.2.1, n.2.2.2.1, n.2.2.2.2.1, n.2.2.2.2.2.1, n.2.2.2.2.2.2.1, n.2.2.2.2.2.2.2, 0, 0, 0, (), ())
theorem F30L_ok {d : Dkt} (hn : (dkNodes d).length ≤ 1048576) (n : Ndt) : loopInv F30L0 (st32 d n 0) ∧ ∃ k : Nat, loopOut F30L0 (st32 d n 0) = some (.inl (st32 d n k)) ∧ k ≤ (dkNodes d).length ∧
    (∀ j (h : j < (dkNodes d).length), j < k → decide ((dkNodes d)[j].1 < n.1) = true) ∧ ∀ h : k < (dkNodes d).length, decide ((dkNodes d)[k].1 < n.1) = false := by
  obtain ⟨h1, y, h2, k, rfl, h3, h4, h5⟩ := loopP (tr := F30L0)
    (fun x => ∃ i : Nat, x = st32 d n i ∧ i ≤ (dkNodes d).length ∧ ∀ j (h : j < (dkNodes d).length), j < i → decide ((dkNodes d)[j].1 < n.1) = true)
    (fun x => ((dkNodes d).length - x.2.2.2.1).toNat)
    (fun y => ∃ k : Nat, y = .inl (st32 d n k) ∧ k ≤ (dkNodes d).length ∧
    (∀ j (h : j < (dkNodes d).length), j < k → decide ((dkNodes d)[j].1 < n.1) = true) ∧ ∀ h : k < (dkNodes d).length, decide ((dkNodes d)[k].1 < n.1) = false) (by
      rintro _ ⟨i, rfl, hi, hR⟩
      rcases Nat.lt_or_ge i (dkNodes d).length with g | g
      · have hxi : @id Ndt (xsAt Nd d.2.2.2 i) = (dkNodes d)[i] := xsAt_lt g
        have hi3 : (i : Int) < Int.ofNat (List.length d.2.2.2) := by rw [Int.ofNat_eq_natCast]; exact Int.ofNat_lt.2 g
        unfold F30L0
        simp only [Int.toNat_natCast, hxi, ok_node, ok_leaf, allA_cons, allA_one, allA_nil, true_and, wrp_succ (show i < 4611686018427387904 by omega), hi3, decide_true, Int.natCast_nonneg, forall_const, Bool.true_eq_false, false_implies, and_true]
        refine ⟨fun q => ⟨⟨i + 1, rfl, g, fun j hj hji => ?_⟩, by omega⟩, fun q => ⟨i, rfl, hi, hR, fun _ => q⟩⟩
        rcases Nat.lt_or_ge j i with z | z
        · exact hR j hj z
        · have : j = i := by omega
          subst this; exact q
      · have : i = (dkNodes d).length := by omega
        subst this
        have hi3 : ¬ (((dkNodes d).length : Int) < Int.ofNat (List.length d.2.2.2)) := Int.lt_irrefl _
        unfold F30L0
        simp only [ok_node, ok_leaf, allA_nil, true_and, decide_eq_false hi3, Bool.false_eq_true, false_implies, forall_const]
        exact ⟨_, rfl, hi, hR, fun h => absurd h (Nat.lt_irrefl _)⟩)
    (st32 d n 0) ⟨0, rfl, Nat.zero_le _, fun j _ h => absurd h (Nat.not_lt_zero _)⟩
  exact ⟨h1, k, h2, h3, h4, h5⟩
theorem F30_ok {d : Dkt} (hn : (dkNodes d).length ≤ 1048576) {n : Ndt} (hw : WfE Nd n) : F30.pre (d, n, ()) ∧ F30.fn (d, n, ()) = (putS d n, ()) := by
  obtain ⟨p0, e0⟩ := F51_ok hn n.1
  have hl : (dkNodes (dropS d n.1)).length ≤ 1048576 := Nat.le_trans (dropS_len _ _) hn
  obtain ⟨h1, k, h2, h3, h4, h5⟩ := F30L_ok hl n
  have h1 : loopInv F30L0 ((), (), (), (0 : Int), (dropS d n.1).1, (dropS d n.1).2.1, (dropS d n.1).2.2.1, (dropS d n.1).2.2.2, n.1, n.2.1, n.2.2.1, n.2.2.2.1, n.2.2.2.2.1, n.2.2.2.2.2.1, n.2.2.2.2.2.2.1, n.2.2.2.2.2.2.2, (0 : Int), (0 : Int), (0 : Int), (), ()) := h1
  have h2 : loopOut F30L0 ((), (), (), (0 : Int), (dropS d n.1).1, (dropS d n.1).2.1, (dropS d n.1).2.2.1, (dropS d n.1).2.2.2, n.1, n.2.1, n.2.2.1, n.2.2.2.1, n.2.2.2.2.1, n.2.2.2.2.2.1, n.2.2.2.2.2.2.1, n.2.2.2.2.2.2.2, (0 : Int), (0 : Int), (0 : Int), (), ()) = some (.inl (st32 (dropS d n.1) n k)) := h2
  obtain ⟨p1, e1⟩ := F52_ok hw
  have hk : (k : Int) ≤ Int.ofNat (List.length (dropS d n.1).2.2.2) := by rw [Int.ofNat_eq_natCast]; exact Int.ofNat_le.2 h3
  have ht : ((dkNodes (dropS d n.1)).take k).length ≤ 1048576 := by rw [List.length_take]; omega
  have hok : (F30 (d, n, ())).Ok (· = (putS d n, ())) := by
    unfold F30
    simp only [e0, h1, h2, p0, p1, e1, getL, Int.toNat_natCast, ok_leaf, allA_cons, allA_one, true_and, List.nil_append, hk, Int.natCast_nonneg]
    refine ⟨⟨(put_len hl).1, (put_len hl).2.1, (put_len (n := n) hl).2.2, trivial⟩, ?_⟩
    unfold putS
    rw [List.append_assoc, List.singleton_append]
    exact congrArg (fun (z : List Ndt) => (((dropS d n.1).1, (dropS d n.1).2.1, (dropS d n.1).2.2.1, z), ())) (insBy_at _ _ _ k h3 h4 h5)
  exact hok
abbrev setNames (n : Ndt) (l : List Nmt) : Ndt := (n.1, n.2.1, n.2.2.1, n.2.2.2.1, n.2.2.2.2.1, n.2.2.2.2.2.1, n.2.2.2.2.2.2.1, l)
def outS (n : Ndt) (s : Str) : Ndt := setNames n ((ndNames n).filter fun x => !(x.1 == s))
abbrev st90 (n : Ndt) (s : Str) (l : List Nmt) (i : Nat) : List UInt8 × Unit × Unit × List Nmt × Int × Int × Int × Int × Int × Int × List Bkt × List UInt8 × List Nmt × Int × Int × Int × Int × Int × Unit × List UInt8 × Unit × Unit :=
  (s, (), (), l, (i : Int), n.1, n.2.1, n.2.2.1, n.2.2.2.1, n.2.2.2.2.1, n.2.2.2.2.2.1, n.2.2.2.2.2.2.1, n.2.2.2.2.2.2.2, 0, 0, 0, 0, 0, (), dec 0 0 [], (), ())
theorem F83_ok {n : Ndt} (hn : (ndNames n).length ≤ 1048576) (s : Str) : F83.pre (n, s, ()) ∧ F83.fn (n, s, ()) = (outS n s, ()) := by
  obtain ⟨h1, y, h2, h3⟩ := loopP (tr := F83L0)
    (fun x => ∃ i : Nat, x = st90 n s (((ndNames n).take i).filter fun x => !(x.1 == s)) i ∧ i ≤ (ndNames n).length)
    (fun x => ((ndNames n).length - x.2.2.2.2.1).toNat)
    (fun y => y = .inl ((), (), (ndNames n).filter (fun x => !(x.1 == s)), n.1, n.2.1, n.2.2.1, n.2.2.2.1, n.2.2.2.2.1, n.2.2.2.2.2.1, n.2.2.2.2.2.2.1, n.2.2.2.2.2.2.2, 0, 0, 0, 0, 0, (), dec 0 0 [], (), ())) (by
      rintro _ ⟨i, rfl, hi⟩
      rcases Nat.lt_or_ge i (ndNames n).length with g | g
      · have hxi : @id Nmt (xsAt Nm n.2.2.2.2.2.2.2 i) = (ndNames n)[i] := xsAt_lt g
        have hi3 : (i : Int) < Int.ofNat (List.length n.2.2.2.2.2.2.2) := by rw [Int.ofNat_eq_natCast]; exact Int.ofNat_lt.2 g
        have hlen : (((ndNames n).take i).filter fun x => !(x.1 == s)).length ≤ i := Nat.le_trans (List.length_filter_le _ _) (by rw [List.length_take]; omega)
        have htk : (ndNames n).take (i + 1) = (ndNames n).take i ++ [(ndNames n)[i]] := by rw [List.take_add_one, List.getElem?_eq_getElem g]; rfl
        unfold F83L0
        simp only [Int.toNat_natCast, hxi, ok_node, ok_leaf, allA_cons, allA_one, allA_nil, true_and, wrp_succ (show i < 4611686018427387904 by omega), hi3, decide_true, Int.natCast_nonneg, forall_const, Bool.true_eq_false, false_implies, and_true]
        refine ⟨fun q => ⟨?_, ⟨i + 1, ?_, g⟩, ?_⟩, fun q => ⟨⟨i + 1, ?_, g⟩, ?_⟩⟩
        · rw [List.length_append]; simp only [List.length_cons, List.length_nil]; unfold Room; omega
        · rw [htk, List.filter_append, List.filter_cons_of_pos (by rw [q]), List.filter_nil]
        · omega
        · rw [htk, List.filter_append, List.filter_cons_of_neg (by rw [q]; exact Bool.false_ne_true), List.filter_nil, List.append_nil]
        · omega
      · have : i = (ndNames n).length := by omega
        subst this
        have hi3 : ¬ (((ndNames n).length : Int) < Int.ofNat (List.length n.2.2.2.2.2.2.2)) := Int.lt_irrefl _
        unfold F83L0
        simp only [ok_node, ok_leaf, allA_nil, true_and, decide_eq_false hi3, Bool.false_eq_true, false_implies, forall_const]
        rw [List.take_length])
    (st90 n s [] 0) ⟨0, rfl, Nat.zero_le _⟩
  subst h3
  have h1 : loopInv F83L0 (s, (), (), [], (0 : Int), n.1, n.2.1, n.2.2.1, n.2.2.2.1, n.2.2.2.2.1, n.2.2.2.2.2.1, n.2.2.2.2.2.2.1, n.2.2.2.2.2.2.2, (0 : Int), (0 : Int), (0 : Int), (0 : Int), (0 : Int), (), (dec 0 0 []), (), ()) := h1
  have h2 : loopOut F83L0 (s, (), (), [], (0 : Int), n.1, n.2.1, n.2.2.1, n.2.2.2.1, n.2.2.2.2.1, n.2.2.2.2.2.1, n.2.2.2.2.2.2.1, n.2.2.2.2.2.2.2, (0 : Int), (0 : Int), (0 : Int), (0 : Int), (0 : Int), (), (dec 0 0 []), (), ()) = some _ := h2
  have hok : (F83 (n, s, ())).Ok (· = (outS n s, ())) := by
    unfold F83
    simp only [h1, h2, ok_leaf, allA_one, true_and]
    simp [getL, outS]
  exact hok
def inS (n : Ndt) (s : Str) (u : Int) : Ndt := setNames n (insBy (fun x => Op.bytesLess x.1 s) (s, u) (ndNames (outS n s)))
abbrev st61 (n : Ndt) (s : Str) (u : Int) (i : Nat) : List UInt8 × Int × Unit × Unit × Int × Int × Int × Int × Int × Int × List Bkt × List UInt8 × List Nmt × Int × Int × Int × Int × Int × Unit × List UInt8 × Unit × Unit :=
  (s, u, (), (), (i : Int), n.1, n.2.1, n.2.2.1, n.2.2.2.1, n.2.2.2.2.1, n.2.2.2.2.2.1, n.2.2.2.2.2.2.1, n.2.2.2.2.2.2.2, 0, 0, 0, 0, 0, (), dec 0 0 [], (), ())
theorem F53L_ok {n : Ndt} (hn : (ndNames n).length ≤ 1048576) (s : Str) (u : Int) : loopInv F53L0 (st61 n s u 0) ∧ ∃ k : Nat, loopOut F53L0 (st61 n s u 0) = some (.inl (st61 n s u k)) ∧ k ≤ (ndNames n).length ∧
    (∀ j (h : j < (ndNames n).length), j < k → Op.bytesLess (ndNames n)[j].1 s = true) ∧ ∀ h : k < (ndNames n).length, Op.bytesLess (ndNames n)[k].1 s = false := by
  obtain ⟨h1, y, h2, k, rfl, h3, h4, h5⟩ := loopP (tr := F53L0)
    (fun x => ∃ i : Nat, x = st61 n s u i ∧ i ≤ (ndNames n).length ∧ ∀ j (h : j < (ndNames n).length), j < i → Op.bytesLess (ndNames n)[j].1 s = true)
    (fun x => ((ndNames n).length - x.2.2.2.2.1).toNat)
    (fun y => ∃ k : Nat, y = .inl (st61 n s u k) ∧ k ≤ (ndNames n).length ∧
    (∀ j (h : j < (ndNames n).length), j < k → Op.bytesLess (ndNames n)[j].1 s = true) ∧ ∀ h : k < (ndNames n).length, Op.bytesLess (ndNames n)[k].1 s = false) (by
      rintro _ ⟨i, rfl, hi, hR⟩
      rcases Nat.lt_or_ge i (ndNames n).length with g | g
      · have hxi : @id Nmt (xsAt Nm n.2.2.2.2.2.2.2 i) = (ndNames n)[i] := xsAt_lt g
        have hi3 : (i : Int) < Int.ofNat (List.length n.2.2.2.2.2.2.2) := by rw [Int.ofNat_eq_natCast]; exact Int.ofNat_lt.2 g
        unfold F53L0
        simp only [Int.toNat_natCast, hxi, ok_node, ok_leaf, allA_cons, allA_one, allA_nil, true_and, wrp_succ (show i < 4611686018427387904 by omega), hi3, decide_true, Int.natCast_nonneg, forall_const, Bool.true_eq_false, false_implies, and_true]
        refine ⟨fun q => ⟨⟨i + 1, rfl, g, fun j hj hji => ?_⟩, by omega⟩, fun q => ⟨i, rfl, hi, hR, fun _ => q⟩⟩
        rcases Nat.lt_or_ge j i with z | z
        · exact hR j hj z
        · have : j = i := by omega
          subst this; exact q
      · have : i = (ndNames n).length := by omega
        subst this
        have hi3 : ¬ (((ndNames n).length : Int) < Int.ofNat (List.length n.2.2.2.2.2.2.2)) := Int.lt_irrefl _
        unfold F53L0
        simp only [ok_node, ok_leaf, allA_nil, true_and, decide_eq_false hi3, Bool.false_eq_true, false_implies, forall_const]
        exact ⟨_, rfl, hi, hR, fun h => absurd h (Nat.lt_irrefl _)⟩)
    (st61 n s u 0) ⟨0, rfl, Nat.zero_le _, fun j _ h => absurd h (Nat.not_lt_zero _)⟩
  exact ⟨h1, k, h2, h3, h4, h5⟩
theorem put_len24 {α : Type} {l : List α} {n : α} {k : Nat} (h : l.length ≤ 1048576) : (l.take k ++ [n] ++ l.drop k).length * 24 ≤ Room ∧ (l.take k ++ [n]).length * 24 ≤ Room ∧ (l.take k).length * 24 ≤ Room := by
  simp only [List.length_append, List.length_cons, List.length_nil, List.length_take, List.length_drop]
  unfold Room
  omega
theorem F53_ok {n : Ndt} (hn : (ndNames n).length ≤ 1048576) (s : Str) (u : Int) : F53.pre (n, s, u, ()) ∧ F53.fn (n, s, u, ()) = (inS n s u, ()) := by
  obtain ⟨p0, e0⟩ := F83_ok hn s
  have hl : (ndNames (outS n s)).length ≤ 1048576 := Nat.le_trans (List.length_filter_le _ _) hn
  obtain ⟨h1, k, h2, h3, h4, h5⟩ := F53L_ok hl s u
  have h1 : loopInv F53L0 (s, u, (), (), (0 : Int), (outS n s).1, (outS n s).2.1, (outS n s).2.2.1, (outS n s).2.2.2.1, (outS n s).2.2.2.2.1, (outS n s).2.2.2.2.2.1, (outS n s).2.2.2.2.2.2.1, (outS n s).2.2.2.2.2.2.2, (0 : Int), (0 : Int), (0 : Int), (0 : Int), (0 : Int), (), (dec 0 0 []), (), ()) := h1
  have h2 : loopOut F53L0 (s, u, (), (), (0 : Int), (outS n s).1, (outS n s).2.1, (outS n s).2.2.1, (outS n s).2.2.2.1, (outS n s).2.2.2.2.1, (outS n s).2.2.2.2.2.1, (outS n s).2.2.2.2.2.2.1, (outS n s).2.2.2.2.2.2.2, (0 : Int), (0 : Int), (0 : Int), (0 : Int), (0 : Int), (), (dec 0 0 []), (), ()) = some (.inl (st61 (outS n s) s u k)) := h2
  have hk : (k : Int) ≤ Int.ofNat (List.length (outS n s).2.2.2.2.2.2.2) := by rw [Int.ofNat_eq_natCast]; exact Int.ofNat_le.2 h3
  have hok : (F53 (n, s, u, ())).Ok (· = (inS n s u, ())) := by
    unfold F53
    simp only [e0, h1, h2, p0, getL, Int.toNat_natCast, ok_leaf, allA_cons, allA_one, true_and, List.nil_append, hk, Int.natCast_nonneg]
    refine ⟨⟨(put_len24 hl).1, (put_len24 hl).2.1, (put_len24 (n := (s, u)) hl).2.2, trivial⟩, ?_⟩
    unfold inS
    rw [List.append_assoc, List.singleton_append]
    exact congrArg (fun (z : List Nmt) => (setNames n z, ())) (insBy_at _ _ _ k h3 h4 h5)
  exact hok
abbrev getZ (d : Dkt) (u : Int) : Ndt := (nodeOf d u).getD ndZ
theorem F28_ok {d : Dkt} (hd : SmD d) (u : Int) (s : Str) : F28.pre (d, u, s, ()) ∧ F28.fn (d, u, s, ()) = ((nameOf (getZ d u) s).getD 0, (nameOf (getZ d u) s).isSome, ()) := by
  obtain ⟨p0, e0⟩ := F49_ok hd u
  obtain ⟨p1, e1⟩ := F50_ok (nodeOf_sm hd u) s
  have hok : (F28 (d, u, s, ())).Ok (· = ((nameOf (getZ d u) s).getD 0, (nameOf (getZ d u) s).isSome, ())) := by
    unfold F28
    simp only [e0, p0, e1, p1, ok_leaf, allA_cons, allA_one, true_and]
  exact hok
theorem F29_none {d : Dkt} (hd : SmD d) (hb : ∀ n ∈ dkNodes d, ndBlocks n = []) : F29.pre (d, ()) ∧ F29.fn (d, ()) = (0, Int.ofNat (dkNodes d).length, ()) := by
  have hsm : d.2.2.2.length < 2305843009213693952 := hd.nodes
  obtain ⟨h1, y, h2, h3⟩ := loopP (tr := F29L0) (fun x => ∃ (i : Nat), x = ((), 0, (i : Int), d.1, d.2.1, d.2.2.1, d.2.2.2, ()) ∧ i ≤ d.2.2.2.length) (fun x => (x.2.2.2.2.2.2.1.length - x.2.2.1).toNat) (fun y => y = .inl ((), 0, d.1, d.2.1, d.2.2.1, d.2.2.2, ())) (by
    rintro _ ⟨i, rfl, hi⟩
    rcases Nat.lt_or_ge i d.2.2.2.length with g | g
    · have hi3 : (i : Int) < Int.ofNat d.2.2.2.length := by rw [Int.ofNat_eq_natCast]; omega
      have hxi : @id Ndt (xsAt Nd d.2.2.2 i) = d.2.2.2[i] := xsAt_lt g
      have hbi : (d.2.2.2[i]).2.2.2.2.2.1 = [] := hb _ (List.getElem_mem g)
      have h0 : wrp .i64 ((0 : Int) + Int.ofNat (List.length ([] : List Bkt))) = 0 := by decide
      unfold F29L0
      simp only [Int.toNat_natCast, hxi, hbi, h0, hi3, decide_true, ok_node, ok_leaf, allA_cons, allA_one, allA_nil, true_and, and_true, Int.natCast_nonneg, forall_const, Bool.true_eq_false, false_implies, wrp_succ (show i < 4611686018427387904 by omega)]
      exact ⟨⟨i + 1, rfl, g⟩, by simp; omega⟩
    · have : i = d.2.2.2.length := by omega
      subst this
      unfold F29L0
      simp only [ok_node, ok_leaf, allA_nil, true_and, Int.ofNat_eq_natCast, Int.lt_irrefl, decide_false, Bool.false_eq_true, false_implies, forall_const])
    _ ⟨0, rfl, Nat.zero_le _⟩
  subst h3
  have hok : (F29 (d, ())).Ok (· = (0, Int.ofNat (dkNodes d).length, ())) := by
    unfold F29
    have h1 : loopInv F29L0 ((), (0 : Int), (0 : Int), d.1, d.2.1, d.2.2.1, d.2.2.2, ()) := h1
    have h2 : loopOut F29L0 ((), (0 : Int), (0 : Int), d.1, d.2.1, d.2.2.1, d.2.2.2, ()) = _ := h2
    simp only [h1, h2, getL, ok_leaf, allA_one, true_and]
  exact hok
def linkS (d : Dkt) (u : Int) (s : Str) (v : Int) : Dkt := putS d (inS (getZ d u) s v)
theorem F31_ok {d : Dkt} (hd : SmD d) (hl : (dkNodes d).length ≤ 1048576) {u : Int} (hn : (ndNames (getZ d u)).length ≤ 1048576) {s : Str} {v : Int} (hw : WfE Nd (inS (getZ d u) s v)) :
    F31.pre (d, u, s, v, ()) ∧ F31.fn (d, u, s, v, ()) = (linkS d u s v, ()) := by
  obtain ⟨p0, e0⟩ := F49_ok hd u
  obtain ⟨p1, e1⟩ := F53_ok hn s v
  obtain ⟨p2, e2⟩ := F30_ok hl hw
  have hok : (F31 (d, u, s, v, ())).Ok (· = (linkS d u s v, ())) := by
    unfold F31
    simp only [e0, p0, e1, p1, e2, p2, ok_leaf, allA_cons, allA_one, true_and]
    rfl
  exact hok
abbrev moreS (d : Dkt) : Dkt := (d.1, d.2.1, d.2.2.1 + 1, d.2.2.2)
abbrev newN (d : Dkt) (kind : Int) : Ndt := (d.2.2.1, kind, 0, 1, 0, [], [], [])
theorem F15_ok {d : Dkt} (hd : SmD d) {u : Int} {s : Str} {kind : Int} (hno : nameOf (getZ d u) s = none) (hb : ∀ n ∈ dkNodes d, ndBlocks n = []) (hl : (dkNodes d).length < 9) (h1 : d.1 = 9) (h2 : d.2.1 = 9) (h3 : 0 ≤ d.2.2.1 ∧ d.2.2.1 < 100)
    (hw : WfE Nd (newN d kind)) (hd2 : SmD (putS (moreS d) (newN d kind))) (hl2 : (dkNodes (putS (moreS d) (newN d kind))).length ≤ 1048576)
    (hn2 : (ndNames (getZ (putS (moreS d) (newN d kind)) u)).length ≤ 1048576) (hw2 : WfE Nd (inS (getZ (putS (moreS d) (newN d kind)) u) s d.2.2.1)) :
    F15.pre (d, u, s, (0, kind, 0, 0, 0, [], [], []), ()) ∧ F15.fn (d, u, s, (0, kind, 0, 0, 0, [], [], []), ()) = (linkS (putS (moreS d) (newN d kind)) u s d.2.2.1, d.2.2.1, 0, ()) := by
  obtain ⟨p0, e0⟩ := F28_ok hd u s
  obtain ⟨p1, e1⟩ := F29_none hd hb
  obtain ⟨p2, e2⟩ := F30_ok (d := moreS d) (by show (dkNodes d).length ≤ _; omega) hw
  obtain ⟨p3, e3⟩ := F31_ok hd2 hl2 hn2 hw2
  have c1 : decide (Int.ofNat (dkNodes d).length ≥ d.2.1) = false := by rw [h2, Int.ofNat_eq_natCast]; exact decide_eq_false (by omega)
  have c2 : decide (wrp .i64 ((0 : Int) + Int.ofNat (List.length ([] : List Bkt))) > d.1) = false := by rw [h1]; decide
  have c3 : wrp .i64 (d.2.2.1 + 1) = d.2.2.1 + 1 := wrp_id (by omega) (by omega)
  have hok : (F15 (d, u, s, (0, kind, 0, 0, 0, [], [], []), ())).Ok (· = (linkS (putS (moreS d) (newN d kind)) u s d.2.2.1, d.2.2.1, 0, ())) := by
    unfold F15
    simp only [e0, p0, hno, e1, p1, Option.isSome_none, c1, c2, c3, e2, p2, e3, p3, ok_node, ok_leaf, allA_cons, allA_one, allA_nil, true_and, Bool.false_eq_true, false_implies, forall_const]
  exact hok
theorem go_on {A B : Type} {tr : A → DT (A ⊕ B)} {x x' : A} {y : B} (h : (tr x).Ok (· = .inl x')) (r : loopInv tr x' ∧ loopOut tr x' = some y) : loopInv tr x ∧ loopOut tr x = some y := by
  obtain ⟨h1, h2⟩ := h
  exact ⟨.again h1 h2 r.1, by rw [loopOut_again h2]; exact r.2⟩
theorem go_out {A B : Type} {tr : A → DT (A ⊕ B)} {x : A} {y : B} (h : (tr x).Ok (· = .inr y)) : loopInv tr x ∧ loopOut tr x = some y :=
  ⟨.exit h.1 h.2, loopOut_exit h.2⟩
abbrev sA : Str := [97]
abbrev path1 : Str := [47, 97]
mutual
def okLB : (l : LT) → l.T → Bool
  | .int k, x => @decide (k.wrap x = (show Int from x)) (Int.decEq (k.wrap x) x)
  | .bool, _ => true
  | .str, x => Nat.ble (List.length x) Room
  | .row e, xs => Nat.ble (List.length xs * e.by) Room && List.all (show List e.T from xs) fun x => okEB e x
def okEB : (e : ET) → e.T → Bool
  | .one l, x => okLB l x
  | .cons l e, x => okLB l x.1 && okEB e x.2
end
mutual
theorem okLB_wf : ∀ (l : LT) (x : l.T), okLB l x = true → WfL l x
  | .int k, x, h => by simp only [okLB] at h; simp only [WfL]; exact @of_decide_eq_true _ (Int.decEq (k.wrap x) x) h
  | .bool, x, h => by simp only [WfL]
  | .str, x, h => by simp only [okLB] at h; simp only [WfL]; exact Nat.le_of_ble_eq_true h
  | .row e, xs, h => by
    simp only [okLB, Bool.and_eq_true] at h
    simp only [WfL]
    refine ⟨Nat.le_of_ble_eq_true h.1, fun i x hx => okEB_wf e x ?_⟩
    exact List.all_eq_true.1 h.2 x (List.mem_of_getElem? hx)
theorem okEB_wf : ∀ (e : ET) (x : e.T), okEB e x = true → WfE e x
  | .one l, x, h => by simp only [okEB] at h; simp only [WfE]; exact okLB_wf l x h
  | .cons l e, x, h => by
    simp only [okEB, Bool.and_eq_true] at h
    simp only [WfE]
    exact ⟨okLB_wf l x.1 h.1, okEB_wf e x.2 h.2⟩
end
abbrev dk0 : Dkt := (9, 9, 2, [(1, 2, 493, 1, 0, [], [], [])])
def bj (j : Nat) : UInt8 := UInt8.ofNat (97 + j)
theorem sortN_of {xs : List Ndt} (h : xs.Pairwise fun a b => a.1 < b.1) : SortN xs := fun i j hi hj hij => List.pairwise_iff_getElem.1 h i j hi hj hij
theorem sortS_of {xs : List Nmt} (h : xs.Pairwise fun a b => Op.bytesLess a.1 b.1 = true) : SortS xs := fun i j hi hj hij => List.pairwise_iff_getElem.1 h i j hi hj hij
def goodB (d : Dkt) : Bool := okEB Dk d && (decide ((dkNodes d).Pairwise fun a b => a.1 < b.1) && ((dkNodes d).all fun n => decide ((ndNames n).Pairwise fun a b => Op.bytesLess a.1 b.1 = true) && (decide ((ndNames n).length ≤ 1048576) && ((ndNames n).all fun x => decide (List.length x.1 ≤ 1048576)))))
theorem goodB_ok {d : Dkt} (h : goodB d = true) : GoodD d := by
  simp only [goodB, Bool.and_eq_true, List.all_eq_true, decide_eq_true_eq] at h
  obtain ⟨h1, h2, h3⟩ := h
  exact ⟨⟨SmD.of (okEB_wf _ _ h1), sortN_of h2, fun n hn => sortS_of (h3 n hn).1⟩, fun n hn => (h3 n hn).2.1, fun n hn x hx => (h3 n hn).2.2 x hx⟩
section
variable {ways : List Int} {cut : List Bool}
theorem kept1 (c : UInt8) : kept [c] = false := rfl
end
section
variable {ways : List Int} {cut : List Bool}
theorem keptO : kept sOpq = true := by decide +kernel
end
theorem byte_at {i : Nat} (hi : i < 8) : bBytes ((wrp .u8 (wrp .i64 ((97 : Int) + (i : Int)))) :: []) = [bj i] := by
  have h : ∀ i : Nat, i < 8 → bBytes ((wrp .u8 (wrp .i64 ((97 : Int) + (i : Int)))) :: []) = [bj i] := by decide +kernel
  exact h i hi
theorem e0 : (dec 0 0 [] : Str) = [] := rfl
theorem e1 : (dec 1 97 [] : Str) = sA := by decide +kernel
theorem e2 : (dec 2 12129 [] : Str) = path1 := by decide +kernel
theorem e3 : (dec 3 3105071 [] : Str) = [47, 97, 47] := by decide +kernel
theorem F5_is : F5.pre ((9 : Int), (9 : Int), ()) ∧ F5.fn ((9 : Int), (9 : Int), ()) = (dk0, ()) := ⟨by simp [F5.pre, F5, DT.pre, AllA], rfl⟩
theorem ways_ok {ways : List Int} {i : Nat} (h : i < ways.length) : @id Int (xsAt (.one (.int .i64)) ways i) = ways[i] := xsAt_lt h
theorem heeds_at {ways : List Int} {i : Nat} (h : i < ways.length) (h1 : 1 ≤ ways[i]) (h3 : ways[i] ≤ 3) : heeds ways (i : Int) = (ways[i] != 2) := by
  unfold heeds
  have a : decide (0 ≤ (i : Int)) = true := decide_eq_true (by omega)
  have b : decide ((i : Int) < Int.ofNat ways.length) = true := by rw [Int.ofNat_eq_natCast]; exact decide_eq_true (by omega)
  rw [a, b, Int.toNat_natCast, ways_ok h, Bool.true_and, Bool.true_and]
  have hc : ways[i] = 1 ∨ ways[i] = 2 ∨ ways[i] = 3 := by omega
  rcases hc with h | h | h <;> rw [h] <;> rfl
end Go.Proofs.Ytkccnomdfkhfnaa
