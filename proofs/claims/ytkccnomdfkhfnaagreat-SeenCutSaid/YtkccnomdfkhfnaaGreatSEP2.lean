/- Names found; nodes of a spot; signs. -/
import Derived.Test.YtkccnomdfkhfnaaGreatSEP1
set_option linter.unusedVariables false
set_option linter.unusedSimpArgs false
namespace Go.Proofs.YtkccnomdfkhfnaaGreat
open Go.RowKit Go.Proofs.YtkccnomdfkhfnaaGreat.Ev

/-! ## strings in their order -/
theorem bl_irrefl : ∀ x : Str, Op.bytesLess x x = false
  | [] => rfl
  | a :: x => by simp [Op.bytesLess, bl_irrefl x]
theorem bl_anti : ∀ a b : Str, Op.bytesLess a b = false → Op.bytesLess b a = false → a = b
  | [], [], _, _ => rfl
  | [], _ :: _, h, _ => by simp [Op.bytesLess] at h
  | _ :: _, [], _, h => by simp [Op.bytesLess] at h
  | a :: x, b :: y, h, k => by
    simp only [Op.bytesLess, Bool.or_eq_false_iff, decide_eq_false_iff_not, Bool.and_eq_false_iff] at h k
    have e : a = b := UInt8.le_antisymm (UInt8.not_lt.1 k.1) (UInt8.not_lt.1 h.1)
    subst e
    rcases h.2 with g | g
    · simp at g
    · rcases k.2 with g' | g'
      · simp at g'
      · rw [bl_anti x y g g']
theorem bl_trans : ∀ a b c : Str, Op.bytesLess a b = true → Op.bytesLess b c = true → Op.bytesLess a c = true
  | _, [], _, h, _ => by simp [Op.bytesLess] at h
  | _, _ :: _, [], _, k => by simp [Op.bytesLess] at k
  | [], _ :: _, _ :: _, _, _ => rfl
  | a :: x, b :: y, c :: z, h, k => by
    simp only [Op.bytesLess, Bool.or_eq_true, decide_eq_true_eq, Bool.and_eq_true, beq_iff_eq] at h k ⊢
    rcases h with h | ⟨h, h'⟩
    · rcases k with k | ⟨k, k'⟩
      · exact .inl (UInt8.lt_trans h k)
      · subst k; exact .inl h
    · subst h
      rcases k with k | ⟨k, k'⟩
      · exact .inl k
      · exact .inr ⟨k, bl_trans x y z h' k'⟩
theorem bl_asymm {a b : Str} (h : Op.bytesLess a b = true) : Op.bytesLess b a = false := by
  cases q : Op.bytesLess b a with
  | false => rfl
  | true => have := bl_trans a b a h q; rw [bl_irrefl] at this; cases this
theorem bl_ne {a b : Str} (h : Op.bytesLess a b = true) : a ≠ b := fun e => by rw [e, bl_irrefl] at h; cases h

theorem F121_fn (a : Str) : F121.pre (a, ()) ∧ F121.fn (a, ()) = (false, ()) := by simp [F121.pre, F121.fn, F121, DT.pre, DT.fn]
theorem F115_ok (a b : Str) : F115.pre (a, b, ()) ∧ F115.fn (a, b, ()) = ((if Op.bytesLess a b then -1 else if a = b then 0 else 1 : Int), ()) := by
  have h : (F115 (a, b, ())).Ok (· = ((if Op.bytesLess a b then -1 else if a = b then 0 else 1 : Int), ())) := by
    unfold F115
    simp only [F121_fn, ok_node, ok_leaf, allA_cons, allA_one, allA_nil, true_and]
    refine ⟨fun h => by simp at h, fun _ => ⟨fun h => by simp at h, fun _ => ⟨fun h => ?_, fun h => ⟨fun g => ?_, fun g => ?_⟩⟩⟩⟩
    · rw [if_pos h]
    · simp [h] at g; simp [h, g]
    · simp [h] at g; simp [h, g, bl_irrefl]
  exact h
theorem F114_ok (n : Nmt) (t : Str) : F114.pre (n, t, ()) ∧ F114.fn (n, t, ()) = ((if Op.bytesLess n.1 t then -1 else if n.1 = t then 0 else 1 : Int), ()) := by
  obtain ⟨h1, h2⟩ := F115_ok n.1 t
  refine ⟨?_, ?_⟩
  · simp only [F114.pre, F114, DT.pre, allA_one]; exact h1
  · simp only [F114.fn, F114, DT.fn, h2]
abbrev SortS (xs : List Nmt) : Prop := ∀ i j (hi : i < xs.length) (hj : j < xs.length), i < j → Op.bytesLess xs[i].1 xs[j].1 = true
theorem bsS (xs : List Nmt) (t : Str) (hn : xs.length < 2305843009213693952) (hs : SortS xs) : F113_114.pre (xs, t, (), ()) ∧ ∃ k, LB xs (fun x => Op.bytesLess x.1 t) k ∧
    F113_114.fn (xs, t, (), ()) = ((k : Int), (if h : k < xs.length then xs[k].1 == t else false), ()) := by
  obtain ⟨h1, y, h2, h3⟩ := loopP (tr := F113_114L0)
    (fun x => ∃ i j : Nat, x = (xs, t, (), (xs.length : Int), (i : Int), (j : Int), ()) ∧ i ≤ j ∧ j ≤ xs.length ∧ (∀ k (h : k < xs.length), k < i → Op.bytesLess xs[k].1 t = true) ∧ ∀ k (h : k < xs.length), j ≤ k → Op.bytesLess xs[k].1 t = false)
    (fun x => (x.2.2.2.2.2.1 - x.2.2.2.2.1).toNat)
    (fun y => ∃ k : Nat, y = .inl (xs, t, (), (xs.length : Int), (k : Int), ()) ∧ LB xs (fun x => Op.bytesLess x.1 t) k) (by
      rintro _ ⟨i, j, rfl, hij, hjn, hlo, hhi⟩
      unfold F113_114L0
      simp only [ok_node, ok_leaf, allA_cons, allA_one, allA_nil, true_and, decide_eq_true_eq, decide_eq_false_iff_not]
      refine ⟨fun h => ?_, fun h => ?_⟩
      · have hm := mid_eq (i := i) (j := j) (by omega)
        have hmlt : (i + j) / 2 < xs.length := by omega
        have hx : @id Nmt (xsAt Nm xs ((i + j) / 2)) = xs[(i + j) / 2] := xsAt_lt hmlt
        rw [hm.2, hm.1, Int.toNat_natCast, hx, wrp_succ (by omega)]
        obtain ⟨p1, p2⟩ := F114_ok xs[(i + j) / 2] t
        rw [p2]
        refine ⟨⟨p1, by omega, by rw [Int.ofNat_eq_natCast]; omega, by omega, rfl⟩, fun g => ⟨⟨_, _, rfl, by omega, by omega, fun k hk hki => ?_, hhi⟩, by simp; omega⟩, fun g => ⟨⟨_, _, rfl, by omega, by omega, hlo, fun k hk hki => ?_⟩, by simp; omega⟩⟩
        · have hlt : Op.bytesLess xs[(i + j) / 2].1 t = true := by
            cases q : Op.bytesLess xs[(i + j) / 2].1 t with
            | true => rfl
            | false => rw [if_neg (by simp [q])] at g; split at g <;> omega
          rcases Nat.lt_or_ge k ((i + j) / 2) with q | q
          · exact bl_trans _ _ _ (hs k _ hk hmlt q) hlt
          · have : k = (i + j) / 2 := by omega
            subst this; exact hlt
        · have hge : Op.bytesLess xs[(i + j) / 2].1 t = false := by
            cases q : Op.bytesLess xs[(i + j) / 2].1 t with
            | false => rfl
            | true => rw [if_pos q] at g; omega
          rcases Nat.lt_or_ge ((i + j) / 2) k with q | q
          · have h2 := hs _ k hmlt hk q
            cases z : Op.bytesLess xs[k].1 t with
            | false => rfl
            | true => have := bl_trans _ _ _ h2 z; rw [hge] at this; cases this
          · have : k = (i + j) / 2 := by omega
            subst this; exact hge
      · have : i = j := by omega
        subst this
        exact ⟨i, rfl, hjn, fun k hk hki => hlo k hk hki, fun k hk hki => hhi k hk hki⟩)
    _ ⟨0, xs.length, rfl, Nat.zero_le _, Nat.le_refl _, fun k _ h => absurd h (Nat.not_lt_zero _), fun k h h' => absurd h (by omega)⟩
  obtain ⟨k, rfl, L⟩ := h3
  have hk := L.le
  have hok : (F113_114 (xs, t, (), ())).Ok (· = ((k : Int), (if h : k < xs.length then xs[k].1 == t else false), ())) := by
    unfold F113_114
    have h1 : loopInv F113_114L0 (xs, t, (), (Int.ofNat xs.length), (0 : Int), (Int.ofNat xs.length), ()) := h1
    have h2 : loopOut F113_114L0 (xs, t, (), (Int.ofNat xs.length), (0 : Int), (Int.ofNat xs.length), ()) = some (.inl (xs, t, (), (xs.length : Int), (k : Int), ())) := h2
    simp only [h2, getL, ok_node, ok_leaf, allA_cons, allA_one, allA_nil, true_and, decide_eq_true_eq, decide_eq_false_iff_not, Int.toNat_natCast]
    refine ⟨h1, fun h => ?_, fun h => ?_⟩
    · have hlt : k < xs.length := by omega
      have hx : @id Nmt (xsAt Nm xs k) = xs[k] := xsAt_lt hlt
      rw [hx]
      obtain ⟨p1, p2⟩ := F114_ok xs[k] t
      rw [p2, dif_pos hlt]
      refine ⟨⟨p1, by omega, by rw [Int.ofNat_eq_natCast]; omega⟩, ?_⟩
      have : ((if Op.bytesLess xs[k].1 t then (-1 : Int) else if xs[k].1 = t then 0 else 1) == 0) = (xs[k].1 == t) := by
        rw [if_neg (by have : Op.bytesLess xs[k].1 t = false := L.hi k hlt (Nat.le_refl _); simp [this])]
        by_cases q : xs[k].1 = t
        · simp [q]
        · have : (xs[k].1 == t) = false := by simpa using q
          rw [this, if_neg q]; rfl
      rw [this]
    · rw [dif_neg (by omega)]
  exact ⟨hok.1, k, L, hok.2⟩

/-! ## what a disk is that is such, and what is found in it -/
abbrev ndNames (n : Ndt) : List Nmt := n.2.2.2.2.2.2.2
abbrev ndBlocks (n : Ndt) : List Bkt := n.2.2.2.2.2.1
abbrev dkNodes (d : Dkt) : List Ndt := d.2.2.2
abbrev ndZ : Ndt := (0, 0, 0, 0, 0, [], [], [])
def nodeOf (d : Dkt) (u : Int) : Option Ndt := (dkNodes d).find? fun n => n.1 == u
def nameOf (n : Ndt) (s : Str) : Option Int := ((ndNames n).find? fun x => x.1 == s).map (·.2)
/-- rows that are not too long -/
structure SmN (n : Ndt) : Prop where
  names : (ndNames n).length < 2305843009213693952
  blocks : (ndBlocks n).length < 2305843009213693952
  wf : WfE Nd n
structure SmD (d : Dkt) : Prop where
  nodes : (dkNodes d).length < 2305843009213693952
  each : ∀ n ∈ dkNodes d, SmN n
  wf : WfE Dk d
/-- numbers rise, names rise -/
structure Rises (d : Dkt) : Prop where
  sm : SmD d
  nodes : SortN (dkNodes d)
  names : ∀ n ∈ dkNodes d, SortS (ndNames n)
theorem row_small {e : ET} {xs : List e.T} (h : WfL (.row e) xs) (h2 : 8 ≤ e.by) : List.length xs < 2305843009213693952 := by
  simp only [WfL] at h
  have h1 : List.length xs * e.by ≤ Room := h.1
  have : List.length xs * 8 ≤ List.length xs * e.by := Nat.mul_le_mul_left _ h2
  unfold Room at h1
  omega
theorem SmN.of {n : Ndt} (h : WfE Nd n) : SmN n := by
  have h0 := h
  simp only [Nd, WfE] at h
  exact ⟨row_small (e := Nm) h.2.2.2.2.2.2.2 (by decide), row_small (e := Bk) h.2.2.2.2.2.1 (by decide), h0⟩
theorem SmD.of {d : Dkt} (h : WfE Dk d) : SmD d := by
  have h0 := h
  simp only [Dk, WfE] at h
  refine ⟨row_small (e := Nd) h.2.2.2 (by decide), fun n hn => ?_, h0⟩
  obtain ⟨i, hi, rfl⟩ := List.getElem_of_mem hn
  have h3 := h.2.2.2
  simp only [WfL] at h3
  exact SmN.of (h3.2 i _ (List.getElem?_eq_getElem hi))
theorem ndZ_sm : SmN ndZ := ⟨by decide, by decide, by
  simp only [Nd, WfE, WfL]
  exact ⟨rfl, rfl, rfl, rfl, rfl, ⟨by decide, fun i x h => by cases i <;> cases h⟩, by decide, ⟨by decide, fun i x h => by cases i <;> cases h⟩⟩⟩
theorem Rises.node {d : Dkt} (h : Rises d) (u : Int) : SmN ((nodeOf d u).getD ndZ) ∧ SortS (ndNames ((nodeOf d u).getD ndZ)) := by
  cases q : nodeOf d u with
  | none => exact ⟨ndZ_sm, fun i j hi => absurd hi (Nat.not_lt_zero _)⟩
  | some n =>
    have := List.mem_of_find?_eq_some q
    exact ⟨h.sm.each n this, h.names n this⟩
theorem nodes_bs {d : Dkt} (h : Rises d) (u : Int) : F63_64.pre (dkNodes d, u, (), ()) ∧ ∃ k : Nat, F63_64.fn (dkNodes d, u, (), ()) = ((k : Int), (nodeOf d u).isSome, ()) ∧ (nodeOf d u = none ∨ ∃ h : k < (dkNodes d).length, nodeOf d u = some (dkNodes d)[k]) := by
  obtain ⟨h1, k, L, h2⟩ := bsN (dkNodes d) u h.sm.nodes h.nodes
  have hf := find_lb (e := fun n => n.1 == u) L (fun x hx => by simp at hx ⊢; omega) (fun i j hi hj hij he => by simp at he ⊢; have := h.nodes i j hi hj hij; omega)
  have hf : nodeOf d u = if h : k < (dkNodes d).length then (if (dkNodes d)[k].1 == u then some (dkNodes d)[k] else none) else none := hf
  refine ⟨h1, k, ?_, ?_⟩
  · rw [h2, hf]
    split
    · split <;> simp_all
    · rfl
  · rw [hf]
    split
    · rename_i hk
      split
      · exact .inr ⟨hk, rfl⟩
      · exact .inl rfl
    · exact .inl rfl
theorem names_bs {n : Ndt} (h : SmN n) (hs : SortS (ndNames n)) (s : Str) : F62.pre (n, s, ()) ∧ F62.fn (n, s, ()) = ((nameOf n s).getD 0, (nameOf n s).isSome, ()) := by
  obtain ⟨h1, k, L, h2⟩ := bsS (ndNames n) s h.names hs
  have hf := find_lb (e := fun x => x.1 == s) L (fun x hx => by have := bl_ne hx; simpa using this) (fun i j hi hj hij he => by simp at he; have := hs i j hi hj hij; rw [he] at this; exact this)
  have hf : nameOf n s = (if h : k < (ndNames n).length then (if (ndNames n)[k].1 == s then some (ndNames n)[k] else none) else none).map (·.2) := congrArg (Option.map fun (x : Nmt) => x.2) hf
  have h91 : F91.pre (n, s, ()) ∧ F91.fn (n, s, ()) = ((k : Int), (if h : k < (ndNames n).length then (ndNames n)[k].1 == s else false), ()) := by
    refine ⟨?_, ?_⟩
    · simp only [F91.pre, F91, DT.pre, allA_one]; exact h1
    · simp only [F91.fn, F91, DT.fn]; rw [h2]
  have hok : (F62 (n, s, ())).Ok (· = ((nameOf n s).getD 0, (nameOf n s).isSome, ())) := by
    unfold F62
    rw [h91.2, hf]
    simp only [ok_node, ok_leaf, allA_cons, allA_one, allA_nil, true_and, Int.toNat_natCast]
    refine ⟨h91.1, fun g => ?_, fun g => ?_⟩
    · split at g
      · rename_i hk
        rw [dif_pos hk, if_neg (by simpa using g)]; rfl
      · rename_i hk
        rw [dif_neg hk]; rfl
    · split at g
      · rename_i hk
        rw [dif_pos hk, if_pos (by simpa using g)]
        have hx : @id Nmt (xsAt Nm (ndNames n) k) = (ndNames n)[k] := xsAt_lt hk
        rw [hx]
        have hk' : k < n.2.2.2.2.2.2.2.length := hk
        exact ⟨⟨by omega, by rw [Int.ofNat_eq_natCast]; omega⟩, rfl⟩
      · simp at g
  exact hok
end Go.Proofs.YtkccnomdfkhfnaaGreat
