/- Names that are seen, told twice; what is told of directories. -/
import Derived.Test.YtkccnomdfkhfnaaGreatSEP6
set_option linter.unusedVariables false
set_option linter.unusedSimpArgs false
namespace Go.Proofs.YtkccnomdfkhfnaaGreat
open Go.RowKit Go.Proofs.YtkccnomdfkhfnaaGreat.Ev

def namesS (w : Wdt) (dirs : List Spt) : List Str := dirs.flatMap fun d => (ndNames (nodeZ w d)).map (·.1)
abbrev stN0 (w : Wdt) (dirs : List Spt) (l : List Str) (i : Nat) : Unit × Unit × List (List UInt8) × List Spt × Int × Int × List (Int) × Int × List Dkt × Int × List Rwt × List Rwt × Int × List Spt × Unit :=
  ((), (), l, dirs, (dirs.length : Int), (i : Int), w.1, w.2.1, w.2.2.1, w.2.2.2.1, w.2.2.2.2.1, w.2.2.2.2.2.1, w.2.2.2.2.2.2, dirs, ())
abbrev stN1 (w : Wdt) (dirs : List Spt) (l : List Str) (i : Nat) (ns : List Nmt) (k : Nat) : Unit × Unit × List (List UInt8) × List Spt × Int × Int × List Nmt × Int × Int × List (Int) × Int × List Dkt × Int × List Rwt × List Rwt × Int × List Spt × Unit :=
  ((), (), l, dirs, (dirs.length : Int), (i : Int), ns, (ns.length : Int), (k : Int), w.1, w.2.1, w.2.2.1, w.2.2.2.1, w.2.2.2.2.1, w.2.2.2.2.2.1, w.2.2.2.2.2.2, dirs, ())
theorem F18L1_ok {w : Wdt} {dirs : List Spt} {l : List Str} {i : Nat} {ns : List Nmt} (hn : ns.length ≤ 1048576) (hl : l.length ≤ 10000000000) :
    loopInv F18L1 (stN1 w dirs l i ns 0) ∧ loopOut F18L1 (stN1 w dirs l i ns 0) = some (.inl (stN0 w dirs (l ++ ns.map (·.1)) i)) := by
  obtain ⟨h1, y, h2, h3⟩ := loopP (tr := F18L1) (fun x => ∃ k : Nat, x = stN1 w dirs (l ++ (ns.take k).map (·.1)) i ns k ∧ k ≤ ns.length) (fun x => (x.2.2.2.2.2.2.2.1 - x.2.2.2.2.2.2.2.2.1).toNat) (fun y => y = .inl (stN0 w dirs (l ++ ns.map (·.1)) i)) (by
    rintro _ ⟨k, rfl, hk⟩
    rcases Nat.lt_or_ge k ns.length with g | g
    · have hx : @id Nmt (xsAt Nm ns k) = ns[k] := xsAt_lt g
      have hi3 : (k : Int) < Int.ofNat ns.length := by rw [Int.ofNat_eq_natCast]; omega
      have hi2 : (k : Int) < (ns.length : Int) := hi3
      have htk : (l ++ (ns.take k).map (·.1)) ++ ns[k].1 :: [] = l ++ (ns.take (k + 1)).map (·.1) := by rw [List.take_add_one, List.getElem?_eq_getElem g, List.map_append, List.append_assoc]; rfl
      unfold F18L1
      simp only [Int.toNat_natCast, hx, htk, hi2, hi3, decide_true, ok_node, ok_leaf, allA_cons, allA_one, allA_nil, true_and, and_true, Int.natCast_nonneg, forall_const, Bool.true_eq_false, false_implies, wrp_succ (show k < 4611686018427387904 by omega)]
      refine ⟨?_, ⟨k + 1, rfl, g⟩, by simp; omega⟩
      rw [List.length_append, List.length_map, List.length_take]
      have := Nat.min_le_right (k + 1) ns.length
      unfold Room; omega
    · have : k = ns.length := by omega
      subst this
      unfold F18L1
      simp [List.take_length])
    (stN1 w dirs l i ns 0) ⟨0, by simp, Nat.zero_le _⟩
  exact ⟨h1, by rw [h2, h3]⟩
theorem F18_ok {w : Wdt} (hw : GoodW w) {dirs : List Spt} (hd : ∀ d ∈ dirs, SpotOk w d) (hlen : dirs.length ≤ 1000) :
    F18.pre (w, dirs, ()) ∧ F18.fn (w, dirs, ()) = ((Lib.compact (F36.fn (namesS w dirs))).filter fun x => !goneB w dirs x, ()) := by
  have hlong : ∀ x ∈ namesS w dirs, List.length x ≤ 1048576 := by
    intro x hx
    obtain ⟨d, hdm, hx⟩ := List.mem_flatMap.1 hx
    obtain ⟨n, hn, rfl⟩ := List.mem_map.1 hx
    exact (nodeZ_good hw (hd d hdm)).2.2 n hn
  obtain ⟨h1, y, h2, h3⟩ := loopP (tr := F18L0)
    (fun x => ∃ (i : Nat) (l : List Str), x = stN0 w dirs l i ∧ i ≤ dirs.length ∧ l.length ≤ i * 1048576 ∧ l ++ namesS w (dirs.drop i) = namesS w dirs)
    (fun x => (x.2.2.2.2.1 - x.2.2.2.2.2.1).toNat)
    (fun y => y = .inl ((), (), namesS w dirs, w.1, w.2.1, w.2.2.1, w.2.2.2.1, w.2.2.2.2.1, w.2.2.2.2.2.1, w.2.2.2.2.2.2, dirs, ()) ∧ (namesS w dirs).length ≤ 1048576000) (by
      rintro _ ⟨i, l, rfl, hi, hl, hR⟩
      rcases Nat.lt_or_ge i dirs.length with g | g
      · have hs : SpotOk w dirs[i] := hd _ (List.getElem_mem g)
        have hx : @id Spt (xsAt Sp dirs i) = dirs[i] := xsAt_lt g
        rw [List.drop_eq_getElem_cons g] at hR
        generalize hdi : dirs[i] = d at hs hx hR
        obtain ⟨p1, e1⟩ := F35_ok hw hs
        have hf : (ndNames (nodeZ w d)).length ≤ 1048576 := nodeZ_few hw hs
        have hlb : l.length ≤ 10000000000 := by have := Nat.mul_le_mul_right 1048576 (show i ≤ 1000 by omega); omega
        obtain ⟨q1, q2⟩ := F18L1_ok (w := w) (dirs := dirs) (l := l) (i := i) hf hlb
        have q1 : loopInv F18L1 ((), (), l, dirs, (dirs.length : Int), (i : Int), (nodeZ w d).2.2.2.2.2.2.2, Int.ofNat (List.length (nodeZ w d).2.2.2.2.2.2.2), (0 : Int), w.1, w.2.1, w.2.2.1, w.2.2.2.1, w.2.2.2.2.1, w.2.2.2.2.2.1, w.2.2.2.2.2.2, dirs, ()) := q1
        have q2 : loopOut F18L1 ((), (), l, dirs, (dirs.length : Int), (i : Int), (nodeZ w d).2.2.2.2.2.2.2, Int.ofNat (List.length (nodeZ w d).2.2.2.2.2.2.2), (0 : Int), w.1, w.2.1, w.2.2.1, w.2.2.2.1, w.2.2.2.2.1, w.2.2.2.2.2.1, w.2.2.2.2.2.2, dirs, ()) = _ := q2
        have hi3 : (i : Int) < Int.ofNat dirs.length := by rw [Int.ofNat_eq_natCast]; omega
        have hi2 : (i : Int) < (dirs.length : Int) := hi3
        unfold F18L0
        simp only [Int.toNat_natCast, hx, e1, p1, q1, q2, getL, hi2, hi3, decide_true, ok_node, ok_leaf, allA_cons, allA_one, allA_nil, true_and, and_true, Int.natCast_nonneg, forall_const, Bool.true_eq_false, false_implies, wrp_succ (show i < 4611686018427387904 by omega)]
        refine ⟨⟨i + 1, _, rfl, g, ?_, ?_⟩, by simp; omega⟩
        · rw [List.length_append, List.length_map, Nat.add_mul]; omega
        · rw [← hR, List.append_assoc]; rfl
      · have : i = dirs.length := by omega
        subst this
        rw [List.drop_length] at hR
        unfold F18L0
        simp only [ok_node, ok_leaf, allA_nil, true_and, Int.lt_irrefl, decide_false, Bool.false_eq_true, false_implies, forall_const]
        have e : l = namesS w dirs := by rw [← hR]; exact (List.append_nil l).symm
        subst e
        refine ⟨rfl, ?_⟩
        have := Nat.mul_le_mul_right 1048576 hlen
        omega)
    (stN0 w dirs [] 0) ⟨0, [], rfl, Nat.zero_le _, Nat.zero_le _, rfl⟩
  obtain ⟨rfl, hns⟩ := h3
  have hc : (Lib.compact (F36.fn (namesS w dirs))).length ≤ 1048576000 := by
    have h1 := compact_len (F36.fn (namesS w dirs))
    rw [sort_len] at h1
    exact Nat.le_trans h1 hns
  obtain ⟨p, e⟩ := F38_ok hw hd hlen (xs := Lib.compact (F36.fn (namesS w dirs))) (by omega) (fun x hx => hlong x ((sort_mem _ x).1 (compact_mem _ x hx)))
  have hok : (F18 (w, dirs, ())).Ok (· = ((Lib.compact (F36.fn (namesS w dirs))).filter fun x => !goneB w dirs x, ())) := by
    unfold F18
    have h1 : loopInv F18L0 ((), (), [], dirs, (Int.ofNat (List.length dirs)), (0 : Int), w.1, w.2.1, w.2.2.1, w.2.2.2.1, w.2.2.2.2.1, w.2.2.2.2.2.1, w.2.2.2.2.2.2, dirs, ()) := h1
    have h2 : loopOut F18L0 ((), (), [], dirs, (Int.ofNat (List.length dirs)), (0 : Int), w.1, w.2.1, w.2.2.1, w.2.2.2.1, w.2.2.2.2.1, w.2.2.2.2.2.1, w.2.2.2.2.2.2, dirs, ()) = _ := h2
    have e37 : ∀ l : List Str, F37.fn (l, ()) = (Lib.compact l, ()) := fun _ => rfl
    simp only [h1, h2, getL, e37, e, p, ok_leaf, allA_cons, allA_one, true_and, and_true]
    exact ⟨trivial, trivial⟩
  exact hok

/-! ## the document's -/
def stepN (w : Wdt) (dirs : List Spt) (l : List Str) (x : Str) : List Str := bif goneB w dirs x then l else insS x l
theorem stepN_len (w : Wdt) (dirs : List Spt) (l : List Str) (x : Str) : (stepN w dirs l x).length ≤ l.length + 1 := by
  unfold stepN
  cases goneB w dirs x
  · exact insS_len x l
  · exact Nat.le_succ _
theorem foldN_len (w : Wdt) (dirs : List Spt) : ∀ (xs l : List Str), (xs.foldl (stepN w dirs) l).length ≤ l.length + xs.length
  | [], l => Nat.le_refl _
  | x :: r, l => by
    have h1 := foldN_len w dirs r (stepN w dirs l x)
    have h2 := stepN_len w dirs l x
    simp only [List.foldl_cons, List.length_cons]; omega
theorem foldN_mem (w : Wdt) (dirs : List Spt) : ∀ (xs l : List Str) (z : Str), z ∈ xs.foldl (stepN w dirs) l ↔ z ∈ l ∨ (z ∈ xs ∧ goneB w dirs z = false)
  | [], l, z => by simp
  | x :: r, l, z => by
    rw [List.foldl_cons, foldN_mem w dirs r]
    unfold stepN
    cases q : goneB w dirs x with
    | true =>
      simp only [cond_true, List.mem_cons]
      constructor
      · rintro (h | ⟨h, h'⟩)
        · exact .inl h
        · exact .inr ⟨.inr h, h'⟩
      · rintro (h | ⟨h | h, h'⟩)
        · exact .inl h
        · subst h; rw [q] at h'; cases h'
        · exact .inr ⟨h, h'⟩
    | false =>
      simp only [cond_false, insS_mem, List.mem_cons]
      constructor
      · rintro ((h | h) | ⟨h, h'⟩)
        · subst h; exact .inr ⟨.inl rfl, q⟩
        · exact .inl h
        · exact .inr ⟨.inr h, h'⟩
      · rintro (h | ⟨h | h, h'⟩)
        · exact .inl (.inr h)
        · exact .inl (.inl h)
        · exact .inr ⟨h, h'⟩
theorem foldN_rise (w : Wdt) (dirs : List Spt) : ∀ (xs l : List Str), Rise l → Rise (xs.foldl (stepN w dirs) l)
  | [], l, h => h
  | x :: r, l, h => by
    rw [List.foldl_cons]
    refine foldN_rise w dirs r _ ?_
    unfold stepN
    cases goneB w dirs x
    · exact insS_rise x l h
    · exact h
theorem names_same (w : Wdt) (dirs : List Spt) : ((Lib.compact (F36.fn (namesS w dirs))).filter fun x => !goneB w dirs x) = (namesS w dirs).foldl (stepN w dirs) [] := by
  refine rise_ext _ _ (List.Pairwise.filter _ (compact_rise (sort_le _))) (foldN_rise w dirs _ [] List.Pairwise.nil) fun z => ?_
  rw [foldN_mem, List.mem_filter]
  simp only [List.not_mem_nil, false_or, Bool.not_eq_true']
  refine and_congr_left fun _ => ⟨fun h => (sort_mem _ z).1 (compact_mem _ z h), fun h => compact_all_mem _ z ((sort_mem _ z).2 h)⟩
abbrev stM0 (w : Wdt) (dirs : List Spt) (l : List Str) (i : Nat) : List Spt × Unit × List (List UInt8) × Int × List (Int) × Int × List Dkt × Int × List Rwt × List Rwt × Int × Unit :=
  (dirs, (), l, (i : Int), w.1, w.2.1, w.2.2.1, w.2.2.2.1, w.2.2.2.2.1, w.2.2.2.2.2.1, w.2.2.2.2.2.2, ())
abbrev stM1 (w : Wdt) (dirs : List Spt) (l : List Str) (i : Nat) (n : Ndt) (k : Nat) : List Spt × Unit × List (List UInt8) × Int × Unit × Int × List (Int) × Int × List Dkt × Int × List Rwt × List Rwt × Int × Int × Int × Int × Int × Int × List Bkt × List UInt8 × List Nmt × Unit :=
  (dirs, (), l, (i : Int), (), (k : Int), w.1, w.2.1, w.2.2.1, w.2.2.2.1, w.2.2.2.2.1, w.2.2.2.2.2.1, w.2.2.2.2.2.2, n.1, n.2.1, n.2.2.1, n.2.2.2.1, n.2.2.2.2.1, n.2.2.2.2.2.1, n.2.2.2.2.2.2.1, n.2.2.2.2.2.2.2, ())
theorem F23L1_ok {w : Wdt} (hw : GoodW w) {dirs : List Spt} (hd : ∀ d ∈ dirs, SpotOk w d) (hlen : dirs.length ≤ 1000) {l : List Str} {i : Nat} {n : Ndt} (hn : n.2.2.2.2.2.2.2.length ≤ 1048576) (hs : ∀ x ∈ n.2.2.2.2.2.2.2, List.length x.1 ≤ 1048576) (hl : l.length ≤ 1048576000) :
    loopInv F23L1 (stM1 w dirs l i n 0) ∧ loopOut F23L1 (stM1 w dirs l i n 0) = some (.inl (stM0 w dirs ((n.2.2.2.2.2.2.2.map (·.1)).foldl (stepN w dirs) l) i)) := by
  obtain ⟨h1, y, h2, h3⟩ := loopP (tr := F23L1)
    (fun x => ∃ (k : Nat) (a : List Str), x = stM1 w dirs a i n k ∧ k ≤ n.2.2.2.2.2.2.2.length ∧ a.length ≤ l.length + k ∧ ((n.2.2.2.2.2.2.2.drop k).map (·.1)).foldl (stepN w dirs) a = (n.2.2.2.2.2.2.2.map (·.1)).foldl (stepN w dirs) l)
    (fun x => (x.2.2.2.2.2.2.2.2.2.2.2.2.2.2.2.2.2.2.2.2.1.length - x.2.2.2.2.2.1).toNat)
    (fun y => y = .inl (stM0 w dirs ((n.2.2.2.2.2.2.2.map (·.1)).foldl (stepN w dirs) l) i)) (by
      rintro _ ⟨k, a, rfl, hk, ha, hR⟩
      rcases Nat.lt_or_ge k n.2.2.2.2.2.2.2.length with g | g
      · have hx : @id Nmt (xsAt Nm n.2.2.2.2.2.2.2 k) = n.2.2.2.2.2.2.2[k] := xsAt_lt g
        have hsx := hs _ (List.getElem_mem g)
        rw [List.drop_eq_getElem_cons g, List.map_cons, List.foldl_cons] at hR
        generalize n.2.2.2.2.2.2.2[k] = x at hx hsx hR
        obtain ⟨p1, e1⟩ := F44_ok x.1
        obtain ⟨p2, e2⟩ := F10_ok hw (name := x.1) (by omega) hd hlen
        obtain ⟨p3, e3⟩ := F45_ok (l := a) (by omega) x.1
        have hi3 : (k : Int) < Int.ofNat n.2.2.2.2.2.2.2.length := by rw [Int.ofNat_eq_natCast]; omega
        have hst := stepN_len w dirs a x.1
        unfold F23L1
        simp only [Int.toNat_natCast, hx, e1, p1, e2, p2, e3, p3, hi3, decide_true, ok_node, ok_leaf, allA_cons, allA_one, allA_nil, true_and, and_true, Int.natCast_nonneg, forall_const, Bool.true_eq_false, false_implies, wrp_succ (show k < 4611686018427387904 by omega)]
        have mdec : (((n.2.2.2.2.2.2.2.length : Int) - ((k + 1 : Nat) : Int)).toNat) < (((n.2.2.2.2.2.2.2.length : Int) - (k : Int)).toNat) := by omega
        have inn : goneB w dirs x.1 = false → stepN w dirs a x.1 = insS x.1 a := fun h => by unfold stepN; rw [h]; rfl
        have out : goneB w dirs x.1 = true → stepN w dirs a x.1 = a := fun h => by unfold stepN; rw [h]; rfl
        have hz : (decide ((Int.ofNat (List.length (scanS w x.1 dirs []).1)) > (0 : Int))) = !((Int.ofNat (List.length (scanS w x.1 dirs []).1)) == (0 : Int)) := by
          cases (scanS w x.1 dirs []).1 with
          | nil => rfl
          | cons b r => simp; omega
        rw [hz]
        refine ⟨fun q => ⟨fun q2 => ⟨⟨k + 1, _, rfl, g, ?_, ?_⟩, mdec⟩, fun q2 => ⟨⟨k + 1, _, rfl, g, by omega, ?_⟩, mdec⟩⟩, fun q => ⟨⟨k + 1, _, rfl, g, by omega, ?_⟩, mdec⟩⟩
        · have hg : goneB w dirs x.1 = false := by unfold goneB; simp only [Bool.not_eq_true'] at q q2; rw [q, q2]; rfl
          rw [← inn hg]; omega
        · have hg : goneB w dirs x.1 = false := by unfold goneB; simp only [Bool.not_eq_true'] at q q2; rw [q, q2]; rfl
          rw [← inn hg]; exact hR
        · have hg : goneB w dirs x.1 = true := by unfold goneB; simp only [Bool.not_eq_true', Bool.not_eq_false'] at q q2; rw [q, q2]; rfl
          rw [out hg] at hR; exact hR
        · have hg : goneB w dirs x.1 = true := by unfold goneB; simp only [Bool.not_eq_false'] at q; rw [q]; rfl
          rw [out hg] at hR; exact hR
      · have : k = n.2.2.2.2.2.2.2.length := by omega
        subst this
        rw [List.drop_length] at hR
        unfold F23L1
        simp only [ok_node, ok_leaf, allA_nil, true_and, Int.ofNat_eq_natCast, Int.lt_irrefl, decide_false, Bool.false_eq_true, false_implies, forall_const]
        have hR : a = _ := hR
        rw [← hR])
    (stM1 w dirs l i n 0) ⟨0, l, rfl, Nat.zero_le _, Nat.le_refl _, rfl⟩
  exact ⟨h1, by rw [h2, h3]⟩
theorem F23_ok {w : Wdt} (hw : GoodW w) {dirs : List Spt} (hd : ∀ d ∈ dirs, SpotOk w d) (hlen : dirs.length ≤ 900) :
    F23.pre (w, dirs, ()) ∧ F23.fn (w, dirs, ()) = ((namesS w dirs).foldl (stepN w dirs) [], ()) := by
  obtain ⟨h1, y, h2, h3⟩ := loopP (tr := F23L0)
    (fun x => ∃ (i : Nat) (l : List Str), x = stM0 w dirs l i ∧ i ≤ dirs.length ∧ l.length ≤ i * 1048576 ∧ (namesS w (dirs.drop i)).foldl (stepN w dirs) l = (namesS w dirs).foldl (stepN w dirs) [])
    (fun x => (x.1.length - x.2.2.2.1).toNat)
    (fun y => y = .inl ((namesS w dirs).foldl (stepN w dirs) [], ())) (by
      rintro _ ⟨i, l, rfl, hi, hl, hR⟩
      rcases Nat.lt_or_ge i dirs.length with g | g
      · have hs : SpotOk w dirs[i] := hd _ (List.getElem_mem g)
        have hx : @id Spt (xsAt Sp dirs i) = dirs[i] := xsAt_lt g
        rw [List.drop_eq_getElem_cons g] at hR
        generalize hdi : dirs[i] = d at hs hx hR
        have hdk := hw.each _ (dkOf_mem hs)
        have ed : (@id Dkt (xsAt Dk w.2.2.1 (Int.toNat d.1))) = dkOf w d := rfl
        have e1 : F12.pre (dkOf w d, d.2, ()) ∧ F12.fn (dkOf w d, d.2, ()) = (nodeZ w d, (nodeOf (dkOf w d) d.2).isSome, ()) := F12_ok hdk.sm d.2
        have hf : (nodeZ w d).2.2.2.2.2.2.2.length ≤ 1048576 := nodeZ_few hw hs
        have hlb : l.length ≤ 1048576000 := by have := Nat.mul_le_mul_right 1048576 (show i ≤ 1000 by omega); omega
        obtain ⟨q1, q2⟩ := F23L1_ok hw hd (by omega) (l := l) (i := i) (n := nodeZ w d) hf (nodeZ_good hw hs).2.2 hlb
        have q1 : loopInv F23L1 (dirs, (), l, (i : Int), (), (0 : Int), w.1, w.2.1, w.2.2.1, w.2.2.2.1, w.2.2.2.2.1, w.2.2.2.2.2.1, w.2.2.2.2.2.2, (nodeZ w d).1, (nodeZ w d).2.1, (nodeZ w d).2.2.1, (nodeZ w d).2.2.2.1, (nodeZ w d).2.2.2.2.1, (nodeZ w d).2.2.2.2.2.1, (nodeZ w d).2.2.2.2.2.2.1, (nodeZ w d).2.2.2.2.2.2.2, ()) := q1
        have q2 : loopOut F23L1 (dirs, (), l, (i : Int), (), (0 : Int), w.1, w.2.1, w.2.2.1, w.2.2.2.1, w.2.2.2.2.1, w.2.2.2.2.2.1, w.2.2.2.2.2.2, (nodeZ w d).1, (nodeZ w d).2.1, (nodeZ w d).2.2.1, (nodeZ w d).2.2.2.1, (nodeZ w d).2.2.2.2.1, (nodeZ w d).2.2.2.2.2.1, (nodeZ w d).2.2.2.2.2.2.1, (nodeZ w d).2.2.2.2.2.2.2, ()) = _ := q2
        have hi3 : (i : Int) < Int.ofNat dirs.length := by rw [Int.ofNat_eq_natCast]; omega
        have hb1 : (0 : Int) ≤ d.1 := hs.1
        have hb2 : d.1 < Int.ofNat (List.length w.2.2.1) := hs.2
        unfold F23L0
        simp only [Int.toNat_natCast, hx, ed, e1, q1, q2, getL, hi3, hb1, hb2, decide_true, ok_node, ok_leaf, allA_cons, allA_one, allA_nil, true_and, and_true, Int.natCast_nonneg, forall_const, Bool.true_eq_false, false_implies, wrp_succ (show i < 4611686018427387904 by omega)]
        refine ⟨⟨i + 1, _, rfl, g, ?_, ?_⟩, by simp; omega⟩
        · have := foldN_len w dirs ((nodeZ w d).2.2.2.2.2.2.2.map (·.1)) l
          rw [List.length_map] at this
          rw [Nat.add_mul]; omega
        · rw [← hR]
          show _ = ((ndNames (nodeZ w d)).map (·.1) ++ namesS w (dirs.drop (i + 1))).foldl (stepN w dirs) l
          rw [List.foldl_append]
      · have : i = dirs.length := by omega
        subst this
        rw [List.drop_length] at hR
        unfold F23L0
        simp only [ok_node, ok_leaf, allA_nil, true_and, Int.ofNat_eq_natCast, Int.lt_irrefl, decide_false, Bool.false_eq_true, false_implies, forall_const]
        have hR : l = _ := hR
        rw [← hR])
    (stM0 w dirs [] 0) ⟨0, [], rfl, Nat.zero_le _, Nat.zero_le _, rfl⟩
  subst h3
  have hok : (F23 (w, dirs, ())).Ok (· = ((namesS w dirs).foldl (stepN w dirs) [], ())) := by
    unfold F23
    have h1 : loopInv F23L0 (dirs, (), [], (0 : Int), w.1, w.2.1, w.2.2.1, w.2.2.2.1, w.2.2.2.2.1, w.2.2.2.2.2.1, w.2.2.2.2.2.2, ()) := h1
    have h2 : loopOut F23L0 (dirs, (), [], (0 : Int), w.1, w.2.1, w.2.2.1, w.2.2.2.1, w.2.2.2.2.1, w.2.2.2.2.2.1, w.2.2.2.2.2.2, ()) = _ := h2
    simp only [h1, h2, getL, ok_leaf, allA_one, true_and]
  exact hok

/-! ## rows compared with themselves -/
theorem F22_ok {xs : List Str} (hl : xs.length < 2305843009213693952) : F22.pre (xs, xs, ()) ∧ F22.fn (xs, xs, ()) = (true, ()) := by
  obtain ⟨h1, y, h2, h3⟩ := loopP (tr := F22L0) (fun x => ∃ i : Nat, x = (xs, xs, (i : Int), ()) ∧ i ≤ xs.length) (fun x => (x.1.length - x.2.2.1).toNat) (fun y => ∃ z, y = .inr (.inl z)) (by
    rintro _ ⟨i, rfl, hi⟩
    rcases Nat.lt_or_ge i xs.length with g | g
    · have hi3 : (i : Int) < Int.ofNat xs.length := by rw [Int.ofNat_eq_natCast]; omega
      unfold F22L0
      simp only [hi3, beq_self_eq_true, Bool.not_true, decide_true, ok_node, ok_leaf, allA_cons, allA_one, allA_nil, true_and, and_true, Int.natCast_nonneg, forall_const, Bool.true_eq_false, Bool.false_eq_true, false_implies, wrp_succ (show i < 4611686018427387904 by omega)]
      exact ⟨⟨i + 1, rfl, g⟩, by simp; omega⟩
    · have : i = xs.length := by omega
      subst this
      unfold F22L0
      simp)
    _ ⟨0, rfl, Nat.zero_le _⟩
  obtain ⟨z, rfl⟩ := h3
  have hok : (F22 (xs, xs, ())).Ok (· = (true, ())) := by
    unfold F22
    have h1 : loopInv F22L0 (xs, xs, (0 : Int), ()) := h1
    have h2 : loopOut F22L0 (xs, xs, (0 : Int), ()) = _ := h2
    simp only [h1, h2, isL, ok_node, ok_leaf, allA_cons, allA_one, allA_nil, true_and, bne_self_eq_false, Bool.false_eq_true, false_implies, forall_const]
  exact hok
theorem F7_ok {xs : List Spt} (hl : xs.length < 2305843009213693952) : F7.pre (xs, xs, ()) ∧ F7.fn (xs, xs, ()) = (true, ()) := by
  obtain ⟨h1, y, h2, h3⟩ := loopP (tr := F7L0) (fun x => ∃ i : Nat, x = (xs, xs, (i : Int), ()) ∧ i ≤ xs.length) (fun x => (x.1.length - x.2.2.1).toNat) (fun y => ∃ z, y = .inr (.inl z)) (by
    rintro _ ⟨i, rfl, hi⟩
    rcases Nat.lt_or_ge i xs.length with g | g
    · have hi3 : (i : Int) < Int.ofNat xs.length := by rw [Int.ofNat_eq_natCast]; omega
      have nb : notB true = false := rfl
      unfold F7L0
      simp only [hi3, beq_self_eq_true, Bool.and_self, nb, decide_true, ok_node, ok_leaf, allA_cons, allA_one, allA_nil, true_and, and_true, Int.natCast_nonneg, forall_const, Bool.true_eq_false, Bool.false_eq_true, false_implies, wrp_succ (show i < 4611686018427387904 by omega)]
      exact ⟨⟨i + 1, rfl, g⟩, by simp; omega⟩
    · have : i = xs.length := by omega
      subst this
      unfold F7L0
      simp)
    _ ⟨0, rfl, Nat.zero_le _⟩
  obtain ⟨z, rfl⟩ := h3
  have hok : (F7 (xs, xs, ())).Ok (· = (true, ())) := by
    unfold F7
    have h1 : loopInv F7L0 (xs, xs, (0 : Int), ()) := h1
    have h2 : loopOut F7L0 (xs, xs, (0 : Int), ()) = _ := h2
    simp only [h1, h2, isL, ok_node, ok_leaf, allA_cons, allA_one, allA_nil, true_and, bne_self_eq_false, Bool.false_eq_true, false_implies, forall_const]
  exact hok
end Go.Proofs.YtkccnomdfkhfnaaGreat
