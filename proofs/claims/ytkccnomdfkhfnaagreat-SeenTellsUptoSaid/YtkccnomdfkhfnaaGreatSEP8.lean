/- What a disk is that is such: it ends, and what it tells. -/
import Derived.Test.YtkccnomdfkhfnaaGreatSEP7
set_option linter.unusedVariables false
set_option linter.unusedSimpArgs false
set_option maxRecDepth 10000
namespace Go.Proofs.YtkccnomdfkhfnaaGreat
open Go.RowKit Go.Proofs.YtkccnomdfkhfnaaGreat.Ev

/-- rows that are short -/
structure BdD (d : Dkt) : Prop where
  sm : SmD d
  nodes : (dkNodes d).length ≤ 1048576
  few : ∀ n ∈ dkNodes d, (ndNames n).length ≤ 1048576
  short : ∀ n ∈ dkNodes d, ∀ x ∈ ndNames n, List.length x.1 ≤ 1048576
theorem F31_ok {d : Dkt} (hd : SmD d) : F31.pre (d, ()) ∧ ∃ v : Int, F31.fn (d, ()) = (v, Int.ofNat (dkNodes d).length, ()) := by
  have hsm : d.2.2.2.length < 2305843009213693952 := hd.nodes
  obtain ⟨h1, y, h2, h3⟩ := loopP (tr := F31L0) (fun x => ∃ (i : Nat) (v : Int), x = ((), v, (i : Int), d.1, d.2.1, d.2.2.1, d.2.2.2, ()) ∧ i ≤ d.2.2.2.length) (fun x => (x.2.2.2.2.2.2.1.length - x.2.2.1).toNat) (fun y => ∃ v : Int, y = .inl ((), v, d.1, d.2.1, d.2.2.1, d.2.2.2, ())) (by
    rintro _ ⟨i, v, rfl, hi⟩
    rcases Nat.lt_or_ge i d.2.2.2.length with g | g
    · have hi3 : (i : Int) < Int.ofNat d.2.2.2.length := by rw [Int.ofNat_eq_natCast]; omega
      unfold F31L0
      simp only [hi3, decide_true, ok_node, ok_leaf, allA_cons, allA_one, allA_nil, true_and, and_true, Int.natCast_nonneg, forall_const, Bool.true_eq_false, false_implies, wrp_succ (show i < 4611686018427387904 by omega)]
      exact ⟨⟨i + 1, _, rfl, g⟩, by simp; omega⟩
    · have : i = d.2.2.2.length := by omega
      subst this
      unfold F31L0
      simp only [ok_node, ok_leaf, allA_nil, true_and, Int.ofNat_eq_natCast, Int.lt_irrefl, decide_false, Bool.false_eq_true, false_implies, forall_const]
      exact ⟨v, rfl⟩)
    _ ⟨0, 0, rfl, Nat.zero_le _⟩
  obtain ⟨v, rfl⟩ := h3
  have hok : (F31 (d, ())).Ok (· = (v, Int.ofNat (dkNodes d).length, ())) := by
    unfold F31
    have h1 : loopInv F31L0 ((), (0 : Int), (0 : Int), d.1, d.2.1, d.2.2.1, d.2.2.2, ()) := h1
    have h2 : loopOut F31L0 ((), (0 : Int), (0 : Int), d.1, d.2.1, d.2.2.1, d.2.2.2, ()) = _ := h2
    simp only [h1, h2, getL, ok_leaf, allA_one, true_and]
  exact ⟨hok.1, v, hok.2⟩
theorem F69L1_ok {sz at_ i : Int} {bl : List Bkt} {data : List Int} (hdat : data.length = 16) :
    loopInv F69L1 ((), i, (), (0 : Int), sz, bl, at_, data, ()) ∧ ∃ y, loopOut F69L1 ((), i, (), (0 : Int), sz, bl, at_, data, ()) = some y ∧ ((∃ b, y = .inl (b, ())) ∨ y = .inr (.inl ((), i, sz, bl, ()))) := by
  exact loopP (tr := F69L1) (fun x => ∃ k : Nat, x = ((), i, (), (k : Int), sz, bl, at_, data, ()) ∧ k ≤ 16) (fun x => (16 - x.2.2.2.1).toNat) (fun y => (∃ b, y = .inl (b, ())) ∨ y = .inr (.inl ((), i, sz, bl, ()))) (by
    rintro _ ⟨k, rfl, hk⟩
    rcases Nat.lt_or_ge k 16 with g | g
    · have hi2 : (k : Int) < (16 : Int) := by omega
      have hi3 : (k : Int) < Int.ofNat data.length := by rw [hdat]; exact hi2
      unfold F69L1
      simp only [hi2, hi3, decide_true, ok_node, ok_leaf, allA_cons, allA_one, allA_nil, true_and, and_true, Int.natCast_nonneg, forall_const, Bool.true_eq_false, false_implies, wrp_succ (show k < 4611686018427387904 by omega)]
      have mdec : (16 - ((k + 1 : Nat) : Int)).toNat < (16 - (k : Int)).toNat := by omega
      exact ⟨fun _ => ⟨fun _ => .inl ⟨_, rfl⟩, fun _ => ⟨⟨k + 1, rfl, g⟩, mdec⟩⟩, fun _ => ⟨⟨k + 1, rfl, g⟩, mdec⟩⟩
    · have : k = 16 := by omega
      subst this
      unfold F69L1
      simp only [ok_node, ok_leaf, allA_nil, true_and, decide_eq_true_eq, decide_eq_false_iff_not]
      exact ⟨fun h => absurd h (by decide), fun _ => by simp⟩)
    _ ⟨0, rfl, Nat.zero_le _⟩
theorem F69_ok {sz : Int} {bl : List Bkt} (hl : bl.length < 2305843009213693952) : F69.pre ((sz, bl), ()) ∧ ∃ b, F69.fn ((sz, bl), ()) = (b, ()) := by
  obtain ⟨h1, y, h2, h3⟩ := loopP (tr := F69L0) (fun x => ∃ i : Nat, x = ((), (i : Int), sz, bl, ()) ∧ i ≤ bl.length) (fun x => (x.2.2.2.1.length - x.2.1).toNat) (fun y => True) (by
    rintro _ ⟨i, rfl, hi⟩
    rcases Nat.lt_or_ge i bl.length with g | g
    · have hi3 : (i : Int) < Int.ofNat bl.length := by rw [Int.ofNat_eq_natCast]; omega
      have hx : @id Bkt (xsAt Bk bl i) = bl[i] := xsAt_lt g
      have mdec : ((bl.length : Int) - ((i + 1 : Nat) : Int)).toNat < ((bl.length : Int) - (i : Int)).toNat := by omega
      unfold F69L0
      simp only [Int.toNat_natCast, hx, hi3, decide_true, ok_node, ok_leaf, allA_cons, allA_one, allA_nil, true_and, and_true, Int.natCast_nonneg, forall_const, Bool.true_eq_false, false_implies, implies_true]
      intro _ _ _ hlen
      have hlen : bl[i].2.length = 16 := by simp at hlen; omega
      obtain ⟨p, z, e, hz⟩ := F69L1_ok (sz := sz) (at_ := bl[i].1) (i := (i : Int)) (bl := bl) hlen
      simp only [p, e, true_and, decide_eq_true_eq, decide_eq_false_iff_not]
      have hwr : (0 : Int) < (i : Int) → 0 ≤ wrp .i64 ((i : Int) - 1) ∧ wrp .i64 ((i : Int) - 1) < Int.ofNat bl.length := fun h => by
        rw [wrp_id (by omega) (by omega), Int.ofNat_eq_natCast]
        omega
      rcases hz with ⟨b, rfl⟩ | rfl
      · simp only [isL, Bool.true_eq_false, false_implies, implies_true, and_true]
        exact hwr
      · simp only [isL, getL, restR, Bool.false_eq_true, false_implies, forall_const, true_and, wrp_succ (show i < 4611686018427387904 by omega)]
        exact ⟨fun h => ⟨hwr h, fun _ => ⟨⟨i + 1, rfl, g⟩, mdec⟩⟩, fun _ => ⟨⟨i + 1, rfl, g⟩, mdec⟩⟩
    · have : i = bl.length := by omega
      subst this
      unfold F69L0
      simp only [ok_node, ok_leaf, allA_nil, true_and, Int.ofNat_eq_natCast, Int.lt_irrefl, decide_false, Bool.false_eq_true, false_implies, forall_const])
    _ ⟨0, rfl, Nat.zero_le _⟩
  have hok : (F69 ((sz, bl), ())).Ok (fun r => ∃ b, r = (b, ())) := by
    unfold F69
    have h1 : loopInv F69L0 ((), (0 : Int), sz, bl, ()) := h1
    simp only [h1, ok_node, ok_leaf, allA_cons, allA_one, allA_nil, true_and]
    exact ⟨fun _ => ⟨_, rfl⟩, fun _ => ⟨fun _ => ⟨_, rfl⟩, fun _ => ⟨fun _ => ⟨_, rfl⟩, fun _ => ⟨_, rfl⟩⟩⟩⟩
  exact hok
theorem F70_ok {s : Str} (hl : s.length ≤ 1048576) : F70.pre (s, ()) ∧ ∃ b, F70.fn (s, ()) = (b, ()) := by
  obtain ⟨h1, y, h2, h3⟩ := loopP (tr := F70L0) (fun x => ∃ i : Nat, x = (s, (i : Int), ()) ∧ i ≤ s.length) (fun x => (x.1.length - x.2.1).toNat) (fun y => True) (by
    rintro _ ⟨i, rfl, hi⟩
    rcases Nat.lt_or_ge i s.length with g | g
    · have hi3 : (i : Int) < Int.ofNat s.length := by rw [Int.ofNat_eq_natCast]; omega
      unfold F70L0
      simp only [hi3, decide_true, ok_node, ok_leaf, allA_cons, allA_one, allA_nil, true_and, and_true, Int.natCast_nonneg, forall_const, Bool.true_eq_false, false_implies, implies_true, wrp_succ (show i < 4611686018427387904 by omega)]
      exact fun _ _ => ⟨⟨i + 1, rfl, g⟩, by simp; omega⟩
    · have : i = s.length := by omega
      subst this
      unfold F70L0
      simp only [ok_node, ok_leaf, allA_nil, true_and, Int.ofNat_eq_natCast, Int.lt_irrefl, decide_false, Bool.false_eq_true, false_implies, forall_const])
    _ ⟨0, rfl, Nat.zero_le _⟩
  have hok : (F70 (s, ())).Ok (fun r => ∃ b, r = (b, ())) := by
    unfold F70
    have h1 : loopInv F70L0 (s, (0 : Int), ()) := h1
    simp only [h1, ok_node, ok_leaf, allA_cons, allA_one, allA_nil, true_and]
    exact ⟨fun _ => ⟨_, rfl⟩, fun _ => ⟨fun _ => ⟨fun _ => ⟨fun _ => ⟨_, rfl⟩, fun _ => ⟨_, rfl⟩⟩, fun _ => ⟨_, rfl⟩⟩, fun _ => ⟨_, rfl⟩⟩⟩
  exact hok
abbrev st41 (d : Dkt) (n : Ndt) (i : Nat) : Unit × Unit × Int × Int × Int × Int × List Ndt × Int × Int × Int × Int × Int × List Bkt × List UInt8 × List Nmt × Unit :=
  ((), (), (i : Int), d.1, d.2.1, d.2.2.1, d.2.2.2, n.1, n.2.1, n.2.2.1, n.2.2.2.1, n.2.2.2.2.1, n.2.2.2.2.2.1, n.2.2.2.2.2.2.1, n.2.2.2.2.2.2.2, ())
theorem F41_ok {d : Dkt} (hd : SmD d) {n : Ndt} (hf : (ndNames n).length ≤ 1048576) (hb : (ndBlocks n).length < 2305843009213693952) (hs : ∀ x ∈ ndNames n, List.length x.1 ≤ 1048576) : F41.pre (d, n, ()) ∧ ∃ b, F41.fn (d, n, ()) = (b, ()) ∧ (b = true → SortS (ndNames n)) := by
  have hf' : n.2.2.2.2.2.2.2.length ≤ 1048576 := hf
  obtain ⟨h1, y, h2, h3⟩ := loopP (tr := F41L0)
    (fun x => ∃ i : Nat, x = st41 d n i ∧ i ≤ n.2.2.2.2.2.2.2.length ∧ ∀ a b (ha : a < (ndNames n).length) (hb : b < (ndNames n).length), a < b → b < i → Op.bytesLess (ndNames n)[a].1 (ndNames n)[b].1 = true)
    (fun x => (x.2.2.2.2.2.2.2.2.2.2.2.2.2.2.1.length - x.2.2.1).toNat)
    (fun y => y = .inl (false, ()) ∨ (∃ z, y = .inr (.inl z)) ∧ SortS (ndNames n)) (by
      rintro _ ⟨i, rfl, hi, hR⟩
      rcases Nat.lt_or_ge i n.2.2.2.2.2.2.2.length with g | g
      · have hi3 : (i : Int) < Int.ofNat n.2.2.2.2.2.2.2.length := by rw [Int.ofNat_eq_natCast]; omega
        have hx : @id Nmt (xsAt Nm n.2.2.2.2.2.2.2 i) = n.2.2.2.2.2.2.2[i] := xsAt_lt g
        have mdec : ((n.2.2.2.2.2.2.2.length : Int) - ((i + 1 : Nat) : Int)).toNat < ((n.2.2.2.2.2.2.2.length : Int) - (i : Int)).toNat := by omega
        have e1 : ∀ u, F12.pre (d, u, ()) ∧ F12.fn (d, u, ()) = ((nodeOf d u).getD ndZ, (nodeOf d u).isSome, ()) := fun u => F12_ok hd u
        obtain ⟨p2, b2, e2⟩ := F70_ok (s := n.2.2.2.2.2.2.2[i].1) (hs _ (List.getElem_mem g))
        unfold F41L0
        simp only [Int.toNat_natCast, hx, e1, e2, p2, hi3, decide_true, ok_node, ok_leaf, allA_cons, allA_one, allA_nil, true_and, and_true, Int.natCast_nonneg, forall_const, Bool.true_eq_false, false_implies, wrp_succ (show i < 4611686018427387904 by omega), decide_eq_true_eq, decide_eq_false_iff_not]
        refine ⟨fun _ => by simp, fun _ => ⟨fun _ => by simp, fun _ => ⟨fun hpos => ?_, fun hz => ⟨⟨i + 1, rfl, g, ?_⟩, mdec⟩⟩⟩⟩
        · have hw : wrp .i64 ((i : Int) - 1) = ((i - 1 : Nat) : Int) := by rw [wrp_id (by omega) (by omega)]; omega
          have g1 : i - 1 < n.2.2.2.2.2.2.2.length := by omega
          have hx1 : @id Nmt (xsAt Nm n.2.2.2.2.2.2.2 (i - 1)) = n.2.2.2.2.2.2.2[i - 1] := xsAt_lt g1
          have hi4 : ((i - 1 : Nat) : Int) < Int.ofNat n.2.2.2.2.2.2.2.length := by rw [Int.ofNat_eq_natCast]; omega
          rw [hw, Int.toNat_natCast, hx1]
          refine ⟨⟨by omega, hi4⟩, fun _ => by simp, fun q => ⟨⟨i + 1, rfl, g, fun a b ha hb hab hbi => ?_⟩, mdec⟩⟩
          rw [Bool.or_eq_false_iff] at q
          have hlt : Op.bytesLess n.2.2.2.2.2.2.2[i - 1].1 n.2.2.2.2.2.2.2[i].1 = true := by
            cases z : Op.bytesLess n.2.2.2.2.2.2.2[i - 1].1 n.2.2.2.2.2.2.2[i].1 with
            | true => rfl
            | false => have := bl_anti _ _ z q.1; have h2 := q.2; rw [this] at h2; simp at h2
          rcases Nat.lt_or_ge b i with z | z
          · exact hR a b ha hb hab z
          · have : b = i := by omega
            subst this
            rcases Nat.lt_or_ge a (b - 1) with z2 | z2
            · exact bl_trans _ _ _ (hR a (b - 1) ha g1 z2 (by omega)) hlt
            · have : a = b - 1 := by omega
              subst this; exact hlt
        · intro a b ha hb hab hbi
          have : i = 0 := by omega
          omega
      · have : i = n.2.2.2.2.2.2.2.length := by omega
        subst this
        unfold F41L0
        simp only [ok_node, ok_leaf, allA_nil, true_and, Int.ofNat_eq_natCast, Int.lt_irrefl, decide_false, Bool.false_eq_true, false_implies, forall_const]
        have hS : SortS (ndNames n) := fun a b ha hb hab => hR a b ha hb hab hb
        first | exact .inr ⟨⟨_, rfl⟩, hS⟩ | exact .inr ⟨⟨(), trivial⟩, hS⟩ | exact .inr ⟨trivial, hS⟩)
    _ ⟨0, rfl, Nat.zero_le _, fun a b _ _ _ h => absurd h (Nat.not_lt_zero _)⟩
  obtain ⟨p3, b3, e3⟩ := F69_ok (sz := n.2.2.2.2.1) (bl := n.2.2.2.2.2.1) hb
  have hok : (F41 (d, n, ())).Ok (fun r => ∃ b, r = (b, ()) ∧ (b = true → SortS (ndNames n))) := by
    unfold F41
    have h1 : loopInv F41L0 ((), (), (0 : Int), d.1, d.2.1, d.2.2.1, d.2.2.2, n.1, n.2.1, n.2.2.1, n.2.2.2.1, n.2.2.2.2.1, n.2.2.2.2.2.1, n.2.2.2.2.2.2.1, n.2.2.2.2.2.2.2, ()) := h1
    have h2 : loopOut F41L0 ((), (), (0 : Int), d.1, d.2.1, d.2.2.1, d.2.2.2, n.1, n.2.1, n.2.2.1, n.2.2.2.1, n.2.2.2.2.1, n.2.2.2.2.2.1, n.2.2.2.2.2.2.1, n.2.2.2.2.2.2.2, ()) = some y := h2
    have no : ∃ b, ((false, ()) : Bool × Unit) = (b, ()) ∧ (b = true → SortS (ndNames n)) := ⟨false, rfl, fun h => nomatch h⟩
    have yes : isL (some y) = false → ∃ b, ((true, ()) : Bool × Unit) = (b, ()) ∧ (b = true → SortS (ndNames n)) := fun h => by
      rcases h3 with rfl | ⟨_, h3⟩
      · simp [isL] at h
      · exact ⟨true, rfl, fun _ => h3⟩
    have mid : isL (some y) = true → ∃ b, ((getL (Shape.z F41L0S0) (some y)).1, ()) = (b, ()) ∧ (b = true → SortS (ndNames n)) := fun h => by
      rcases h3 with rfl | ⟨⟨z, rfl⟩, h3⟩
      · exact no
      · simp [isL] at h
    simp only [h1, h2, e3, p3, ok_node, ok_leaf, allA_cons, allA_one, allA_nil, true_and]
    simp only [no, implies_true, true_and]
    repeat' (first | exact yes | exact mid | exact fun _ => no | refine ⟨?_, ?_⟩ | intro _)
  exact hok
end Go.Proofs.YtkccnomdfkhfnaaGreat
