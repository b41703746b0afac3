/- The law SeenTells over data: whatever is handed in, as long as it is short, it answers true. -/
import Derived.Test.YtkccnomdfkhfnaaGreatSEP9
set_option linter.unusedVariables false
set_option linter.unusedSimpArgs false
set_option maxRecDepth 10000
namespace Go.Proofs.YtkccnomdfkhfnaaGreat
open Go.RowKit Go.Proofs.YtkccnomdfkhfnaaGreat.Ev

abbrev st21 (d : Dkt) (i : Nat) : Unit × Int × Int × Int × Int × Int × List Ndt × Unit := ((), (d.2.2.2.length : Int), (i : Int), d.1, d.2.1, d.2.2.1, d.2.2.2, ())
theorem F21_ok {d : Dkt} (hd : BdD d) : F21.pre (d, ()) ∧ ∃ b, F21.fn (d, ()) = (b, ()) ∧ (b = true → GoodD d) := by
  have hn : d.2.2.2.length ≤ 1048576 := hd.nodes
  obtain ⟨h1, y, h2, h3⟩ := loopP (tr := F21L0)
    (fun x => ∃ i : Nat, x = st21 d i ∧ i ≤ d.2.2.2.length ∧ (∀ a b (ha : a < (dkNodes d).length) (hb : b < (dkNodes d).length), a < b → b < i → (dkNodes d)[a].1 < (dkNodes d)[b].1) ∧ ∀ a (ha : a < (dkNodes d).length), a < i → SortS (ndNames (dkNodes d)[a]))
    (fun x => (x.2.1 - x.2.2.1).toNat)
    (fun y => y = .inl (false, ()) ∨ (y = .inr (.inl ((), (d.2.2.2.length : Int), d.1, d.2.1, d.2.2.1, d.2.2.2, ())) ∧ GoodD d)) (by
      rintro _ ⟨i, rfl, hi, hR, hS⟩
      rcases Nat.lt_or_ge i d.2.2.2.length with g | g
      · have hi3 : (i : Int) < Int.ofNat d.2.2.2.length := by rw [Int.ofNat_eq_natCast]; omega
        have hi2 : (i : Int) < (d.2.2.2.length : Int) := hi3
        have hx : @id Ndt (xsAt Nd d.2.2.2 i) = d.2.2.2[i] := xsAt_lt g
        have hmem : d.2.2.2[i] ∈ dkNodes d := List.getElem_mem g
        obtain ⟨p1, b1, e1, k1⟩ := F41_ok hd.sm (n := d.2.2.2[i]) (hd.few _ hmem) (hd.sm.each _ hmem).blocks (hd.short _ hmem)
        obtain ⟨p2, v2, e2⟩ := F42_ok hd d.2.2.2[i].1
        have mdec : ((d.2.2.2.length : Int) - ((i + 1 : Nat) : Int)).toNat < ((d.2.2.2.length : Int) - (i : Int)).toNat := by omega
        have next : (∀ (h : 0 < i), d.2.2.2[i - 1].1 < d.2.2.2[i].1) → b1 = true → (∃ j : Nat, st21 d (i + 1) = st21 d j ∧ j ≤ d.2.2.2.length ∧ (∀ a b (ha : a < (dkNodes d).length) (hb : b < (dkNodes d).length), a < b → b < j → (dkNodes d)[a].1 < (dkNodes d)[b].1) ∧ ∀ a (ha : a < (dkNodes d).length), a < j → SortS (ndNames (dkNodes d)[a])) ∧ ((d.2.2.2.length : Int) - ((i + 1 : Nat) : Int)).toNat < ((d.2.2.2.length : Int) - (i : Int)).toNat := fun hprev hb1 => by
          refine ⟨⟨i + 1, rfl, g, fun a b ha hb hab hbi => ?_, fun a ha hai => ?_⟩, mdec⟩
          · rcases Nat.lt_or_ge b i with z | z
            · exact hR a b ha hb hab z
            · have : b = i := by omega
              subst this
              have hp := hprev (by omega)
              rcases Nat.lt_or_ge a (b - 1) with z2 | z2
              · exact Int.lt_trans (hR a (b - 1) ha (by omega) z2 (by omega)) hp
              · have : a = b - 1 := by omega
                subst this; exact hp
          · rcases Nat.lt_or_ge a i with z | z
            · exact hS a ha z
            · have : a = i := by omega
              subst this; exact k1 hb1
        unfold F21L0
        simp only [Int.toNat_natCast, hx, hi2, hi3, p1, e1, p2, e2, decide_true, ok_node, ok_leaf, allA_cons, allA_one, allA_nil, true_and, and_true, Int.natCast_nonneg, forall_const, Bool.true_eq_false, false_implies, implies_true, true_or, wrp_succ (show i < 4611686018427387904 by omega), decide_eq_true_eq, decide_eq_false_iff_not, Bool.not_eq_true', Bool.not_eq_false']
        refine fun _ => ⟨fun hpos => ?_, fun hpos => ?_⟩
        · have hw : wrp .i64 ((i : Int) - 1) = ((i - 1 : Nat) : Int) := by rw [wrp_id (by omega) (by omega)]; omega
          have g1 : i - 1 < d.2.2.2.length := by omega
          have hx1 : @id Ndt (xsAt Nd d.2.2.2 (i - 1)) = d.2.2.2[i - 1] := xsAt_lt g1
          have hi4 : ((i - 1 : Nat) : Int) < Int.ofNat d.2.2.2.length := by rw [Int.ofNat_eq_natCast]; omega
          rw [hw, Int.toNat_natCast, hx1]
          refine ⟨⟨by omega, hi4⟩, fun hlt hb1 => ?_⟩
          have nx := next (fun _ => by omega) hb1
          exact ⟨fun _ _ => ⟨fun _ _ => nx, fun _ => nx⟩, fun _ _ => ⟨fun _ _ => nx, fun _ => nx⟩⟩
        · intro hb1
          have nx := next (fun h => by omega) hb1
          exact ⟨fun _ _ => ⟨fun _ _ => nx, fun _ => nx⟩, fun _ _ => ⟨fun _ _ => nx, fun _ => nx⟩⟩
      · have : i = d.2.2.2.length := by omega
        subst this
        have hgood : GoodD d := ⟨⟨hd.sm, fun a b ha hb hab => hR a b ha hb hab hb, fun n hn => by obtain ⟨a, ha, rfl⟩ := List.getElem_of_mem hn; exact hS a ha ha⟩, hd.few, hd.short⟩
        unfold F21L0
        simp only [ok_node, ok_leaf, allA_nil, true_and, Int.lt_irrefl, decide_false, Bool.false_eq_true, false_implies, forall_const]
        first | exact .inr ⟨rfl, hgood⟩ | exact .inr hgood | simp [hgood])
    (st21 d 0) ⟨0, rfl, Nat.zero_le _, fun a b _ _ _ h => absurd h (Nat.not_lt_zero _), fun a _ h => absurd h (Nat.not_lt_zero _)⟩
  obtain ⟨p0, v0, e0⟩ := F31_ok hd.sm
  have p43 := F43_pre hd
  have hok : (F21 (d, ())).Ok (fun r => ∃ b, r = (b, ()) ∧ (b = true → GoodD d)) := by
    have no : ∃ b, ((false, ()) : Bool × Unit) = (b, ()) ∧ (b = true → GoodD d) := ⟨false, rfl, fun h => nomatch h⟩
    unfold F21
    have h1 : loopInv F21L0 ((), Int.ofNat (dkNodes d).length, (0 : Int), d.1, d.2.1, d.2.2.1, d.2.2.2, ()) := h1
    have h2 : loopOut F21L0 ((), Int.ofNat (dkNodes d).length, (0 : Int), d.1, d.2.1, d.2.2.1, d.2.2.2, ()) = some y := h2
    simp only [p0, e0, h1, h2, no, ok_node, ok_leaf, allA_cons, allA_one, allA_nil, true_and, implies_true]
    intro _ _ _ _ _ _ _ _ hne
    have hpos : (0 : Int) < Int.ofNat (List.length d.2.2.2) := by
      have hne : ¬ (Int.ofNat (List.length d.2.2.2) = 0) := by simpa using hne
      rw [Int.ofNat_eq_natCast] at hne ⊢
      omega
    simp only [hpos, Int.le_refl, true_and, and_true]
    intro _ _
    rcases h3 with rfl | ⟨rfl, hg⟩
    · refine ⟨fun _ => no, fun h => by simp [isL] at h⟩
    · refine ⟨fun h => by simp [isL] at h, fun _ => ⟨p43, fun _ => ⟨_, rfl, fun _ => hg⟩⟩⟩
  exact hok
theorem F20_ok {c : Cft} (hl : c.1.length < 2305843009213693952) : F20.pre (c, ()) ∧ ∃ b, F20.fn (c, ()) = (b, ()) := by
  obtain ⟨h1, y, h2, h3⟩ := loopP (tr := F20L0) (fun x => ∃ i : Nat, x = ((), (i : Int), c.1, c.2, ()) ∧ i ≤ c.1.length) (fun x => (x.2.2.1.length - x.2.1).toNat) (fun y => (∃ b, y = .inl (b, ())) ∨ y = .inr (.inl ((), c.1, c.2, ()))) (by
    rintro _ ⟨i, rfl, hi⟩
    rcases Nat.lt_or_ge i c.1.length with g | g
    · have hi3 : (i : Int) < Int.ofNat c.1.length := by rw [Int.ofNat_eq_natCast]; omega
      unfold F20L0
      simp only [hi3, decide_true, ok_node, ok_leaf, allA_cons, allA_one, allA_nil, true_and, and_true, Int.natCast_nonneg, forall_const, Bool.true_eq_false, false_implies, wrp_succ (show i < 4611686018427387904 by omega)]
      exact ⟨fun _ => .inl ⟨_, rfl⟩, fun _ => ⟨fun _ => .inl ⟨_, rfl⟩, fun _ => ⟨⟨i + 1, rfl, g⟩, by simp; omega⟩⟩⟩
    · have : i = c.1.length := by omega
      subst this
      unfold F20L0
      simp only [ok_node, ok_leaf, allA_nil, true_and, Int.ofNat_eq_natCast, Int.lt_irrefl, decide_false, Bool.false_eq_true, false_implies, forall_const]
      first | exact .inr rfl | simp)
    _ ⟨0, rfl, Nat.zero_le _⟩
  have hok : (F20 (c, ())).Ok (fun r => ∃ b, r = (b, ())) := by
    unfold F20
    have h1 : loopInv F20L0 ((), (0 : Int), c.1, c.2, ()) := h1
    have h2 : loopOut F20L0 ((), (0 : Int), c.1, c.2, ()) = some y := h2
    simp only [h1, h2, ok_node, ok_leaf, allA_cons, allA_one, allA_nil, true_and, decide_eq_true_eq, decide_eq_false_iff_not]
    refine ⟨fun _ => ⟨_, rfl⟩, fun hL => ?_⟩
    rcases h3 with ⟨b, rfl⟩ | rfl
    · simp [isL] at hL
    · simp only [getL, restR]
      exact ⟨fun h => ⟨fun _ => ⟨⟨by omega, by rw [Int.ofNat_eq_natCast] at h ⊢; omega⟩, fun _ => ⟨fun _ => ⟨_, rfl⟩, fun _ => ⟨_, rfl⟩⟩, fun _ => ⟨_, rfl⟩⟩, fun _ => ⟨_, rfl⟩⟩, fun _ => ⟨_, rfl⟩⟩
  exact hok
theorem F19_ok {l : List Dkt} (hl : l.length < 2305843009213693952) (hd : ∀ d ∈ l, BdD d) : F19.pre (l, ()) ∧ ∃ b, F19.fn (l, ()) = (b, ()) ∧ (b = false → l.length ≤ 8) := by
  have inner : ∀ (i : Nat) (hi : i < l.length) (v : Int), loopInv F19L1 (l, v, (i : Int), (0 : Int), ()) ∧ ∃ y, loopOut F19L1 (l, v, (i : Int), (0 : Int), ()) = some y ∧ ∃ v', y = .inl (l, v', (i : Int), ()) := by
    intro i hi v
    have hx : @id Dkt (xsAt Dk l i) = l[i] := xsAt_lt hi
    have hi3 : (i : Int) < Int.ofNat l.length := by rw [Int.ofNat_eq_natCast]; omega
    have hn : l[i].2.2.2.length ≤ 1048576 := (hd _ (List.getElem_mem hi)).nodes
    refine loopP (tr := F19L1) (fun x => ∃ (k : Nat) (v : Int), x = (l, v, (i : Int), (k : Int), ()) ∧ k ≤ l[i].2.2.2.length) (fun x => (l[i].2.2.2.length - x.2.2.2.1).toNat) (fun y => ∃ v', y = .inl (l, v', (i : Int), ())) ?_ _ ⟨0, v, rfl, Nat.zero_le _⟩
    rintro _ ⟨k, v, rfl, hk⟩
    unfold F19L1
    simp only [Int.toNat_natCast, hx, hi3, ok_node, ok_leaf, allA_cons, allA_one, allA_nil, true_and, and_true, Int.natCast_nonneg, decide_eq_true_eq, decide_eq_false_iff_not]
    refine ⟨fun h => ⟨fun _ => ?_, fun _ => ⟨_, rfl⟩⟩, fun _ => ⟨_, rfl⟩⟩
    have hk2 : k < l[i].2.2.2.length := by rw [Int.ofNat_eq_natCast] at h; omega
    rw [wrp_succ (show k < 4611686018427387904 by omega)]
    exact ⟨⟨h, h⟩, ⟨k + 1, _, rfl, hk2⟩, by omega⟩
  obtain ⟨h1, y, h2, h3⟩ := loopP (tr := F19L0) (fun x => ∃ (i : Nat) (v : Int), x = (l, v, (i : Int), ()) ∧ i ≤ l.length) (fun x => (x.1.length - x.2.2.1).toNat) (fun y => ∃ v, y = .inl (l, v, ())) (by
    rintro _ ⟨i, v, rfl, hi⟩
    rcases Nat.lt_or_ge i l.length with g | g
    · have hi3 : (i : Int) < Int.ofNat l.length := by rw [Int.ofNat_eq_natCast]; omega
      obtain ⟨p, y, e, v', rfl⟩ := inner i g v
      unfold F19L0
      simp only [hi3, p, e, getL, decide_true, ok_node, ok_leaf, allA_cons, allA_one, allA_nil, true_and, and_true, Int.natCast_nonneg, forall_const, Bool.true_eq_false, false_implies, wrp_succ (show i < 4611686018427387904 by omega)]
      exact ⟨fun _ => ⟨⟨i + 1, _, rfl, g⟩, by simp; omega⟩, fun _ => ⟨_, rfl⟩⟩
    · have : i = l.length := by omega
      subst this
      unfold F19L0
      simp only [ok_node, ok_leaf, allA_nil, true_and, Int.ofNat_eq_natCast, Int.lt_irrefl, decide_false, Bool.false_eq_true, false_implies, forall_const]
      exact ⟨_, rfl⟩)
    _ ⟨0, 0, rfl, Nat.zero_le _⟩
  obtain ⟨v, rfl⟩ := h3
  have hok : (F19 (l, ())).Ok (fun r => ∃ b, r = (b, ()) ∧ (b = false → l.length ≤ 8)) := by
    unfold F19
    have h1 : loopInv F19L0 (l, (0 : Int), (0 : Int), ()) := h1
    have h2 : loopOut F19L0 (l, (0 : Int), (0 : Int), ()) = _ := h2
    simp only [h1, h2, getL, ok_node, ok_leaf, allA_cons, allA_one, allA_nil, true_and, decide_eq_true_eq, decide_eq_false_iff_not]
    refine ⟨fun _ => ⟨true, rfl, fun h => nomatch h⟩, fun h => ⟨_, rfl, fun _ => ?_⟩⟩
    rw [Int.ofNat_eq_natCast] at h
    omega
  exact hok
structure BdW (w : Wdt) : Prop where
  ways : (wWays w).length < 2305843009213693952
  disks : (wDisks w).length < 2305843009213693952
  each : ∀ d ∈ wDisks w, BdD d
abbrev st5 (w : Wdt) (i : Nat) : Unit × Int × List (Int) × Int × List Dkt × Int × List Rwt × List Rwt × Int × Unit := ((), (i : Int), w.1, w.2.1, w.2.2.1, w.2.2.2.1, w.2.2.2.2.1, w.2.2.2.2.2.1, w.2.2.2.2.2.2, ())
theorem F5_ok {w : Wdt} (hw : BdW w) : F5.pre (w, ()) ∧ ∃ b, F5.fn (w, ()) = (b, ()) ∧ (b = true → GoodW w) := by
  have hn : w.2.2.1.length < 2305843009213693952 := hw.disks
  obtain ⟨h1, y, h2, h3⟩ := loopP (tr := F5L0)
    (fun x => ∃ i : Nat, x = st5 w i ∧ i ≤ w.2.2.1.length ∧ ∀ a (ha : a < (wDisks w).length), a < i → GoodD (wDisks w)[a])
    (fun x => (x.2.2.2.2.1.length - x.2.1).toNat)
    (fun y => y = .inl (false, ()) ∨ (∃ z, y = .inr (.inl z)) ∧ ∀ d ∈ wDisks w, GoodD d) (by
      rintro _ ⟨i, rfl, hi, hR⟩
      rcases Nat.lt_or_ge i w.2.2.1.length with g | g
      · have hi3 : (i : Int) < Int.ofNat w.2.2.1.length := by rw [Int.ofNat_eq_natCast]; omega
        have hx : @id Dkt (xsAt Dk w.2.2.1 i) = w.2.2.1[i] := xsAt_lt g
        obtain ⟨p1, b1, e1, k1⟩ := F21_ok (hw.each _ (List.getElem_mem g))
        unfold F5L0
        simp only [Int.toNat_natCast, hx, hi3, p1, e1, decide_true, ok_node, ok_leaf, allA_cons, allA_one, allA_nil, true_and, and_true, Int.natCast_nonneg, forall_const, Bool.true_eq_false, false_implies, implies_true, true_or, wrp_succ (show i < 4611686018427387904 by omega), Bool.not_eq_false']
        refine fun hb => ⟨⟨i + 1, rfl, g, fun a ha hai => ?_⟩, by simp; omega⟩
        rcases Nat.lt_or_ge a i with z | z
        · exact hR a ha z
        · have : a = i := by omega
          subst this; exact k1 hb
      · have : i = w.2.2.1.length := by omega
        subst this
        have hall : ∀ d ∈ wDisks w, GoodD d := fun d hd => by obtain ⟨a, ha, rfl⟩ := List.getElem_of_mem hd; exact hR a ha ha
        unfold F5L0
        simp only [ok_node, ok_leaf, allA_nil, true_and, Int.ofNat_eq_natCast, Int.lt_irrefl, decide_false, Bool.false_eq_true, false_implies, forall_const]
        first | exact .inr ⟨⟨_, rfl⟩, hall⟩ | exact .inr ⟨⟨(), trivial⟩, hall⟩ | exact .inr ⟨trivial, hall⟩)
    (st5 w 0) ⟨0, rfl, Nat.zero_le _, fun a _ h => absurd h (Nat.not_lt_zero _)⟩
  obtain ⟨p0, b0, e0, k0⟩ := F19_ok (l := w.2.2.1) hn hw.each
  obtain ⟨p1, b1, e1⟩ := F20_ok (c := (w.1, w.2.1)) hw.ways
  have hok : (F5 (w, ())).Ok (fun r => ∃ b, r = (b, ()) ∧ (b = true → GoodW w)) := by
    have no : ∃ b, ((false, ()) : Bool × Unit) = (b, ()) ∧ (b = true → GoodW w) := ⟨false, rfl, fun h => nomatch h⟩
    unfold F5
    have h1 : loopInv F5L0 ((), (0 : Int), w.1, w.2.1, w.2.2.1, w.2.2.2.1, w.2.2.2.2.1, w.2.2.2.2.2.1, w.2.2.2.2.2.2, ()) := h1
    have h2 : loopOut F5L0 ((), (0 : Int), w.1, w.2.1, w.2.2.1, w.2.2.2.1, w.2.2.2.2.1, w.2.2.2.2.2.1, w.2.2.2.2.2.2, ()) = some y := h2
    simp only [p0, e0, p1, e1, h1, h2, no, ok_node, ok_leaf, allA_cons, allA_one, allA_nil, true_and, implies_true]
    intro hb0 _ _ _ _
    rcases h3 with rfl | ⟨⟨z, rfl⟩, hall⟩
    · exact ⟨fun _ => no, fun h => by simp [isL] at h⟩
    · exact ⟨fun h => by simp [isL] at h, fun _ => ⟨true, rfl, fun _ => ⟨k0 hb0, hw.ways, hall⟩⟩⟩
  exact hok
theorem scanS_len (w : Wdt) (name : Str) : ∀ (r l : List Spt), (scanS w name r l).1.length ≤ l.length + r.length := by
  intro r
  induction r with
  | nil => intro l; exact Nat.le_refl _
  | cons d r ih =>
    intro l
    simp only [scanS]
    cases q : scanB w name l d with
    | inl l' => have := scanB_len q; have := ih l'; simp only [List.length_cons]; omega
    | inr y =>
      have : y.1.length ≤ l.length + 1 := by
        unfold scanB at q
        split at q
        · cases h1 : ((nodeZ w (d.1, _)).2.1 == 2) <;> rw [h1] at q
          · simp only [cond_false] at q; cases q; show (bif _ then _ else _ : List Spt).length ≤ _; cases (Int.ofNat l.length == 0) <;> simp
          · simp only [cond_true] at q
            cases h2 : sign w (d.1, _) sOpq <;> rw [h2] at q
            · simp only [cond_false] at q
              cases h3 : sign w d (white name) <;> rw [h3] at q
              · cases q
              · cases q; simp
            · cases q; simp
        · cases h3 : sign w d (white name) <;> rw [h3] at q
          · cases q
          · cases q; exact Nat.le_succ _
      simp only [List.length_cons]; omega
theorem F9_ok {w : Wdt} (hw : GoodW w) {name : Str} (hn : List.length name ≤ 2000000) {dirs : List Spt} (hd : ∀ d ∈ dirs, SpotOk w d) (hlen : dirs.length ≤ 900) : F9.pre (w, dirs, name, ()) ∧ F9.fn (w, dirs, name, ()) = (true, ()) := by
  have h9 : dirs.length ≤ 1000 := by omega
  obtain ⟨p10, e10⟩ := F10_ok hw hn hd h9
  obtain ⟨p16, e16⟩ := F16_ok hw hn hd h9
  obtain ⟨p18, e18⟩ := F18_ok hw hd h9
  obtain ⟨p23, e23⟩ := F23_ok hw hd hlen
  obtain ⟨p24, e24⟩ := F24_ok hw hn hd h9
  obtain ⟨p25, e25⟩ := F25_ok hw hn hd h9
  obtain ⟨p17, e17⟩ := F17_ok hw hn hd h9
  obtain ⟨p26, e26⟩ := F26_ok hw hn hd h9
  rw [names_same] at e18
  have hslen := scanS_len w name
  have hsl := hslen dirs []
  obtain ⟨p7, e7⟩ := F7_ok (xs := (scanS w name dirs []).1) (by simp only [List.length_nil] at hsl; omega)
  have hns : ((namesS w dirs).foldl (stepN w dirs) []).length < 2305843009213693952 := by
    have h1 := foldN_len w dirs (namesS w dirs) []
    have h2 : ∀ (r : List Spt), (∀ d ∈ r, SpotOk w d) → (namesS w r).length ≤ r.length * 1048576 := by
      intro r
      induction r with
      | nil => intro _; exact Nat.zero_le _
      | cons d r ih =>
        intro h
        have h1 := nodeZ_few hw (h d List.mem_cons_self)
        have h2 := ih fun x hx => h x (List.mem_cons_of_mem _ hx)
        show ((ndNames (nodeZ w d)).map (·.1) ++ namesS w r).length ≤ _
        rw [List.length_append, List.length_map, List.length_cons, Nat.add_mul]
        omega
    have h3 := h2 dirs hd
    have h4 := Nat.mul_le_mul_right 1048576 hlen
    simp only [List.length_nil] at h1
    omega
  obtain ⟨p22, e22⟩ := F22_ok hns
  have hok : (F9 (w, dirs, name, ())).Ok (· = (true, ())) := by
    unfold F9
    simp only [p10, e10, p16, e16, p18, e18, p23, e23, p24, e24, p25, e25, p17, e17, p26, e26, p7, e7, p22, e22, beq_self_eq_true, ok_node, ok_leaf, allA_cons, allA_one, allA_nil, true_and, and_true, forall_const, Bool.true_eq_false, false_implies, implies_true]
  exact hok
theorem F11_ok : F11.pre () ∧ F11.fn () = (true, ()) := ⟨trivial, rfl⟩
theorem scan_spots {w : Wdt} {name : Str} : ∀ (r l : List Spt), (∀ d ∈ r, SpotOk w d) → (∀ d ∈ l, SpotOk w d) → ∀ d ∈ (scanS w name r l).1, SpotOk w d
  | [], l, _, hl => hl
  | d :: r, l, hr, hl => by
    have hd := hr d List.mem_cons_self
    have hadd : ∀ ino, ∀ x ∈ l ++ [(d.1, ino)], SpotOk w x := fun ino x hx => by
      rcases List.mem_append.1 hx with hx | hx
      · exact hl x hx
      · rw [List.mem_singleton] at hx; subst hx; exact hd
    have key : match scanB w name l d with | .inl l' => ∀ x ∈ l', SpotOk w x | .inr y => ∀ x ∈ y.1, SpotOk w x := by
      unfold scanB
      cases nameOf (nodeZ w d) name with
      | none => cases sign w d (white name) <;> exact hl
      | some ino =>
        dsimp only
        cases (nodeZ w (d.1, ino)).2.1 == 2
        · cases h : (Int.ofNat l.length == 0)
          · simp only [h, cond_false]; exact hl
          · simp only [h, cond_true, cond_false]; exact hadd ino
        · cases sign w (d.1, ino) sOpq <;> cases sign w d (white name) <;> exact hadd ino
    simp only [scanS]
    cases q : scanB w name l d with
    | inl l' => rw [q] at key; exact scan_spots r l' (fun x hx => hr x (List.mem_cons_of_mem _ hx)) key
    | inr y => rw [q] at key; exact key
/-- THE LAW, over data. -/
theorem law {w : Wdt} (hw : BdW w) (above name : Str) : F3.pre (w, above, name, ()) ∧ F3.fn (w, above, name, ()) = (true, ()) := by
  obtain ⟨p5, b5, e5, k5⟩ := F5_ok hw
  have hok : (F3 (w, above, name, ())).Ok (· = (true, ())) := by
    unfold F3
    simp only [p5, e5, ok_node, ok_leaf, allA_cons, allA_one, allA_nil, true_and, implies_true, Bool.not_eq_false', decide_eq_false_iff_not]
    intro hb ha hn
    have hg := k5 hb
    have ha : List.length above ≤ 2000000 := by rw [Int.ofNat_eq_natCast] at ha; omega
    have hn : List.length name ≤ 2000000 := by rw [Int.ofNat_eq_natCast] at hn; omega
    have hdk := hg.disks
    obtain ⟨p6, e6⟩ := F6_ok hg.disks
    obtain ⟨p8, e8⟩ := F8_ok hg.disks
    have hrl := rootsS_len (wDisks w).length
    have hro := rootsS_ok (w := w)
    obtain ⟨p7, e7⟩ := F7_ok (xs := rootsS (wDisks w).length) (by omega)
    obtain ⟨p9, e9⟩ := F9_ok hg ha hro (by omega)
    obtain ⟨p10, e10⟩ := F10_ok hg ha hro (by omega)
    obtain ⟨p11, e11⟩ := F11_ok
    simp only [p6, e6, p8, e8, p7, e7, p9, e9, p10, e10, p11, e11, Bool.not_true, Bool.false_eq_true, false_implies, forall_const, true_and, ok_node, ok_leaf, allA_cons, allA_one, allA_nil, and_true, implies_true]
    intro hz
    generalize hsd : (scanS w above (rootsS (wDisks w).length) []).1 = s at hz
    have hs : ∀ d ∈ s, SpotOk w d := by rw [← hsd]; exact scan_spots _ _ hro (fun d hd => nomatch hd)
    have hslen : s.length ≤ 8 := by
      have := scanS_len w above (rootsS (wDisks w).length) []
      rw [hsd, hrl, List.length_nil] at this
      omega
    have h0 : 0 < s.length := by
      cases s with
      | nil => simp at hz
      | cons _ _ => simp
    have hx : @id Spt (xsAt Sp s (0 + Int.toNat 0)) = s[0] := xsAt_lt h0
    have hs0 := hs _ (List.getElem_mem h0)
    have ed : (@id Dkt (xsAt Dk w.2.2.1 (Int.toNat s[0].1))) = dkOf w s[0] := rfl
    obtain ⟨p12, e12⟩ := F12_ok (hg.each _ (dkOf_mem hs0)).sm s[0].2
    obtain ⟨p92, e92⟩ := F9_ok hg hn hs (by omega)
    have hb1 : (0 : Int) ≤ s[0].1 := hs0.1
    have hb2 : s[0].1 < Int.ofNat (List.length w.2.2.1) := hs0.2
    have h03 : (0 : Int) < Int.ofNat s.length := by rw [Int.ofNat_eq_natCast]; omega
    simp only [hx, ed, p12, e12, p92, e92, hb1, hb2, h03, Int.le_refl, true_and, and_true, implies_true, forall_const, Bool.true_eq_false, false_implies]
  exact hok
end Go.Proofs.YtkccnomdfkhfnaaGreat
