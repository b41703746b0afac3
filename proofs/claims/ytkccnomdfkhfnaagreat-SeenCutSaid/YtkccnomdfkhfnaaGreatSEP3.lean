/- What is seen: the program's functions. -/
import Derived.Test.YtkccnomdfkhfnaaGreatSEP2
set_option linter.unusedVariables false
set_option linter.unusedSimpArgs false
namespace Go.Proofs.YtkccnomdfkhfnaaGreat
open Go.RowKit Go.Proofs.YtkccnomdfkhfnaaGreat.Ev

abbrev wWays (w : Wdt) : List Int := w.1
abbrev wDisks (w : Wdt) : List Dkt := w.2.2.1
abbrev sOpq : Str := dec 12 14380664602328719262401654897 []
abbrev sWh : Str := dec 4 779577390 []
def white (s : Str) : Str := sWh ++ s
def dkOf (w : Wdt) (s : Spt) : Dkt := @id Dkt (xsAt Dk (wDisks w) (Int.toNat s.1))
def nodeZ (w : Wdt) (s : Spt) : Ndt := (nodeOf (dkOf w s) s.2).getD ndZ
def heeds (ways : List Int) (b : Int) : Bool := decide (0 ≤ b) && (decide (b < Int.ofNat ways.length) && ((@id Int (xsAt (.one (.int .i64)) ways (Int.toNat b)) == 1) || (@id Int (xsAt (.one (.int .i64)) ways (Int.toNat b)) == 3)))
def sign (w : Wdt) (s : Spt) (x : Str) : Bool := (nameOf (nodeZ w s) x).isSome && (((nodeZ w s).2.1 == 2) && heeds (wWays w) s.1)
structure GoodD (d : Dkt) : Prop extends Rises d where
  few : ∀ n ∈ dkNodes d, (ndNames n).length ≤ 1048576
  short : ∀ n ∈ dkNodes d, ∀ x ∈ ndNames n, List.length x.1 ≤ 1048576
structure GoodW (w : Wdt) : Prop where
  disks : (wDisks w).length ≤ 8
  ways : (wWays w).length < 2305843009213693952
  each : ∀ d ∈ wDisks w, GoodD d
def SpotOk (w : Wdt) (s : Spt) : Prop := 0 ≤ s.1 ∧ s.1 < Int.ofNat (wDisks w).length
theorem dkOf_mem {w : Wdt} {s : Spt} (h : SpotOk w s) : dkOf w s ∈ wDisks w := by
  have hlt : Int.toNat s.1 < (wDisks w).length := by obtain ⟨h1, h2⟩ := h; rw [Int.ofNat_eq_natCast] at h2; omega
  have : dkOf w s = (wDisks w)[Int.toNat s.1] := xsAt_lt hlt
  rw [this]; exact List.getElem_mem hlt
theorem nodeZ_few {w : Wdt} (hw : GoodW w) {s : Spt} (h : SpotOk w s) : (ndNames (nodeZ w s)).length ≤ 1048576 := by
  have hd := hw.each _ (dkOf_mem h)
  unfold nodeZ
  cases q : nodeOf (dkOf w s) s.2 with
  | none => exact Nat.zero_le _
  | some n => exact hd.few n (List.mem_of_find?_eq_some q)
theorem nodeZ_good {w : Wdt} (hw : GoodW w) {s : Spt} (h : SpotOk w s) : SmN (nodeZ w s) ∧ SortS (ndNames (nodeZ w s)) ∧ ∀ x ∈ ndNames (nodeZ w s), List.length x.1 ≤ 1048576 := by
  have hd := hw.each _ (dkOf_mem h)
  obtain ⟨h1, h2⟩ := hd.toRises.node s.2
  refine ⟨h1, h2, ?_⟩
  unfold nodeZ
  cases q : nodeOf (dkOf w s) s.2 with
  | none => intro x hx; cases hx
  | some n => exact hd.short n (List.mem_of_find?_eq_some q)
theorem F35_ok {w : Wdt} (hw : GoodW w) {s : Spt} (h : SpotOk w s) : F35.pre (w, s, ()) ∧ F35.fn (w, s, ()) = (nodeZ w s, ()) := by
  have hd := hw.each _ (dkOf_mem h)
  obtain ⟨h1, k, h2, h3⟩ := nodes_bs hd.toRises s.2
  have hok : (F35 (w, s, ())).Ok (· = (nodeZ w s, ())) := by
    unfold F35
    have e : (@id Dkt (xsAt Dk w.2.2.1 (Int.toNat s.1))) = dkOf w s := rfl
    simp only [e]
    have h1 : F63_64.pre ((dkOf w s).2.2.2, s.2, (), ()) := h1
    have h2 : F63_64.fn ((dkOf w s).2.2.2, s.2, (), ()) = ((k : Int), (nodeOf (dkOf w s) s.2).isSome, ()) := h2
    rw [h2]
    simp only [ok_node, ok_leaf, allA_cons, allA_one, allA_nil, true_and, Int.toNat_natCast]
    refine ⟨⟨h1, h.1, h.2⟩, fun g => ?_, fun g => ?_⟩
    · unfold nodeZ
      cases q : nodeOf (dkOf w s) s.2 with
      | none => rfl
      | some n => rw [q] at g; simp at g
    · rcases h3 with h3 | ⟨hk, h3⟩
      · rw [h3] at g; simp at g
      · have hx : @id Ndt (xsAt Nd (dkOf w s).2.2.2 k) = (dkNodes (dkOf w s))[k] := xsAt_lt hk
        rw [hx]
        have hk : k < (dkOf w s).2.2.2.length := hk
        refine ⟨⟨by omega, by rw [Int.ofNat_eq_natCast]; omega⟩, ?_⟩
        unfold nodeZ
        rw [h3]; rfl
  exact hok
theorem F104_ok (c : Cft) (b way : Int) : F104.pre (c, b, way, ()) ∧ F104.fn (c, b, way, ()) = (decide (0 ≤ b) && (decide (b < Int.ofNat c.1.length) && (@id Int (xsAt (.one (.int .i64)) c.1 (Int.toNat b)) == way)), ()) := by
  have hok : (F104 (c, b, way, ())).Ok (· = (decide (0 ≤ b) && (decide (b < Int.ofNat c.1.length) && (@id Int (xsAt (.one (.int .i64)) c.1 (Int.toNat b)) == way)), ())) := by
    unfold F104
    simp only [ok_node, ok_leaf, allA_cons, allA_one, allA_nil, true_and, decide_eq_true_eq, decide_eq_false_iff_not]
    refine ⟨fun h => ⟨fun g => ⟨⟨h, g⟩, ?_⟩, fun g => ?_⟩, fun h => ?_⟩
    · have h : (0 : Int) ≤ b := h
      rw [decide_eq_true h, decide_eq_true g]; rfl
    · have h : (0 : Int) ≤ b := h
      rw [decide_eq_true h, decide_eq_false g]; rfl
    · have h : ¬ (0 : Int) ≤ b := h
      rw [decide_eq_false h]; rfl
  exact hok
theorem F72_ok (c : Cft) (b : Int) : F72.pre (c, b, ()) ∧ F72.fn (c, b, ()) = (heeds c.1 b, ()) := by
  obtain ⟨p1, e1⟩ := F104_ok c b 1
  obtain ⟨p3, e3⟩ := F104_ok c b 3
  have hok : (F72 (c, b, ())).Ok (· = (heeds c.1 b, ())) := by
    unfold F72
    simp only [e1, e3, ok_node, ok_leaf, allA_cons, allA_one, allA_nil, true_and]
    unfold heeds
    refine ⟨p1, fun g => ?_, fun g => ⟨p3, ?_⟩⟩
    · simp only [Bool.and_eq_true] at g
      rw [g.1, g.2.1, g.2.2]; rfl
    · generalize (@id Int (xsAt (.one (.int .i64)) c.1 (Int.toNat b)) == 1) = p at g ⊢
      generalize (@id Int (xsAt (.one (.int .i64)) c.1 (Int.toNat b)) == 3) = q at g ⊢
      generalize decide (0 ≤ b) = r at g ⊢
      generalize decide (b < Int.ofNat c.1.length) = t at g ⊢
      revert g
      cases p <;> cases q <;> cases r <;> cases t <;> simp
  exact hok
theorem F46_ok {w : Wdt} (hw : GoodW w) {s : Spt} (h : SpotOk w s) (x : Str) : F46.pre (w, s, x, ()) ∧ F46.fn (w, s, x, ()) = (sign w s x, ()) := by
  obtain ⟨p1, e1⟩ := F35_ok hw h
  obtain ⟨g1, g2, _⟩ := nodeZ_good hw h
  obtain ⟨p2, e2⟩ := names_bs g1 g2 x
  obtain ⟨p3, e3⟩ := F72_ok (w.1, w.2.1) s.1
  have hok : (F46 (w, s, x, ())).Ok (· = (sign w s x, ())) := by
    unfold F46
    simp only [e1, e2, e3, ok_node, ok_leaf, allA_cons, allA_one, allA_nil, true_and]
    unfold sign
    refine ⟨⟨p2, p1⟩, fun a => ⟨fun b => ⟨p3, by rw [a, b]; rfl⟩, fun b => by rw [a, b]; rfl⟩, fun a => by rw [a]; rfl⟩
  exact hok
theorem sWh_len : List.length sWh = 4 := by decide
theorem F47_ok {x : Str} (h : List.length x ≤ 2000000) : F47.pre (x, ()) ∧ F47.fn (x, ()) = (white x, ()) := by
  refine ⟨?_, rfl⟩
  simp only [F47.pre, F47, DT.pre, allA_one]
  have : List.length (dec 4 779577390 []) = 4 := sWh_len
  rw [this]; unfold Room; omega

/-! ## a row of directories, one over the other -/
def scanB (w : Wdt) (name : Str) (l : List Spt) (d : Spt) : List Spt ⊕ (List Spt × Int) :=
  match nameOf (nodeZ w d) name with
  | some ino => bif (nodeZ w (d.1, ino)).2.1 == 2 then
      (bif sign w (d.1, ino) sOpq then .inr (l ++ [(d.1, ino)], d.1) else bif sign w d (white name) then .inr (l ++ [(d.1, ino)], d.1) else .inl (l ++ [(d.1, ino)]))
    else .inr (bif (Int.ofNat l.length) == 0 then l ++ [(d.1, ino)] else l, d.1 - 1)
  | none => bif sign w d (white name) then .inr (l, d.1) else .inl l
def scanS (w : Wdt) (name : Str) : List Spt → List Spt → List Spt × Int
  | [], l => (l, Int.ofNat (wDisks w).length - 1)
  | d :: r, l => match scanB w name l d with
    | .inl l' => scanS w name r l'
    | .inr y => y
theorem scanB_len {w : Wdt} {name : Str} {l : List Spt} {d : Spt} {l' : List Spt} (h : scanB w name l d = .inl l') : l'.length ≤ l.length + 1 := by
  unfold scanB at h
  split at h
  · cases h1 : ((nodeZ w (d.1, _)).2.1 == 2) <;> rw [h1] at h
    · cases h
    · simp only [cond_true] at h
      cases h2 : sign w (d.1, _) sOpq <;> rw [h2] at h
      · simp only [cond_false] at h
        cases h3 : sign w d (white name) <;> rw [h3] at h
        · cases h; simp
        · cases h
      · cases h
  · cases h3 : sign w d (white name) <;> rw [h3] at h
    · cases h; omega
    · cases h
abbrev stS (w : Wdt) (name : Str) (dirs l : List Spt) (i : Nat) : List UInt8 × Unit × List Spt × List Spt × Int × Int × List (Int) × Int × List Dkt × Int × List Rwt × List Rwt × Int × Unit :=
  (name, (), l, dirs, (dirs.length : Int), (i : Int), w.1, w.2.1, w.2.2.1, w.2.2.2.1, w.2.2.2.2.1, w.2.2.2.2.2.1, w.2.2.2.2.2.2, ())
theorem F34_step {w : Wdt} (hw : GoodW w) {name : Str} (hn : List.length name ≤ 2000000) {dirs : List Spt} (hd : ∀ d ∈ dirs, SpotOk w d) (hlen : dirs.length < 2305843009213693952) {l : List Spt} {i : Nat} (hi : i < dirs.length) (hl : l.length * 16 + 16 ≤ Room) :
    (F34L0 (stS w name dirs l i)).Ok fun r => r = match scanB w name l dirs[i] with
      | .inl l' => .inl (stS w name dirs l' (i + 1))
      | .inr y => .inr (.inl (y.1, y.2, ())) := by
  have hs : SpotOk w dirs[i] := hd _ (List.getElem_mem hi)
  have hx : @id Spt (xsAt Sp dirs i) = dirs[i] := xsAt_lt hi
  generalize hdi : dirs[i] = d at hs hx ⊢
  obtain ⟨p1, e1⟩ := F35_ok hw hs
  obtain ⟨g1, g2, _⟩ := nodeZ_good hw hs
  obtain ⟨p2, e2⟩ := names_bs g1 g2 name
  obtain ⟨p3, e3⟩ := F47_ok hn
  obtain ⟨p4, e4⟩ := F46_ok hw hs (white name)
  have hs' : ∀ ino, SpotOk w (d.1, ino) := fun ino => hs
  have hwr : wrp .i64 (d.1 - 1) = d.1 - 1 := by
    obtain ⟨a, b⟩ := hs
    rw [Int.ofNat_eq_natCast] at b
    have := hw.disks
    exact wrp_id (by omega) (by omega)
  have hroom : ∀ s : Spt, (List.length (l ++ [s])) * 16 ≤ Room := fun s => by simp; omega
  unfold F34L0
  have e5 : ∀ ino, F46.pre (w, (d.1, ino), sOpq, ()) ∧ F46.fn (w, (d.1, ino), sOpq, ()) = (sign w (d.1, ino) sOpq, ()) := fun ino => F46_ok hw (hs' ino) sOpq
  have e6 : ∀ ino, F35.pre (w, (d.1, ino), ()) ∧ F35.fn (w, (d.1, ino), ()) = (nodeZ w (d.1, ino), ()) := fun ino => F35_ok hw (hs' ino)
  simp only [Int.toNat_natCast, hx, e1, e2, e3, e4, e5, e6, ok_node, ok_leaf, allA_cons, allA_one, allA_nil, true_and, wrp_succ (show i < 4611686018427387904 by omega), hwr, p1, p2, p3, p4, hroom, and_true]
  have hi2 : (i : Int) < (dirs.length : Int) := by omega
  have hi3 : (i : Int) < Int.ofNat dirs.length := hi2
  simp only [decide_eq_true hi2, hi3, Int.natCast_nonneg, true_and, forall_const, and_true, Bool.true_eq_false, false_implies]
  unfold scanB
  cases q : nameOf (nodeZ w d) name with
  | none =>
    simp only [Option.isSome_none, Option.getD_none, Bool.false_eq_true, false_implies, forall_const, true_and]
    cases sign w d (white name) <;> simp
  | some ino =>
    simp only [Option.isSome_some, Option.getD_some, Bool.true_eq_false, false_implies, forall_const, and_true]
    cases (nodeZ w (d.1, ino)).2.1 == 2 <;> cases ((Int.ofNat l.length) == 0) <;> cases sign w (d.1, ino) sOpq <;> cases sign w d (white name) <;> simp
theorem F34_ok {w : Wdt} (hw : GoodW w) {name : Str} (hn : List.length name ≤ 2000000) {dirs : List Spt} (hd : ∀ d ∈ dirs, SpotOk w d) (hlen : dirs.length ≤ 1000) :
    F34.pre (w, dirs, name, ()) ∧ F34.fn (w, dirs, name, ()) = ((scanS w name dirs []).1, (scanS w name dirs []).2, ()) := by
  have hdk : w.2.2.1.length ≤ 8 := hw.disks
  obtain ⟨h1, y, h2, h3⟩ := loopP (tr := F34L0)
    (fun x => ∃ (i : Nat) (l : List Spt), x = stS w name dirs l i ∧ i ≤ dirs.length ∧ l.length ≤ i ∧ scanS w name (dirs.drop i) l = scanS w name dirs [])
    (fun x => (x.2.2.2.2.1 - x.2.2.2.2.2.1).toNat)
    (fun y => y = .inl ((scanS w name dirs []).1, (scanS w name dirs []).2, ()) ∨ ∃ l : List Spt, y = .inr (.inl ((), l, w.1, w.2.1, w.2.2.1, w.2.2.2.1, w.2.2.2.2.1, w.2.2.2.2.2.1, w.2.2.2.2.2.2, ())) ∧ scanS w name dirs [] = (l, Int.ofNat (wDisks w).length - 1)) (by
      rintro _ ⟨i, l, rfl, hi, hl, hR⟩
      rcases Nat.lt_or_ge i dirs.length with g | g
      · obtain ⟨s1, s2⟩ := F34_step hw hn hd (by omega) g (l := l) (by unfold Room; omega)
        refine ⟨s1, ?_⟩
        rw [s2]
        rw [List.drop_eq_getElem_cons g] at hR
        simp only [scanS] at hR
        cases q : scanB w name l dirs[i] with
        | inl l' =>
          rw [q] at hR
          have := scanB_len q
          exact ⟨⟨i + 1, l', rfl, g, by omega, hR⟩, by simp; omega⟩
        | inr y =>
          rw [q] at hR
          exact .inl (by rw [← hR])
      · have : i = dirs.length := by omega
        subst this
        rw [List.drop_length] at hR
        unfold F34L0
        simp only [ok_node, ok_leaf, allA_nil, true_and, Int.lt_irrefl, decide_false, Bool.false_eq_true, false_implies, forall_const]
        exact .inr ⟨l, rfl, hR.symm⟩)
    _ ⟨0, [], rfl, Nat.zero_le _, Nat.le_refl _, rfl⟩
  have hok : (F34 (w, dirs, name, ())).Ok (· = ((scanS w name dirs []).1, (scanS w name dirs []).2, ())) := by
    unfold F34
    have h1 : loopInv F34L0 (name, (), [], dirs, (Int.ofNat (List.length dirs)), (0 : Int), w.1, w.2.1, w.2.2.1, w.2.2.2.1, w.2.2.2.2.1, w.2.2.2.2.2.1, w.2.2.2.2.2.2, ()) := h1
    have h2 : loopOut F34L0 (name, (), [], dirs, (Int.ofNat (List.length dirs)), (0 : Int), w.1, w.2.1, w.2.2.1, w.2.2.2.1, w.2.2.2.2.1, w.2.2.2.2.2.1, w.2.2.2.2.2.2, ()) = some y := h2
    simp only [h1, h2, ok_node, ok_leaf, allA_cons, allA_one, allA_nil, true_and]
    rcases h3 with rfl | ⟨l, rfl, e⟩
    · simp [isL, getL]
    · simp only [isL, getL, restR, Bool.false_eq_true, false_implies, forall_const, true_and, e]
      rw [wrp_id (by rw [Int.ofNat_eq_natCast]; omega) (by rw [Int.ofNat_eq_natCast]; omega)]
  exact hok
theorem F16_ok {w : Wdt} (hw : GoodW w) {name : Str} (hn : List.length name ≤ 2000000) {dirs : List Spt} (hd : ∀ d ∈ dirs, SpotOk w d) (hlen : dirs.length ≤ 1000) :
    F16.pre (w, dirs, name, ()) ∧ F16.fn (w, dirs, name, ()) = ((scanS w name dirs []).1, ()) := by
  obtain ⟨p, e⟩ := F34_ok hw hn hd hlen
  exact ⟨by simp only [F16.pre, F16, DT.pre, allA_one]; exact p, by simp only [F16.fn, F16, DT.fn, e]⟩
theorem F17_ok {w : Wdt} (hw : GoodW w) {name : Str} (hn : List.length name ≤ 2000000) {dirs : List Spt} (hd : ∀ d ∈ dirs, SpotOk w d) (hlen : dirs.length ≤ 1000) :
    F17.pre (w, dirs, name, ()) ∧ F17.fn (w, dirs, name, ()) = ((scanS w name dirs []).2, ()) := by
  obtain ⟨p, e⟩ := F34_ok hw hn hd hlen
  exact ⟨by simp only [F17.pre, F17, DT.pre, allA_one]; exact p, by simp only [F17.fn, F17, DT.fn, e]⟩
end Go.Proofs.YtkccnomdfkhfnaaGreat
