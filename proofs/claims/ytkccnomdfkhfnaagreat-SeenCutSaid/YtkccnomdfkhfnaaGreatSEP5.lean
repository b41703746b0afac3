/- The document's answer: nodes, names, signs, what is seen. -/
import Derived.Test.YtkccnomdfkhfnaaGreatSEP4
set_option linter.unusedVariables false
set_option linter.unusedSimpArgs false
namespace Go.Proofs.YtkccnomdfkhfnaaGreat
open Go.RowKit Go.Proofs.YtkccnomdfkhfnaaGreat.Ev

theorem F51_ok {sz : Int} {bl : List Bkt} (hw : WfL (.row Bk) bl) : F51.pre ((sz, bl), ()) ∧ F51.fn ((sz, bl), ()) = ((sz, bl), ()) := by
  have hlen : List.length bl * 32 ≤ Room := by simp only [WfL] at hw; exact hw.1
  have hroomN : List.length bl < 4611686018427387904 := by unfold Room at hlen; omega
  obtain ⟨h1, y, h2, h3⟩ := loopP (tr := F51L0) (fun x => ∃ i : Nat, x = ((), (), (), (i : Int), sz, bl, (0 : Int), (), sz, bl.take i, ()) ∧ i ≤ bl.length) (fun x => (x.2.2.2.2.2.1.length - x.2.2.2.1).toNat) (fun y => y = .inl ((), (), (0 : Int), (), sz, bl, ())) (by
    rintro _ ⟨i, rfl, hi⟩
    rcases Nat.lt_or_ge i bl.length with g | g
    · have hx : @id Bkt (xsAt Bk bl i) = bl[i] := xsAt_lt g
      have hb : List.length bl[i].2 * 1 ≤ Room := by
        simp only [WfL] at hw
        have := hw.2 i _ (List.getElem?_eq_getElem g)
        simp only [Bk, WfE, WfL] at this
        exact this.2.1
      have hi3 : (i : Int) < Int.ofNat bl.length := by rw [Int.ofNat_eq_natCast]; omega
      have htk : bl.take i ++ (bl[i].1, [] ++ bl[i].2) :: [] = bl.take (i + 1) := by rw [List.take_add_one, List.getElem?_eq_getElem g]; rfl
      unfold F51L0
      simp only [Int.toNat_natCast, hx, htk, hi3, decide_true, ok_node, ok_leaf, allA_cons, allA_one, allA_nil, true_and, and_true, Int.natCast_nonneg, forall_const, Bool.true_eq_false, false_implies, wrp_succ (show i < 4611686018427387904 by omega)]
      refine ⟨⟨?_, ?_⟩, ⟨i + 1, rfl, g⟩, ?_⟩
      · rw [List.length_take]; have := Nat.min_le_right (i + 1) bl.length; unfold Room at hlen ⊢; omega
      · simpa using hb
      · simp; omega
    · have : i = bl.length := by omega
      subst this
      unfold F51L0
      simp [List.take_length])
    _ ⟨0, rfl, Nat.zero_le _⟩
  subst h3
  have hok : (F51 ((sz, bl), ())).Ok (· = ((sz, bl), ())) := by
    unfold F51
    have h1 : loopInv F51L0 ((), (), (), (0 : Int), sz, bl, (0 : Int), (), sz, [], ()) := h1
    have h2 : loopOut F51L0 ((), (), (), (0 : Int), sz, bl, (0 : Int), (), sz, [], ()) = some (.inl ((), (), (0 : Int), (), sz, bl, ())) := h2
    simp only [h1, h2, ok_leaf, allA_one, true_and]
    simp [getL]
  exact hok
theorem F28_ok {n : Ndt} (hw : WfE Nd n) : F28.pre (n, ()) ∧ F28.fn (n, ()) = (n, ()) := by
  have h := hw
  simp only [Nd, WfE] at h
  have hb : WfL (.row Bk) n.2.2.2.2.2.1 := h.2.2.2.2.2.1
  obtain ⟨p, e⟩ := F51_ok (sz := n.2.2.2.2.1) hb
  have hn : List.length n.2.2.2.2.2.2.2 * 24 ≤ Room := by
    have h3 := h.2.2.2.2.2.2.2
    simp only [WfL] at h3
    exact h3.1
  have hok : (F28 (n, ())).Ok (· = (n, ())) := by
    unfold F28
    simp only [e, ok_leaf, allA_cons, allA_one, List.nil_append, p, hn, true_and]
  exact hok
theorem F12_ok {d : Dkt} (hd : SmD d) (u : Int) : F12.pre (d, u, ()) ∧ F12.fn (d, u, ()) = ((nodeOf d u).getD ndZ, (nodeOf d u).isSome, ()) := by
  have hsm : d.2.2.2.length < 2305843009213693952 := hd.nodes
  obtain ⟨h1, y, h2, h3⟩ := loopP (tr := F12L0)
    (fun x => ∃ i : Nat, x = (u, (), (), (i : Int), d.1, d.2.1, d.2.2.1, d.2.2.2, (0 : Int), (0 : Int), (0 : Int), (0 : Int), (0 : Int), (), (dec 0 0 []), (), ()) ∧ i ≤ d.2.2.2.length ∧ (d.2.2.2.drop i).find? (fun n => n.1 == u) = nodeOf d u)
    (fun x => (x.2.2.2.2.2.2.2.1.length - x.2.2.2.1).toNat)
    (fun y => (∃ n : Ndt, y = .inl ((), true, n.1, n.2.1, n.2.2.1, n.2.2.2.1, n.2.2.2.2.1, n.2.2.2.2.2.1, n.2.2.2.2.2.2.1, n.2.2.2.2.2.2.2, ()) ∧ nodeOf d u = some n) ∨ (∃ z, y = .inr (.inl z)) ∧ nodeOf d u = none) (by
      rintro _ ⟨i, rfl, hi, hR⟩
      rcases Nat.lt_or_ge i d.2.2.2.length with g | g
      · have hx : @id Ndt (xsAt Nd d.2.2.2 i) = d.2.2.2[i] := xsAt_lt g
        obtain ⟨p, e⟩ := F28_ok (hd.each _ (List.getElem_mem g)).wf
        rw [List.drop_eq_getElem_cons g, List.find?_cons] at hR
        have hi3 : (i : Int) < Int.ofNat d.2.2.2.length := by rw [Int.ofNat_eq_natCast]; omega
        unfold F12L0
        simp only [Int.toNat_natCast, hx, e, p, hi3, decide_true, ok_node, ok_leaf, allA_cons, allA_one, allA_nil, true_and, and_true, Int.natCast_nonneg, forall_const, Bool.true_eq_false, false_implies, wrp_succ (show i < 4611686018427387904 by omega)]
        refine ⟨fun q => .inl ⟨d.2.2.2[i], rfl, ?_⟩, fun q => ⟨⟨i + 1, rfl, g, ?_⟩, by simp; omega⟩⟩
        · rw [q] at hR; exact hR.symm
        · rw [q] at hR; exact hR
      · have : i = d.2.2.2.length := by omega
        subst this
        rw [List.drop_length] at hR
        unfold F12L0
        simp only [ok_node, ok_leaf, allA_nil, true_and, Int.ofNat_eq_natCast, Int.lt_irrefl, decide_false, Bool.false_eq_true, false_implies, forall_const]
        first | exact .inr ⟨⟨_, rfl⟩, hR.symm⟩ | exact .inr ⟨trivial, hR.symm⟩ | simp [← hR])
    _ ⟨0, rfl, Nat.zero_le _, rfl⟩
  have hok : (F12 (d, u, ())).Ok (· = ((nodeOf d u).getD ndZ, (nodeOf d u).isSome, ())) := by
    unfold F12
    have h1 : loopInv F12L0 (u, (), (), (0 : Int), d.1, d.2.1, d.2.2.1, d.2.2.2, (0 : Int), (0 : Int), (0 : Int), (0 : Int), (0 : Int), (), (dec 0 0 []), (), ()) := h1
    have h2 : loopOut F12L0 (u, (), (), (0 : Int), d.1, d.2.1, d.2.2.1, d.2.2.2, (0 : Int), (0 : Int), (0 : Int), (0 : Int), (0 : Int), (), (dec 0 0 []), (), ()) = some y := h2
    simp only [h1, h2, ok_node, ok_leaf, allA_cons, allA_one, allA_nil, true_and]
    rcases h3 with ⟨n, rfl, e⟩ | ⟨⟨z, rfl⟩, e⟩
    · simp [isL, getL, e]
    · rw [e]
      refine ⟨fun h => by simp [isL] at h, fun _ => rfl⟩
  exact hok
theorem F49_ok {n : Ndt} (hn : SmN n) (s : Str) : F49.pre (n, s, ()) ∧ F49.fn (n, s, ()) = ((nameOf n s).getD 0, (nameOf n s).isSome, ()) := by
  have hsm : n.2.2.2.2.2.2.2.length < 2305843009213693952 := hn.names
  obtain ⟨h1, y, h2, h3⟩ := loopP (tr := F49L0)
    (fun x => ∃ i : Nat, x = (s, (), (i : Int), n.1, n.2.1, n.2.2.1, n.2.2.2.1, n.2.2.2.2.1, n.2.2.2.2.2.1, n.2.2.2.2.2.2.1, n.2.2.2.2.2.2.2, ()) ∧ i ≤ n.2.2.2.2.2.2.2.length ∧ ((n.2.2.2.2.2.2.2.drop i).find? (fun x => x.1 == s)).map (·.2) = nameOf n s)
    (fun x => (x.2.2.2.2.2.2.2.2.2.2.1.length - x.2.2.1).toNat)
    (fun y => (∃ v : Int, y = .inl (v, true, ()) ∧ nameOf n s = some v) ∨ (∃ z, y = .inr (.inl z)) ∧ nameOf n s = none) (by
      rintro _ ⟨i, rfl, hi, hR⟩
      rcases Nat.lt_or_ge i n.2.2.2.2.2.2.2.length with g | g
      · have hx : @id Nmt (xsAt Nm n.2.2.2.2.2.2.2 i) = n.2.2.2.2.2.2.2[i] := xsAt_lt g
        rw [List.drop_eq_getElem_cons g, List.find?_cons] at hR
        have hi3 : (i : Int) < Int.ofNat n.2.2.2.2.2.2.2.length := by rw [Int.ofNat_eq_natCast]; omega
        unfold F49L0
        simp only [Int.toNat_natCast, hx, hi3, decide_true, ok_node, ok_leaf, allA_cons, allA_one, allA_nil, true_and, and_true, Int.natCast_nonneg, forall_const, Bool.true_eq_false, false_implies, wrp_succ (show i < 4611686018427387904 by omega)]
        refine ⟨fun q => .inl ⟨_, rfl, ?_⟩, fun q => ⟨⟨i + 1, rfl, g, ?_⟩, by simp; omega⟩⟩
        · rw [q] at hR; exact hR.symm
        · rw [q] at hR; exact hR
      · have : i = n.2.2.2.2.2.2.2.length := by omega
        subst this
        rw [List.drop_length] at hR
        unfold F49L0
        simp only [ok_node, ok_leaf, allA_nil, true_and, Int.ofNat_eq_natCast, Int.lt_irrefl, decide_false, Bool.false_eq_true, false_implies, forall_const]
        first | exact .inr ⟨⟨_, rfl⟩, hR.symm⟩ | exact .inr ⟨trivial, hR.symm⟩ | simp [← hR])
    _ ⟨0, rfl, Nat.zero_le _, rfl⟩
  have hok : (F49 (n, s, ())).Ok (· = ((nameOf n s).getD 0, (nameOf n s).isSome, ())) := by
    unfold F49
    have h1 : loopInv F49L0 (s, (), (0 : Int), n.1, n.2.1, n.2.2.1, n.2.2.2.1, n.2.2.2.2.1, n.2.2.2.2.2.1, n.2.2.2.2.2.2.1, n.2.2.2.2.2.2.2, ()) := h1
    have h2 : loopOut F49L0 (s, (), (0 : Int), n.1, n.2.1, n.2.2.1, n.2.2.2.1, n.2.2.2.2.1, n.2.2.2.2.2.1, n.2.2.2.2.2.2.1, n.2.2.2.2.2.2.2, ()) = some y := h2
    simp only [h1, h2, ok_node, ok_leaf, allA_cons, allA_one, allA_nil, true_and]
    rcases h3 with ⟨n, rfl, e⟩ | ⟨⟨z, rfl⟩, e⟩
    · simp [isL, getL, e]
    · rw [e]
      refine ⟨fun h => by simp [isL] at h, fun _ => rfl⟩
  exact hok
theorem F73_ok (c : Cft) (b : Int) : F73.pre (c, b, ()) ∧ F73.fn (c, b, ()) = (heeds c.1 b, ()) := by
  have hok : (F73 (c, b, ())).Ok (· = (heeds c.1 b, ())) := by
    unfold F73
    unfold heeds
    simp only [ok_node, ok_leaf, allA_cons, allA_one, allA_nil, true_and, decide_eq_true_eq, decide_eq_false_iff_not]
    generalize (@id Int (xsAt (.one (.int .i64)) c.1 (Int.toNat b))) = v
    refine ⟨fun h => ⟨fun g => ⟨⟨h, g⟩, fun q => ?_, fun q => ⟨⟨h, g⟩, ?_⟩⟩, fun g => ?_⟩, fun h => ?_⟩
    · have h : (0 : Int) ≤ b := h
      rw [decide_eq_true h, decide_eq_true g, q]; rfl
    · have h : (0 : Int) ≤ b := h
      rw [decide_eq_true h, decide_eq_true g, q]; rfl
    · have h : (0 : Int) ≤ b := h
      rw [decide_eq_true h, decide_eq_false g]; rfl
    · have h : ¬ (0 : Int) ≤ b := h
      rw [decide_eq_false h]; rfl
  exact hok
def hasD (d : Dkt) (u : Int) (s : Str) : Bool := (nameOf ((nodeOf d u).getD ndZ) s).isSome && (((nodeOf d u).getD ndZ).2.1 == 2)
theorem nodeOf_sm {d : Dkt} (hd : SmD d) (u : Int) : SmN ((nodeOf d u).getD ndZ) := by
  cases q : nodeOf d u with
  | none => exact ndZ_sm
  | some n => exact hd.each n (List.mem_of_find?_eq_some q)
theorem F105_ok {d : Dkt} (hd : SmD d) (u : Int) (s : Str) : F105.pre (d, u, s, ()) ∧ F105.fn (d, u, s, ()) = (hasD d u s, ()) := by
  obtain ⟨p1, e1⟩ := F12_ok hd u
  obtain ⟨p2, e2⟩ := F49_ok (nodeOf_sm hd u) s
  have hok : (F105 (d, u, s, ())).Ok (· = (hasD d u s, ())) := by
    unfold F105
    simp only [e1, e2, p1, p2, ok_node, ok_leaf, allA_cons, allA_one, allA_nil, true_and]
    unfold hasD
    refine ⟨fun q => by rw [q]; rfl, fun q => by rw [q]; rfl⟩
  exact hok
theorem F75_ok {d : Dkt} (hd : SmD d) (u : Int) : F75.pre (d, u, ()) ∧ F75.fn (d, u, ()) = (hasD d u sOpq, ()) := by
  obtain ⟨p, e⟩ := F105_ok hd u sOpq
  exact ⟨by simp only [F75.pre, F75, DT.pre, allA_one]; exact p, by simp only [F75.fn, F75, DT.fn, e]⟩
theorem F106_ok {x : Str} (h : List.length x ≤ 2000000) : F106.pre (x, ()) ∧ F106.fn (x, ()) = (white x, ()) := by
  refine ⟨?_, rfl⟩
  simp only [F106.pre, F106, DT.pre, allA_one]
  have : List.length (dec 4 779577390 []) = 4 := sWh_len
  rw [this]; unfold Room; omega
theorem F74_ok {d : Dkt} (hd : SmD d) (u : Int) {x : Str} (h : List.length x ≤ 2000000) : F74.pre (d, u, x, ()) ∧ F74.fn (d, u, x, ()) = (hasD d u (white x), ()) := by
  obtain ⟨p1, e1⟩ := F106_ok h
  obtain ⟨p2, e2⟩ := F105_ok hd u (white x)
  have hok : (F74 (d, u, x, ())).Ok (· = (hasD d u (white x), ())) := by
    unfold F74
    simp only [e1, e2, p1, p2, ok_node, ok_leaf, allA_cons, allA_one, allA_nil, true_and]
  exact hok
theorem sign_eq (w : Wdt) (s : Spt) (x : Str) : sign w s x = (heeds (wWays w) s.1 && hasD (dkOf w s) s.2 x) := by
  unfold sign hasD nodeZ
  cases heeds (wWays w) s.1 <;> simp
theorem F50_ok {w : Wdt} (hw : GoodW w) {s : Spt} (h : SpotOk w s) : F50.pre (w, s, ()) ∧ F50.fn (w, s, ()) = (sign w s sOpq, ()) := by
  have hd := hw.each _ (dkOf_mem h)
  obtain ⟨p1, e1⟩ := F73_ok (w.1, w.2.1) s.1
  obtain ⟨p2, e2⟩ := F75_ok hd.sm s.2
  have ed : (@id Dkt (xsAt Dk w.2.2.1 (Int.toNat s.1))) = dkOf w s := rfl
  have hok : (F50 (w, s, ())).Ok (· = (sign w s sOpq, ())) := by
    unfold F50
    simp only [ed, e1, e2, p1, p2, ok_node, ok_leaf, allA_cons, allA_one, allA_nil, true_and]
    rw [sign_eq]
    refine ⟨fun q => ⟨⟨h.1, h.2⟩, by rw [q]; rfl⟩, fun q => by rw [q]; rfl⟩
  exact hok
theorem F48_ok {w : Wdt} (hw : GoodW w) {s : Spt} (h : SpotOk w s) {x : Str} (hx : List.length x ≤ 2000000) : F48.pre (w, s, x, ()) ∧ F48.fn (w, s, x, ()) = (sign w s (white x), ()) := by
  have hd := hw.each _ (dkOf_mem h)
  obtain ⟨p1, e1⟩ := F73_ok (w.1, w.2.1) s.1
  obtain ⟨p2, e2⟩ := F74_ok hd.sm s.2 hx
  have ed : (@id Dkt (xsAt Dk w.2.2.1 (Int.toNat s.1))) = dkOf w s := rfl
  have hok : (F48 (w, s, x, ())).Ok (· = (sign w s (white x), ())) := by
    unfold F48
    simp only [ed, e1, e2, p1, p2, ok_node, ok_leaf, allA_cons, allA_one, allA_nil, true_and]
    rw [sign_eq]
    refine ⟨fun q => ⟨⟨h.1, h.2⟩, by rw [q]; rfl⟩, fun q => by rw [q]; rfl⟩
  exact hok
abbrev stR (w : Wdt) (name : Str) (dirs l : List Spt) (i : Nat) : List Spt × List UInt8 × Unit × List Spt × Int × Int × List (Int) × Int × List Dkt × Int × List Rwt × List Rwt × Int × Unit :=
  (dirs, name, (), l, Int.ofNat (wDisks w).length - 1, (i : Int), w.1, w.2.1, w.2.2.1, w.2.2.2.1, w.2.2.2.2.1, w.2.2.2.2.2.1, w.2.2.2.2.2.2, ())
theorem F27_step {w : Wdt} (hw : GoodW w) {name : Str} (hn : List.length name ≤ 2000000) {dirs : List Spt} (hd : ∀ d ∈ dirs, SpotOk w d) (hlen : dirs.length ≤ 1000) {l : List Spt} {i : Nat} (hi : i < dirs.length) (hl : l.length * 16 + 16 ≤ Room) :
    (F27L0 (stR w name dirs l i)).Ok fun r => r = match scanB w name l dirs[i] with
      | .inl l' => .inl (stR w name dirs l' (i + 1))
      | .inr y => .inr (.inl (y.1, y.2, ())) := by
  have hs : SpotOk w dirs[i] := hd _ (List.getElem_mem hi)
  have hx : @id Spt (xsAt Sp dirs i) = dirs[i] := xsAt_lt hi
  generalize hdi : dirs[i] = d at hs hx ⊢
  have hdk := hw.each _ (dkOf_mem hs)
  have ed : (@id Dkt (xsAt Dk w.2.2.1 (Int.toNat d.1))) = dkOf w d := rfl
  have e1 : F12.pre (dkOf w d, d.2, ()) ∧ F12.fn (dkOf w d, d.2, ()) = (nodeZ w d, (nodeOf (dkOf w d) d.2).isSome, ()) := F12_ok hdk.sm d.2
  have e2 : F49.pre (nodeZ w d, name, ()) ∧ F49.fn (nodeZ w d, name, ()) = ((nameOf (nodeZ w d) name).getD 0, (nameOf (nodeZ w d) name).isSome, ()) := F49_ok (nodeOf_sm hdk.sm d.2) name
  have e6 : ∀ ino, F12.pre (dkOf w d, ino, ()) ∧ F12.fn (dkOf w d, ino, ()) = (nodeZ w (d.1, ino), (nodeOf (dkOf w d) ino).isSome, ()) := fun ino => F12_ok hdk.sm ino
  obtain ⟨p4, e4⟩ := F48_ok hw hs hn
  have hs' : ∀ ino, SpotOk w (d.1, ino) := fun ino => hs
  have e5 : ∀ ino, F50.pre (w, (d.1, ino), ()) ∧ F50.fn (w, (d.1, ino), ()) = (sign w (d.1, ino) sOpq, ()) := fun ino => F50_ok hw (hs' ino)
  have hwr : wrp .i64 (d.1 - 1) = d.1 - 1 := by
    obtain ⟨a, b⟩ := hs
    rw [Int.ofNat_eq_natCast] at b
    have := hw.disks
    exact wrp_id (by omega) (by omega)
  have hroom : ∀ s : Spt, (List.length (l ++ [s])) * 16 ≤ Room := fun s => by simp; omega
  have hb1 : (0 : Int) ≤ d.1 := hs.1
  have hb2 : d.1 < Int.ofNat (List.length w.2.2.1) := hs.2
  have hi3 : (i : Int) < Int.ofNat dirs.length := by rw [Int.ofNat_eq_natCast]; omega
  unfold F27L0
  simp only [Int.toNat_natCast, hx, ed, e1, e2, e4, e5, p4, ok_node, ok_leaf, allA_cons, allA_one, allA_nil, true_and, wrp_succ (show i < 4611686018427387904 by omega), hwr, hroom, and_true, hb1, hb2, hi3, decide_true, Int.natCast_nonneg, forall_const, Bool.true_eq_false, false_implies]
  unfold scanB
  cases q : nameOf (nodeZ w d) name with
  | none =>
    simp only [Option.isSome_none, Option.getD_none, Bool.false_eq_true, false_implies, forall_const, true_and]
    cases sign w d (white name) <;> simp
  | some ino =>
    simp only [Option.isSome_some, Option.getD_some, Bool.true_eq_false, false_implies, forall_const, and_true, e6, true_and]
    by_cases z : (nodeZ w (d.1, ino)).2.1 = 2
    · have z1 : ((nodeZ w (d.1, ino)).2.1 == 2) = true := by simpa using z
      have z2 : ((nodeZ w (d.1, ino)).2.1 != 2) = false := by simpa using z
      rw [z1, z2]
      cases ((Int.ofNat l.length) == 0) <;> cases sign w (d.1, ino) sOpq <;> cases sign w d (white name) <;> simp
    · have z1 : ((nodeZ w (d.1, ino)).2.1 == 2) = false := by simpa using z
      have z2 : ((nodeZ w (d.1, ino)).2.1 != 2) = true := by simpa using z
      rw [z1, z2]
      cases ((Int.ofNat l.length) == 0) <;> cases sign w (d.1, ino) sOpq <;> cases sign w d (white name) <;> simp
theorem F27_ok {w : Wdt} (hw : GoodW w) {name : Str} (hn : List.length name ≤ 2000000) {dirs : List Spt} (hd : ∀ d ∈ dirs, SpotOk w d) (hlen : dirs.length ≤ 1000) :
    F27.pre (w, dirs, name, ()) ∧ F27.fn (w, dirs, name, ()) = ((scanS w name dirs []).1, (scanS w name dirs []).2, ()) := by
  have hdk : w.2.2.1.length ≤ 8 := hw.disks
  obtain ⟨h1, y, h2, h3⟩ := loopP (tr := F27L0)
    (fun x => ∃ (i : Nat) (l : List Spt), x = stR w name dirs l i ∧ i ≤ dirs.length ∧ l.length ≤ i ∧ scanS w name (dirs.drop i) l = scanS w name dirs [])
    (fun x => (x.1.length - x.2.2.2.2.2.1).toNat)
    (fun y => y = .inl ((scanS w name dirs []).1, (scanS w name dirs []).2, ()) ∨ y = .inr (.inl ((scanS w name dirs []).1, (scanS w name dirs []).2, ()))) (by
      rintro _ ⟨i, l, rfl, hi, hl, hR⟩
      rcases Nat.lt_or_ge i dirs.length with g | g
      · obtain ⟨s1, s2⟩ := F27_step hw hn hd hlen g (l := l) (by unfold Room; omega)
        refine ⟨s1, ?_⟩
        rw [s2]
        rw [List.drop_eq_getElem_cons g] at hR
        simp only [scanS] at hR
        cases q : scanB w name l dirs[i] with
        | inl l' =>
          rw [q] at hR
          have := scanB_len q
          exact ⟨⟨i + 1, l', rfl, g, by omega, hR⟩, by simp; omega⟩
        | inr y =>
          rw [q] at hR
          exact .inl (by rw [← hR])
      · have : i = dirs.length := by omega
        subst this
        rw [List.drop_length] at hR
        unfold F27L0
        simp only [ok_node, ok_leaf, allA_nil, true_and, Int.ofNat_eq_natCast, Int.lt_irrefl, decide_false, Bool.false_eq_true, false_implies, forall_const]
        exact .inr (by rw [← hR]; rfl))
    (stR w name dirs [] 0) ⟨0, [], rfl, Nat.zero_le _, Nat.le_refl _, rfl⟩
  have hok : (F27 (w, dirs, name, ())).Ok (· = ((scanS w name dirs []).1, (scanS w name dirs []).2, ())) := by
    unfold F27
    have hwr : wrp .i64 ((Int.ofNat (List.length w.2.2.1)) - (1 : Int)) = Int.ofNat (List.length w.2.2.1) - 1 := wrp_id (by rw [Int.ofNat_eq_natCast]; omega) (by rw [Int.ofNat_eq_natCast]; omega)
    rw [hwr]
    have h1 : loopInv F27L0 (dirs, name, (), [], Int.ofNat (List.length w.2.2.1) - 1, (0 : Int), w.1, w.2.1, w.2.2.1, w.2.2.2.1, w.2.2.2.2.1, w.2.2.2.2.2.1, w.2.2.2.2.2.2, ()) := h1
    have h2 : loopOut F27L0 (dirs, name, (), [], Int.ofNat (List.length w.2.2.1) - 1, (0 : Int), w.1, w.2.1, w.2.2.1, w.2.2.2.1, w.2.2.2.2.1, w.2.2.2.2.2.1, w.2.2.2.2.2.2, ()) = some y := h2
    simp only [h1, h2, ok_node, ok_leaf, allA_cons, allA_one, allA_nil, true_and]
    rcases h3 with rfl | rfl
    · simp [isL, getL]
    · simp [isL, getL, restR]
  exact hok
theorem F10_ok {w : Wdt} (hw : GoodW w) {name : Str} (hn : List.length name ≤ 2000000) {dirs : List Spt} (hd : ∀ d ∈ dirs, SpotOk w d) (hlen : dirs.length ≤ 1000) :
    F10.pre (w, dirs, name, ()) ∧ F10.fn (w, dirs, name, ()) = ((scanS w name dirs []).1, ()) := by
  obtain ⟨p, e⟩ := F27_ok hw hn hd hlen
  exact ⟨by simp only [F10.pre, F10, DT.pre, allA_one]; exact p, by simp only [F10.fn, F10, DT.fn, e]⟩
theorem F26_ok {w : Wdt} (hw : GoodW w) {name : Str} (hn : List.length name ≤ 2000000) {dirs : List Spt} (hd : ∀ d ∈ dirs, SpotOk w d) (hlen : dirs.length ≤ 1000) :
    F26.pre (w, dirs, name, ()) ∧ F26.fn (w, dirs, name, ()) = ((scanS w name dirs []).2, ()) := by
  obtain ⟨p, e⟩ := F27_ok hw hn hd hlen
  exact ⟨by simp only [F26.pre, F26, DT.pre, allA_one]; exact p, by simp only [F26.fn, F26, DT.fn, e]⟩
abbrev stV (w : Wdt) (name : Str) (dirs : List Spt) (i : Nat) : List Spt × List UInt8 × Unit × Int × List (Int) × Int × List Dkt × Int × List Rwt × List Rwt × Int × Unit :=
  (dirs, name, (), (i : Int), w.1, w.2.1, w.2.2.1, w.2.2.2.1, w.2.2.2.2.1, w.2.2.2.2.2.1, w.2.2.2.2.2.2, ())
theorem F25_ok {w : Wdt} (hw : GoodW w) {name : Str} (hn : List.length name ≤ 2000000) {dirs : List Spt} (hd : ∀ d ∈ dirs, SpotOk w d) (hlen : dirs.length ≤ 1000) :
    F25.pre (w, dirs, name, ()) ∧ F25.fn (w, dirs, name, ()) = (coverS w name dirs, ()) := by
  obtain ⟨h1, y, h2, h3⟩ := loopP (tr := F25L0)
    (fun x => ∃ i : Nat, x = stV w name dirs i ∧ i ≤ dirs.length ∧ coverS w name (dirs.drop i) = coverS w name dirs)
    (fun x => (x.1.length - x.2.2.2.1).toNat)
    (fun y => y = .inl (coverS w name dirs, ()) ∨ y = .inr (.inl ((), w.1, w.2.1, w.2.2.1, w.2.2.2.1, w.2.2.2.2.1, w.2.2.2.2.2.1, w.2.2.2.2.2.2, ())) ∧ coverS w name dirs = Int.ofNat (wDisks w).length) (by
      rintro _ ⟨i, rfl, hi, hR⟩
      rcases Nat.lt_or_ge i dirs.length with g | g
      · have hs : SpotOk w dirs[i] := hd _ (List.getElem_mem g)
        have hx : @id Spt (xsAt Sp dirs i) = dirs[i] := xsAt_lt g
        rw [List.drop_eq_getElem_cons g] at hR
        simp only [coverS] at hR
        generalize hdi : dirs[i] = d at hs hx hR
        obtain ⟨p4, e4⟩ := F48_ok hw hs hn
        have hi3 : (i : Int) < Int.ofNat dirs.length := by rw [Int.ofNat_eq_natCast]; omega
        unfold F25L0
        simp only [Int.toNat_natCast, hx, e4, ok_node, ok_leaf, allA_cons, allA_one, allA_nil, true_and, wrp_succ (show i < 4611686018427387904 by omega), p4, and_true, hi3, decide_true, Int.natCast_nonneg, forall_const, Bool.true_eq_false, false_implies]
        refine ⟨fun q => ?_, fun q => ?_⟩
        · rw [q, cond_true] at hR; exact .inl (by rw [← hR])
        · rw [q, cond_false] at hR; exact ⟨⟨i + 1, rfl, g, hR⟩, by simp; omega⟩
      · have : i = dirs.length := by omega
        subst this
        rw [List.drop_length] at hR
        unfold F25L0
        simp only [ok_node, ok_leaf, allA_nil, true_and, Int.ofNat_eq_natCast, Int.lt_irrefl, decide_false, Bool.false_eq_true, false_implies, forall_const]
        first | exact .inr ⟨by simp, hR.symm⟩ | exact hR.symm | (simp [← hR, coverS]; done))
    _ ⟨0, rfl, Nat.zero_le _, rfl⟩
  have hok : (F25 (w, dirs, name, ())).Ok (· = (coverS w name dirs, ())) := by
    unfold F25
    have h1 : loopInv F25L0 (dirs, name, (), (0 : Int), w.1, w.2.1, w.2.2.1, w.2.2.2.1, w.2.2.2.2.1, w.2.2.2.2.2.1, w.2.2.2.2.2.2, ()) := h1
    have h2 : loopOut F25L0 (dirs, name, (), (0 : Int), w.1, w.2.1, w.2.2.1, w.2.2.2.1, w.2.2.2.2.1, w.2.2.2.2.2.1, w.2.2.2.2.2.2, ()) = some y := h2
    simp only [h1, h2, ok_node, ok_leaf, allA_cons, allA_one, allA_nil, true_and]
    rcases h3 with rfl | ⟨rfl, e⟩
    · simp [isL, getL]
    · simp [isL, getL, restR, e]
  exact hok
end Go.Proofs.YtkccnomdfkhfnaaGreat
