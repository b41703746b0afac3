/- What SeenHides makes and sees, written down; over data it holds. -/
import Derived.Test.YtkccnomdfkhfnaaSHP
set_option linter.unusedVariables false
set_option linter.unusedSimpArgs false
set_option maxRecDepth 100000
namespace Go.Proofs.Ytkccnomdfkhfnaa
open Go.RowKit Go.Proofs.Ytkccnomdfkhfnaa.Ev

abbrev wA : Str := [46, 119, 104, 46, 97]
theorem white_a : white sA = wA := by decide +kernel
abbrev dkA (k : Int) : Dkt := (9, 9, 3, [(1, 2, 493, 1, 0, [], [], [(sA, 2)]), (2, k, 0, 1, 0, [], [], [])])
abbrev dkW : Dkt := (9, 9, 3, [(1, 2, 493, 1, 0, [], [], [(wA, 2)]), (2, 1, 0, 1, 0, [], [], [])])
abbrev dkWA (k : Int) : Dkt := (9, 9, 4, [(1, 2, 493, 1, 0, [], [], [(wA, 3), (sA, 2)]), (2, k, 0, 1, 0, [], [], []), (3, 1, 0, 1, 0, [], [], [])])
def HD (has dir wh : Bool) : Dkt := match has, dir, wh with
  | false, _, false => dk0
  | false, _, true => dkW
  | true, false, false => dkA 1
  | true, true, false => dkA 2
  | true, false, true => dkWA 1
  | true, true, true => dkWA 2
theorem mkA {k : Int} (hk : k = 1 ∨ k = 2) : F15.pre (dk0, 1, sA, (0, k, 0, 0, 0, [], [], []), ()) ∧ F15.fn (dk0, 1, sA, (0, k, 0, 0, 0, [], [], []), ()) = (dkA k, 2, 0, ()) := by
  rcases hk with rfl | rfl
  · obtain ⟨h1, h2⟩ := F15_ok (d := dk0) (u := 1) (s := sA) (kind := 1) (SmD.of (okEB_wf _ _ (by decide +kernel))) (by decide +kernel) (by decide +kernel) (by decide +kernel) rfl rfl (by decide +kernel) (okEB_wf _ _ (by decide +kernel)) (SmD.of (okEB_wf _ _ (by decide +kernel))) (by decide +kernel) (by decide +kernel) (okEB_wf _ _ (by decide +kernel))
    have e : linkS (putS (moreS dk0) (newN dk0 1)) 1 sA 2 = dkA 1 := by rfl
    rw [show dk0.2.2.1 = 2 from rfl, e] at h2
    exact ⟨h1, h2⟩
  · obtain ⟨h1, h2⟩ := F15_ok (d := dk0) (u := 1) (s := sA) (kind := 2) (SmD.of (okEB_wf _ _ (by decide +kernel))) (by decide +kernel) (by decide +kernel) (by decide +kernel) rfl rfl (by decide +kernel) (okEB_wf _ _ (by decide +kernel)) (SmD.of (okEB_wf _ _ (by decide +kernel))) (by decide +kernel) (by decide +kernel) (okEB_wf _ _ (by decide +kernel))
    have e : linkS (putS (moreS dk0) (newN dk0 2)) 1 sA 2 = dkA 2 := by rfl
    rw [show dk0.2.2.1 = 2 from rfl, e] at h2
    exact ⟨h1, h2⟩
theorem mkW : F15.pre (dk0, 1, wA, (0, 1, 0, 0, 0, [], [], []), ()) ∧ F15.fn (dk0, 1, wA, (0, 1, 0, 0, 0, [], [], []), ()) = (dkW, 2, 0, ()) := by
  obtain ⟨h1, h2⟩ := F15_ok (d := dk0) (u := 1) (s := wA) (kind := 1) (SmD.of (okEB_wf _ _ (by decide +kernel))) (by decide +kernel) (by decide +kernel) (by decide +kernel) rfl rfl (by decide +kernel) (okEB_wf _ _ (by decide +kernel)) (SmD.of (okEB_wf _ _ (by decide +kernel))) (by decide +kernel) (by decide +kernel) (okEB_wf _ _ (by decide +kernel))
  have e : linkS (putS (moreS dk0) (newN dk0 1)) 1 wA 2 = dkW := by rfl
  rw [show dk0.2.2.1 = 2 from rfl, e] at h2
  exact ⟨h1, h2⟩
theorem mkWA {k : Int} (hk : k = 1 ∨ k = 2) : F15.pre (dkA k, 1, wA, (0, 1, 0, 0, 0, [], [], []), ()) ∧ F15.fn (dkA k, 1, wA, (0, 1, 0, 0, 0, [], [], []), ()) = (dkWA k, 3, 0, ()) := by
  rcases hk with rfl | rfl
  · obtain ⟨h1, h2⟩ := F15_ok (d := dkA 1) (u := 1) (s := wA) (kind := 1) (SmD.of (okEB_wf _ _ (by decide +kernel))) (by decide +kernel) (by decide +kernel) (by decide +kernel) rfl rfl (by decide +kernel) (okEB_wf _ _ (by decide +kernel)) (SmD.of (okEB_wf _ _ (by decide +kernel))) (by decide +kernel) (by decide +kernel) (okEB_wf _ _ (by decide +kernel))
    have e : linkS (putS (moreS (dkA 1)) (newN (dkA 1) 1)) 1 wA 3 = dkWA 1 := by rfl
    rw [show (dkA 1).2.2.1 = 3 from rfl, e] at h2
    exact ⟨h1, h2⟩
  · obtain ⟨h1, h2⟩ := F15_ok (d := dkA 2) (u := 1) (s := wA) (kind := 1) (SmD.of (okEB_wf _ _ (by decide +kernel))) (by decide +kernel) (by decide +kernel) (by decide +kernel) rfl rfl (by decide +kernel) (okEB_wf _ _ (by decide +kernel)) (SmD.of (okEB_wf _ _ (by decide +kernel))) (by decide +kernel) (by decide +kernel) (okEB_wf _ _ (by decide +kernel))
    have e : linkS (putS (moreS (dkA 2)) (newN (dkA 2) 1)) 1 wA 3 = dkWA 2 := by rfl
    rw [show (dkA 2).2.2.1 = 3 from rfl, e] at h2
    exact ⟨h1, h2⟩
structure InH (has dir wh : Bool) (d : Dkt) : Prop where
  good : GoodD d
  a : nameOf (getZ d 1) sA = if has then some 2 else none
  wa : (nameOf (getZ d 1) wA).isSome = wh
  k1 : (getZ d 1).2.1 = 2
  k2 : has = true → (getZ d 2).2.1 = if dir then 2 else 1
  opq : nameOf (getZ d 2) sOpq = none
  names : (ndNames (getZ d 1)).map (·.1) = (if wh then [wA] else []) ++ (if has then [sA] else [])
theorem inH (has dir wh : Bool) : InH has dir wh (HD has dir wh) := by
  cases has <;> cases dir <;> cases wh <;>
    exact ⟨goodB_ok (by decide +kernel), by decide +kernel, by decide +kernel, by decide +kernel, by decide +kernel, by decide +kernel, by decide +kernel⟩

/-! ## the world -/
structure Hs where
  ways : List Int
  att : Nat
  dirs : List Bool
  frm : Nat
def Hs.D (h : Hs) (j : Nat) : Dkt := HD (decide (h.frm ≤ j)) (h.dirs.getD j false) (decide (j = h.att))
def Hs.W (h : Hs) : Wdt := (h.ways, 1, (List.range h.ways.length).map h.D, 0, [], [], 0)
def Hs.heed (h : Hs) : Bool := h.ways.getD h.att 0 != 2
theorem Hs.len (h : Hs) : (wDisks h.W).length = h.ways.length := by
  show ((List.range h.ways.length).map h.D).length = _
  rw [List.length_map, List.length_range]
theorem Hs.good (h : Hs) (h8 : h.ways.length ≤ 8) : GoodW h.W := by
  refine ⟨by rw [h.len]; exact h8, by show h.ways.length < _; omega, fun d hd => ?_⟩
  obtain ⟨j, hj, rfl⟩ := List.mem_map.1 (show d ∈ (List.range h.ways.length).map h.D from hd)
  exact (inH _ _ _).good
theorem Hs.dk_at (h : Hs) {j : Nat} (hj : j < h.ways.length) (u : Int) : dkOf h.W ((j : Int), u) = h.D j := by
  have hl : j < (wDisks h.W).length := by rw [h.len]; exact hj
  refine (show dkOf h.W ((j : Int), u) = @id Dkt (xsAt Dk (wDisks h.W) j) from rfl).trans ((xsAt_lt (e := Dk) hl).trans ?_)
  show ((List.range h.ways.length).map h.D)[j]'(by rw [List.length_map, List.length_range]; exact hj) = _
  rw [List.getElem_map, List.getElem_range]
theorem Hs.node_at (h : Hs) {j : Nat} (hj : j < h.ways.length) (u : Int) : nodeZ h.W ((j : Int), u) = getZ (h.D j) u := by
  unfold nodeZ; rw [h.dk_at hj]
theorem Hs.inD (h : Hs) (j : Nat) : InH (decide (h.frm ≤ j)) (h.dirs.getD j false) (decide (j = h.att)) (h.D j) := inH _ _ _
/-- the ways are such -/
structure Hs.Ok (h : Hs) : Prop where
  n8 : h.ways.length ≤ 8
  at_lt : h.att < h.ways.length
  frm_le : h.frm ≤ h.ways.length
  ways : ∀ i (hi : i < h.ways.length), 1 ≤ h.ways[i] ∧ h.ways[i] ≤ 3
theorem Hs.Ok.heeds {h : Hs} (k : h.Ok) : heeds h.ways (h.att : Int) = h.heed := by
  obtain ⟨h1, h2⟩ := k.ways h.att k.at_lt
  rw [heeds_at k.at_lt h1 h2]
  unfold Hs.heed
  rw [List.getD_eq_getElem?_getD, List.getElem?_eq_getElem k.at_lt]; rfl
theorem Hs.Ok.sign_w {h : Hs} (k : h.Ok) {j : Nat} (hj : j < h.ways.length) : sign h.W ((j : Int), 1) (white sA) = (decide (j = h.att) && h.heed) := by
  unfold sign
  rw [h.node_at hj, white_a, (h.inD j).wa, (h.inD j).k1]
  cases hja : decide (j = h.att) with
  | false => rfl
  | true =>
    have := of_decide_eq_true hja
    subst this
    have : Go.Proofs.Ytkccnomdfkhfnaa.heeds h.ways (h.att : Int) = h.heed := k.heeds
    show (true && (true && Go.Proofs.Ytkccnomdfkhfnaa.heeds h.ways (h.att : Int))) = _
    rw [this]; rfl
theorem Hs.sign_o (h : Hs) {j : Nat} (hj : j < h.ways.length) : sign h.W ((j : Int), 2) sOpq = false := by
  unfold sign
  rw [h.node_at hj, (h.inD j).opq]; rfl

abbrev spots (u : Int) (l : List Nat) : List Spt := l.map fun (i : Nat) => ((i : Int), u)
/-- what the law wants, from a branch on -/
def Hs.want (h : Hs) : Nat → Nat → List Spt → List Spt
  | 0, _, l => l
  | m + 1, j, l => bif (decide (0 < l.length) && !(h.dirs.getD j false)) || (h.heed && decide (h.att < j)) then l
      else bif !(h.dirs.getD j false) then l ++ [((j : Int), 2)] else h.want m (j + 1) (l ++ [((j : Int), 2)])
theorem Hs.want_stop (h : Hs) (hh : h.heed = true) {j : Nat} (hj : h.att < j) : ∀ (m : Nat) (l : List Spt), h.want m j l = l
  | 0, l => rfl
  | m + 1, l => by
    unfold Hs.want
    rw [hh, decide_eq_true hj]
    simp
theorem Hs.Ok.scan_step {h : Hs} (k : h.Ok) {j : Nat} (hj : j < h.ways.length) (l : List Spt) : scanB h.W sA l ((j : Int), 1) =
    bif decide (h.frm ≤ j) then
      (bif h.dirs.getD j false then (bif decide (j = h.att) && h.heed then .inr (l ++ [((j : Int), 2)], (j : Int)) else .inl (l ++ [((j : Int), 2)]))
        else .inr (bif (Int.ofNat l.length) == 0 then l ++ [((j : Int), 2)] else l, (j : Int) - 1))
    else bif decide (j = h.att) && h.heed then .inr (l, (j : Int)) else .inl l := by
  have D := h.inD j
  unfold scanB
  rw [h.node_at hj, D.a]
  cases hf : decide (h.frm ≤ j) with
  | false =>
    simp only [Bool.false_eq_true, if_false, cond_false]
    rw [k.sign_w hj]
  | true =>
    simp only [if_true, cond_true]
    rw [h.node_at hj, D.k2 (by rw [hf])]
    cases hd : h.dirs.getD j false with
    | false => rfl
    | true =>
      simp only [if_true, cond_true]
      rw [h.sign_o hj, k.sign_w hj]
      rfl
theorem scan_cons (h : Hs) (j m : Nat) (l : List Spt) : scanS h.W sA (spots 1 (List.range' j (m + 1))) l = match scanB h.W sA l ((j : Int), 1) with
    | .inl l' => scanS h.W sA (spots 1 (List.range' (j + 1) m)) l'
    | .inr y => y := by
  rw [List.range'_succ]; rfl
theorem Hs.Ok.scan_want {h : Hs} (k : h.Ok) : ∀ (m j : Nat) (l : List Spt), j + m = h.ways.length → h.frm ≤ j → (h.heed = true → j ≤ h.att) → (scanS h.W sA (spots 1 (List.range' j m)) l).1 = h.want m j l
  | 0, j, l, _, _, _ => rfl
  | m + 1, j, l, hm, hf, ha => by
    rw [scan_cons, k.scan_step (by omega)]
    unfold Hs.want
    rw [decide_eq_true hf]
    simp only [cond_true]
    have c1 : (h.heed && decide (h.att < j)) = false := by
      cases hh : h.heed with
      | false => rfl
      | true => have := ha hh; simp; omega
    rw [c1, Bool.or_false]
    cases hd : h.dirs.getD j false with
    | false =>
      simp only [cond_false, Bool.not_false, Bool.and_true, cond_true]
      rcases l with _ | ⟨x, l⟩
      · rfl
      · have e : (Int.ofNat (x :: l).length == 0) = false := by rw [Int.ofNat_eq_natCast]; simp only [List.length_cons]; exact beq_eq_false_iff_ne.2 (by omega)
        rw [e]; simp
    | true =>
      simp only [cond_true, Bool.not_true, Bool.and_false, cond_false]
      cases hs : (decide (j = h.att) && h.heed) with
      | true =>
        simp only [Bool.and_eq_true, decide_eq_true_eq] at hs
        simp only [cond_true]
        rw [h.want_stop hs.2 (by omega)]
      | false =>
        simp only [cond_false]
        refine k.scan_want m (j + 1) _ (by omega) (by omega) fun hh => ?_
        have := ha hh
        rw [hh, Bool.and_true] at hs
        have := of_decide_eq_false hs
        omega
theorem Hs.Ok.scan_all {h : Hs} (k : h.Ok) : ∀ (m j : Nat), j + m = h.ways.length → j ≤ h.frm → (h.heed = true → j ≤ h.att) → (scanS h.W sA (spots 1 (List.range' j m)) []).1 = h.want (h.ways.length - h.frm) h.frm []
  | 0, j, hm, hf, ha => by
    have : h.ways.length - h.frm = 0 := by omega
    rw [this]; rfl
  | m + 1, j, hm, hf, ha => by
    rcases Nat.lt_or_ge j h.frm with g | g
    · rw [scan_cons, k.scan_step (by omega), decide_eq_false (by omega)]
      simp only [cond_false]
      cases hs : (decide (j = h.att) && h.heed) with
      | true =>
        simp only [Bool.and_eq_true, decide_eq_true_eq] at hs
        simp only [cond_true]
        rw [h.want_stop hs.2 (by omega)]
      | false =>
        simp only [cond_false]
        refine k.scan_all m (j + 1) (by omega) (by omega) fun hh => ?_
        have := ha hh
        rw [hh, Bool.and_true] at hs
        have := of_decide_eq_false hs
        omega
    · have e : j = h.frm := by have := k.frm_le; omega
      subst e
      rw [k.scan_want (m + 1) h.frm [] hm (Nat.le_refl _) ha]
      congr 1
      omega
abbrev Hs.see (h : Hs) : List Spt := h.want (h.ways.length - h.frm) h.frm []
theorem Hs.Ok.seen {h : Hs} (k : h.Ok) : (scanS h.W sA (spots 1 (List.range' 0 h.ways.length)) []).1 = h.see := k.scan_all _ 0 (by omega) (Nat.zero_le _) (fun _ => Nat.zero_le _)
theorem kept_w : kept wA = true := by decide +kernel
theorem kept_a : kept sA = false := by decide +kernel
theorem one_rise : Rise [sA] := List.pairwise_singleton _ _
theorem Hs.Ok.names_are {h : Hs} (k : h.Ok) : ((Lib.compact (F21.fn (namesS h.W (spots 1 (List.range' 0 h.ways.length))))).filter fun x => !goneB h.W (spots 1 (List.range' 0 h.ways.length)) x) = if h.see.length = 0 then [] else [sA] := by
  rw [names_same]
  have hga : goneB h.W (spots 1 (List.range' 0 h.ways.length)) sA = (Int.ofNat h.see.length == 0) := by
    unfold goneB; rw [kept_a, k.seen]; rfl
  have hmem : ∀ z, z ∈ namesS h.W (spots 1 (List.range' 0 h.ways.length)) ↔ ∃ j, j < h.ways.length ∧ ((z = wA ∧ j = h.att) ∨ (z = sA ∧ h.frm ≤ j)) := by
    intro z
    unfold namesS
    rw [List.mem_flatMap]
    constructor
    · rintro ⟨d, hd, hz⟩
      obtain ⟨j, hj, rfl⟩ := List.mem_map.1 hd
      have hj := (List.mem_range'_1.1 hj).2
      rw [h.node_at (show j < h.ways.length by omega), (h.inD j).names] at hz
      refine ⟨j, by omega, ?_⟩
      rcases List.mem_append.1 hz with hz | hz
      · split at hz
        · rename_i hc; exact .inl ⟨List.mem_singleton.1 hz, of_decide_eq_true hc⟩
        · cases hz
      · split at hz
        · rename_i hc; exact .inr ⟨List.mem_singleton.1 hz, of_decide_eq_true hc⟩
        · cases hz
    · rintro ⟨j, hj, hz⟩
      refine ⟨((j : Int), 1), List.mem_map.2 ⟨j, List.mem_range'_1.2 ⟨Nat.zero_le _, by omega⟩, rfl⟩, ?_⟩
      rw [h.node_at hj, (h.inD j).names]
      rcases hz with ⟨rfl, hc⟩ | ⟨rfl, hc⟩
      · rw [if_pos (decide_eq_true hc)]; simp
      · rw [if_pos (decide_eq_true hc)]; simp
  refine rise_ext _ _ (foldN_rise _ _ _ [] List.Pairwise.nil) (by split; exact List.Pairwise.nil; exact one_rise) fun z => ?_
  rw [foldN_mem]
  simp only [List.not_mem_nil, false_or]
  rw [hmem]
  constructor
  · rintro ⟨⟨j, hj, ⟨rfl, hc⟩ | ⟨rfl, hc⟩⟩, hg⟩
    · unfold goneB at hg; rw [kept_w] at hg; cases hg
    · rw [hga, Int.ofNat_eq_natCast] at hg
      have := beq_eq_false_iff_ne.1 hg
      rw [if_neg (by omega)]; exact List.mem_singleton.2 rfl
  · intro hz
    split at hz
    · cases hz
    · rename_i hne
      rw [List.mem_singleton] at hz
      subst hz
      refine ⟨⟨h.frm, ?_, .inr ⟨rfl, Nat.le_refl _⟩⟩, by rw [hga, Int.ofNat_eq_natCast]; exact beq_eq_false_iff_ne.2 (by omega)⟩
      rcases Nat.lt_or_ge h.frm h.ways.length with g | g
      · exact g
      · exact absurd (by unfold Hs.see; rw [show h.ways.length - h.frm = 0 by omega]; rfl) hne

theorem F14s_ok {c : Cft} (hl : c.1.length < 2305843009213693952) : F14.pre (c, ()) ∧ ∃ b, F14.fn (c, ()) = (b, ()) ∧ (b = true → ∀ i (h : i < c.1.length), 1 ≤ c.1[i] ∧ c.1[i] ≤ 3) := by
  obtain ⟨h1, y, h2, h3⟩ := loopP (tr := F14L0) (fun x => ∃ i : Nat, x = ((), (i : Int), c.1, c.2, ()) ∧ i ≤ c.1.length ∧ ∀ j (h : j < c.1.length), j < i → 1 ≤ c.1[j] ∧ c.1[j] ≤ 3) (fun x => (x.2.2.1.length - x.2.1).toNat)
    (fun y => y = .inl (false, ()) ∨ (y = .inr (.inl ((), c.1, c.2, ())) ∧ ∀ j (h : j < c.1.length), 1 ≤ c.1[j] ∧ c.1[j] ≤ 3)) (by
    rintro _ ⟨i, rfl, hi, hR⟩
    rcases Nat.lt_or_ge i c.1.length with g | g
    · have hi3 : (i : Int) < Int.ofNat c.1.length := by rw [Int.ofNat_eq_natCast]; omega
      have hw : @id Int (xsAt (.one (.int .i64)) c.1 i) = c.1[i] := xsAt_lt g
      unfold F14L0
      simp only [Int.toNat_natCast, hw, hi3, decide_true, ok_node, ok_leaf, allA_cons, allA_one, allA_nil, true_and, and_true, Int.natCast_nonneg, forall_const, Bool.true_eq_false, false_implies, wrp_succ (show i < 4611686018427387904 by omega)]
      refine ⟨fun _ => .inl trivial, fun q1 => ⟨fun _ => .inl trivial, fun q2 => ⟨⟨i + 1, rfl, g, fun j hj hji => ?_⟩, by omega⟩⟩⟩
      rcases Nat.lt_or_ge j i with z | z
      · exact hR j hj z
      · have : j = i := by omega
        subst this
        have := of_decide_eq_false q1
        have := of_decide_eq_false q2
        exact ⟨by omega, by omega⟩
    · have : i = c.1.length := by omega
      subst this
      unfold F14L0
      simp only [ok_node, ok_leaf, allA_nil, true_and, Int.ofNat_eq_natCast, Int.lt_irrefl, decide_false, Bool.false_eq_true, false_implies, forall_const]
      exact .inr (fun j h => hR j h h))
    _ ⟨0, rfl, Nat.zero_le _, fun j _ h => absurd h (Nat.not_lt_zero _)⟩
  have hok : (F14 (c, ())).Ok (fun r => ∃ b, r = (b, ()) ∧ (b = true → ∀ i (h : i < c.1.length), 1 ≤ c.1[i] ∧ c.1[i] ≤ 3)) := by
    unfold F14
    have h1 : loopInv F14L0 ((), (0 : Int), c.1, c.2, ()) := h1
    have h2 : loopOut F14L0 ((), (0 : Int), c.1, c.2, ()) = some y := h2
    simp only [h1, h2, ok_node, ok_leaf, allA_cons, allA_one, allA_nil, true_and, decide_eq_true_eq, decide_eq_false_iff_not]
    rcases h3 with rfl | ⟨rfl, hall⟩
    · refine ⟨fun _ => ⟨false, rfl, fun h => by cases h⟩, fun hL => by simp [isL] at hL⟩
    · refine ⟨fun hL => by simp [isL] at hL, fun _ => ?_⟩
      simp only [getL, restR]
      exact ⟨fun h => ⟨fun _ => ⟨⟨by omega, by rw [Int.ofNat_eq_natCast] at h ⊢; omega⟩, fun _ => ⟨fun _ => ⟨_, rfl, fun _ => hall⟩, fun _ => ⟨_, rfl, fun _ => hall⟩⟩, fun _ => ⟨_, rfl, fun _ => hall⟩⟩, fun _ => ⟨_, rfl, fun _ => hall⟩⟩, fun _ => ⟨_, rfl, fun _ => hall⟩⟩
  exact hok
theorem F16a : F16.pre (sA, ()) ∧ F16.fn (sA, ()) = (wA, ()) := by
  obtain ⟨h1, h2⟩ := F16_ok (x := sA) (by decide)
  rw [white_a] at h2
  exact ⟨h1, h2⟩
abbrev st4 (h : Hs) (i : Nat) : List (Int) × Int × List (Bool) × Int × Unit × Int × List (Int) × Int × List Dkt × Int × Unit × Unit × Int × Unit :=
  (h.ways, (h.att : Int), h.dirs, (h.frm : Int), (), (i : Int), h.ways, 1, (List.range i).map h.D, 0, (), (), 0, ())
theorem F4L0_ok (h : Hs) (h8 : h.ways.length ≤ 8) (hd : h.dirs.length = h.ways.length) :
    loopInv F4L0 (st4 h 0) ∧ loopOut F4L0 (st4 h 0) = some (.inl (h.ways, (h.att : Int), h.dirs, (h.frm : Int), (), h.ways, 1, (List.range h.ways.length).map h.D, 0, (), (), 0, ())) := by
  obtain ⟨a1, y, a2, a3⟩ := loopP (tr := F4L0) (fun x => ∃ i : Nat, x = st4 h i ∧ i ≤ h.ways.length) (fun x => (h.ways.length - x.2.2.2.2.2.1).toNat)
    (fun y => y = .inl (h.ways, (h.att : Int), h.dirs, (h.frm : Int), (), h.ways, 1, (List.range h.ways.length).map h.D, 0, (), (), 0, ())) (by
    rintro _ ⟨i, rfl, hi⟩
    rcases Nat.lt_or_ge i h.ways.length with g | g
    · have gc : i < h.dirs.length := by omega
      have hc : @id Bool (xsAt (.one .bool) h.dirs i) = h.dirs[i] := xsAt_lt gc
      have hcd : h.dirs.getD i false = h.dirs[i] := by simp [List.getD_eq_getElem?_getD, gc]
      have hi3 : (i : Int) < Int.ofNat (List.length h.ways) := by rw [Int.ofNat_eq_natCast]; omega
      have hi4 : (i : Int) < Int.ofNat (List.length h.dirs) := by rw [Int.ofNat_eq_natCast]; omega
      obtain ⟨p5, q5⟩ := F5_is
      obtain ⟨pa1, qa1⟩ := mkA (k := 1) (.inl rfl)
      obtain ⟨pa2, qa2⟩ := mkA (k := 2) (.inr rfl)
      obtain ⟨pb1, qb1⟩ := mkWA (k := 1) (.inl rfl)
      obtain ⟨pb2, qb2⟩ := mkWA (k := 2) (.inr rfl)
      obtain ⟨pw, qw⟩ := mkW
      obtain ⟨p16, q16⟩ := F16a
      have htk : ∀ D, h.D i = D → (List.range i).map h.D ++ [D] = (List.range (i + 1)).map h.D := by
        rintro _ rfl; rw [List.range_succ, List.map_append]; rfl
      have hlen : ∀ D : Dkt, (List.length ((List.range i).map h.D ++ (D :: []))) * 48 ≤ Room := by
        intro D
        rw [List.length_append, List.length_map, List.length_range]; simp only [List.length_cons, List.length_nil]; unfold Room; omega
      have hm : ((h.ways.length : Int) - ((i + 1 : Nat) : Int)).toNat < ((h.ways.length : Int) - (i : Int)).toNat := by omega
      unfold F4L0
      simp only [Int.toNat_natCast, hc, e0, e1, q5, p5, qa1, pa1, qa2, pa2, qb1, pb1, qb2, pb2, qw, pw, q16, p16, hi3, hi4, hlen, decide_true, Int.natCast_nonneg, ok_node, ok_leaf, ok_req, allA_cons, allA_one, allA_nil, true_and, and_true, forall_const, Bool.true_eq_false, false_implies, wrp_succ (show i < 4611686018427387904 by omega)]
      have fin : ∀ D, h.D i = D → (∃ i_1 : Nat, (h.ways, (h.att : Int), h.dirs, (h.frm : Int), (), ((i + 1 : Nat) : Int), h.ways, (1 : Int), (List.range i).map h.D ++ [D], (0 : Int), (), (), (0 : Int), ()) = st4 h i_1 ∧ i_1 ≤ h.ways.length) ∧ ((h.ways.length : Int) - ((i + 1 : Nat) : Int)).toNat < ((h.ways.length : Int) - (i : Int)).toNat := by
        intro D e
        rw [htk D e]
        exact ⟨⟨i + 1, rfl, g⟩, hm⟩
      have hD : ∀ a b c, decide (h.frm ≤ i) = a → h.dirs[i] = b → decide (i = h.att) = c → h.D i = HD a b c := by
        rintro _ _ _ rfl rfl rfl; unfold Hs.D; rw [hcd]
      have ge : ∀ {b : Bool}, decide ((i : Int) ≥ (h.frm : Int)) = b → decide (h.frm ≤ i) = b := by
        rintro _ rfl; exact decide_eq_decide.2 (by omega)
      have eq : ∀ {b : Bool}, ((i : Int) == (h.att : Int)) = b → decide (i = h.att) = b := by
        rintro _ rfl
        rw [Bool.eq_iff_iff, decide_eq_true_eq, beq_iff_eq]; omega
      refine ⟨fun f => ⟨fun b => ⟨fun c => fin _ (hD _ _ _ (ge f) b (eq c)), fun c => fin _ (hD _ _ _ (ge f) b (eq c))⟩, fun b => ⟨fun c => fin _ (hD _ _ _ (ge f) b (eq c)), fun c => fin _ (hD _ _ _ (ge f) b (eq c))⟩⟩, fun f => ⟨fun c => fin _ ?_, fun c => fin _ ?_⟩⟩
      · rw [hD _ _ _ (ge f) rfl (eq c)]; cases h.dirs[i] <;> rfl
      · rw [hD _ _ _ (ge f) rfl (eq c)]; cases h.dirs[i] <;> rfl
    · have : i = h.ways.length := by omega
      subst this
      have hi3 : ¬ ((h.ways.length : Int) < Int.ofNat (List.length h.ways)) := Int.lt_irrefl _
      unfold F4L0
      simp only [ok_node, ok_leaf, allA_nil, true_and, decide_eq_false hi3, Bool.false_eq_true, false_implies, forall_const])
    _ ⟨0, rfl, Nat.zero_le _⟩
  subst a3
  exact ⟨a1, a2⟩
theorem Hs.want_succ (h : Hs) (m j : Nat) (l : List Spt) : h.want (m + 1) j l = bif (decide (0 < l.length) && !(h.dirs.getD j false)) || (h.heed && decide (h.att < j)) then l
      else bif !(h.dirs.getD j false) then l ++ [((j : Int), 2)] else h.want m (j + 1) (l ++ [((j : Int), 2)]) := rfl
abbrev st5 (h : Hs) (l : List Spt) (i : Nat) : List (Int) × Int × List (Bool) × Unit × Bool × List Spt × Int × List (Int) × Int × List Dkt × Int × Unit × Unit × Int × Unit :=
  (h.ways, (h.att : Int), h.dirs, (), h.heed, l, (i : Int), h.ways, 1, (List.range h.ways.length).map h.D, 0, (), (), 0, ())
theorem F4L1_ok (h : Hs) (h8 : h.ways.length ≤ 8) (hd : h.dirs.length = h.ways.length) (hf : h.frm ≤ h.ways.length) :
    loopInv F4L1 (st5 h [] h.frm) ∧ loopOut F4L1 (st5 h [] h.frm) = some (.inl ((), h.see, h.ways, 1, (List.range h.ways.length).map h.D, 0, (), (), 0, ())) := by
  obtain ⟨a1, y, a2, a3⟩ := loopP (tr := F4L1) (fun x => ∃ (i : Nat) (l : List Spt), x = st5 h l i ∧ i ≤ h.ways.length ∧ l.length ≤ i ∧ h.want (h.ways.length - i) i l = h.see) (fun x => (h.ways.length - x.2.2.2.2.2.2.1).toNat)
    (fun y => y = .inl ((), h.see, h.ways, 1, (List.range h.ways.length).map h.D, 0, (), (), 0, ())) (by
    rintro _ ⟨i, l, rfl, hi, hl, hR⟩
    rcases Nat.lt_or_ge i h.ways.length with g | g
    · have gc : i < h.dirs.length := by omega
      have hc : @id Bool (xsAt (.one .bool) h.dirs i) = h.dirs[i] := xsAt_lt gc
      have hcd : h.dirs.getD i false = h.dirs[i] := by simp [List.getD_eq_getElem?_getD, gc]
      have hi3 : (i : Int) < Int.ofNat (List.length h.ways) := by rw [Int.ofNat_eq_natCast]; omega
      have hi4 : (i : Int) < Int.ofNat (List.length h.dirs) := by rw [Int.ofNat_eq_natCast]; omega
      have hroom : (List.length (l ++ (((i : Int), (2 : Int)) :: []))) * 16 ≤ Room := by
        rw [List.length_append]; simp only [List.length_cons, List.length_nil]; unfold Room; omega
      have hm : ((h.ways.length : Int) - ((i + 1 : Nat) : Int)).toNat < ((h.ways.length : Int) - (i : Int)).toNat := by omega
      have hsub : h.ways.length - i = (h.ways.length - (i + 1)) + 1 := by omega
      rw [hsub] at hR
      rw [h.want_succ, hcd] at hR
      have hpos : ∀ {b : Bool}, decide ((Int.ofNat (List.length l)) > (0 : Int)) = b → decide (0 < l.length) = b := by
        rintro _ rfl; rw [Int.ofNat_eq_natCast]; exact decide_eq_decide.2 (by omega)
      have hat : ∀ {b : Bool}, decide ((i : Int) > (h.att : Int)) = b → decide (h.att < i) = b := by
        rintro _ rfl; exact decide_eq_decide.2 (by omega)
      have hl2 : (l ++ [((i : Int), (2 : Int))]).length ≤ i + 1 := by simp; omega
      have out : ∀ z, z = h.see → (Sum.inl ((), z, h.ways, (1 : Int), (List.range h.ways.length).map h.D, (0 : Int), (), (), (0 : Int), ()) : (Unit × List Spt × List (Int) × Int × List Dkt × Int × Unit × Unit × Int × Unit) ⊕ Empty) = .inl ((), h.see, h.ways, 1, (List.range h.ways.length).map h.D, 0, (), (), 0, ()) := by
        rintro _ rfl; rfl
      unfold F4L1
      simp only [Int.toNat_natCast, hc, hi3, hi4, hroom, decide_true, Int.natCast_nonneg, ok_node, ok_leaf, ok_req, allA_cons, allA_one, allA_nil, true_and, and_true, forall_const, Bool.true_eq_false, false_implies, wrp_succ (show i < 4611686018427387904 by omega)]
      refine ⟨fun b0 => ⟨fun b1 => ?_, fun b1 => ⟨fun b2 => ⟨fun b3 => ?_, fun b3 => ⟨b1, ?_⟩⟩, fun b2 => ⟨b1, ?_⟩⟩⟩, fun b0 => ⟨fun b2 => ⟨fun b3 => ?_, fun b3 => ⟨fun b1 => ?_, fun b1 => ?_⟩⟩, fun b2 => ⟨fun b1 => ?_, fun b1 => ?_⟩⟩⟩
      all_goals
        have q0 := hpos b0
        try have q3 := hat b3
        rw [q0] at hR
        try rw [b1] at hR
        try rw [b2] at hR
        try rw [q3] at hR
        simp only [Bool.true_and, Bool.false_and, Bool.true_or, Bool.false_or, Bool.or_false, Bool.or_true, Bool.and_true, Bool.and_false, cond_true, cond_false] at hR
        first
          | exact out _ hR
          | exact ⟨⟨i + 1, _, rfl, g, hl2, hR⟩, hm⟩
          | skip
    · have : i = h.ways.length := by omega
      subst this
      have hi3 : ¬ ((h.ways.length : Int) < Int.ofNat (List.length h.ways)) := Int.lt_irrefl _
      rw [Nat.sub_self] at hR
      unfold F4L1
      simp only [ok_node, ok_leaf, allA_nil, true_and, decide_eq_false hi3, Bool.false_eq_true, false_implies, forall_const]
      have : l = h.see := hR
      rw [this])
    _ ⟨h.frm, [], rfl, hf, Nat.zero_le _, rfl⟩
  subst a3
  exact ⟨a1, a2⟩

theorem Hs.want_len (h : Hs) : ∀ (m j : Nat) (l : List Spt), (h.want m j l).length ≤ l.length + m
  | 0, j, l => Nat.le_refl _
  | m + 1, j, l => by
    rw [h.want_succ]
    have ih := h.want_len m (j + 1) (l ++ [((j : Int), 2)])
    have e : (l ++ [((j : Int), (2 : Int))]).length = l.length + 1 := by simp
    rw [e] at ih
    cases (decide (0 < l.length) && !(h.dirs.getD j false)) || (h.heed && decide (h.att < j))
    · cases !(h.dirs.getD j false)
      · simp only [cond_false]; omega
      · simp only [cond_true, cond_false]; rw [e]; omega
    · simp only [cond_true]; omega
theorem law4 (ways : List Int) (at_ : Int) (dirs : List Bool) (frm : Int) : F4.pre (ways, at_, dirs, frm, ()) ∧ F4.fn (ways, at_, dirs, frm, ()) = (true, ()) := by
  have hok : (F4 (ways, at_, dirs, frm, ())).Ok (· = (true, ())) := by
    unfold F4
    simp only [ok_node, ok_leaf, allA_cons, allA_one, allA_nil, true_and]
    refine ⟨fun _ => trivial, fun q1 => ⟨fun _ => trivial, fun q2 => ⟨fun _ => trivial, fun q3 => ⟨fun _ => trivial, fun q4 => ⟨fun _ => trivial, fun q5 => ⟨fun _ => trivial, fun q6 => ⟨fun _ => trivial, fun q7 => ?_⟩⟩⟩⟩⟩⟩⟩
    have n1 : 1 ≤ ways.length := by have := of_decide_eq_false q1; rw [Int.ofNat_eq_natCast] at this; omega
    have n8 : ways.length ≤ 8 := by have := of_decide_eq_false q2; rw [Int.ofNat_eq_natCast] at this; omega
    have nl : dirs.length = ways.length := by
      have := bne_eq_false_iff_eq.1 q3
      rw [Int.ofNat_eq_natCast, Int.ofNat_eq_natCast] at this; omega
    have ha0 : 0 ≤ at_ := by have := of_decide_eq_false q4; omega
    have ha1 : at_ < (ways.length : Int) := by have := of_decide_eq_false q5; rw [Int.ofNat_eq_natCast] at this; omega
    have hf0 : 0 ≤ frm := by have := of_decide_eq_false q6; omega
    have hf1 : frm ≤ (ways.length : Int) := by have := of_decide_eq_false q7; rw [Int.ofNat_eq_natCast] at this; omega
    obtain ⟨a, rfl⟩ := Int.eq_ofNat_of_zero_le ha0
    obtain ⟨f, rfl⟩ := Int.eq_ofNat_of_zero_le hf0
    obtain ⟨p14, b, q14, hb⟩ := F14s_ok (c := (ways, 1)) (by show ways.length < _; omega)
    refine ⟨p14, ?_⟩
    rw [q14]
    cases b with
    | false => exact ⟨fun _ => trivial, fun h => absurd h (by simp)⟩
    | true =>
      refine ⟨fun h => absurd h (by simp), fun _ => ?_⟩
      have hw := hb rfl
      obtain ⟨h, hh⟩ : ∃ h : Hs, h = ⟨ways, a, dirs, f⟩ := ⟨_, rfl⟩
      have hx1 : h.ways = ways := by rw [hh]
      have hx2 : h.att = a := by rw [hh]
      have hx3 : h.dirs = dirs := by rw [hh]
      have hx4 : h.frm = f := by rw [hh]
      have k : h.Ok := ⟨by rw [hx1]; exact n8, by rw [hx1, hx2]; omega, by rw [hx1, hx4]; omega, by rw [hx1]; exact hw⟩
      obtain ⟨i1, o1⟩ := F4L0_ok h k.n8 (by rw [hx1, hx3]; exact nl)
      obtain ⟨i2, o2⟩ := F4L1_ok h k.n8 (by rw [hx1, hx3]; exact nl) k.frm_le
      rw [← hx1, ← hx2, ← hx3, ← hx4]
      have i1 : loopInv F4L0 (h.ways, (h.att : Int), h.dirs, (h.frm : Int), (), (0 : Int), h.ways, (1 : Int), [], (0 : Int), (), (), (0 : Int), ()) := i1
      have o1 : loopOut F4L0 (h.ways, (h.att : Int), h.dirs, (h.frm : Int), (), (0 : Int), h.ways, (1 : Int), [], (0 : Int), (), (), (0 : Int), ()) = some (.inl (h.ways, (h.att : Int), h.dirs, (h.frm : Int), (), h.ways, 1, (List.range h.ways.length).map h.D, 0, (), (), 0, ())) := o1
      have hheed : (@id Int (xsAt (.one (.int .i64)) h.ways h.att) != (2 : Int)) = h.heed := rfl
      have i2 : loopInv F4L1 (h.ways, (h.att : Int), h.dirs, (), h.heed, [], (h.frm : Int), h.ways, 1, (List.range h.ways.length).map h.D, 0, (), (), 0, ()) := i2
      have o2 : loopOut F4L1 (h.ways, (h.att : Int), h.dirs, (), h.heed, [], (h.frm : Int), h.ways, 1, (List.range h.ways.length).map h.D, 0, (), (), 0, ()) = some (.inl ((), h.see, h.ways, 1, (List.range h.ways.length).map h.D, 0, (), (), 0, ())) := o2
      have hW : ((h.ways, 1, List.map h.D (List.range h.ways.length), 0, [], [], 0) : Wdt) = h.W := rfl
      have hlen := h.len
      have hg := h.good k.n8
      have hr : rootsS (wDisks h.W).length = spots 1 (List.range' 0 h.ways.length) := by rw [hlen]; unfold rootsS; rw [List.range_eq_range']
      have hs := rootsS_ok (w := h.W)
      obtain ⟨p9, q9⟩ := F9_ok (w := h.W) (by rw [hlen]; exact k.n8)
      rw [hr] at q9 hs
      have hl1 : (spots 1 (List.range' 0 h.ways.length)).length ≤ 1000 := by rw [List.length_map, List.length_range']; have := k.n8; omega
      obtain ⟨p10, q10⟩ := F10_ok hg (name := sA) (by decide) hs hl1
      rw [k.seen] at q10
      obtain ⟨p11, q11⟩ := F11_ok hg hs hl1
      rw [k.names_are] at q11
      have hs0 : (h.want (h.ways.length - h.frm) h.frm []).length ≤ 0 + (h.ways.length - h.frm) := h.want_len (h.ways.length - h.frm) h.frm []
      have hsl : h.see.length ≤ 8 := Nat.le_trans hs0 (by have := k.n8; omega)
      obtain ⟨p17, q17⟩ := F17_ok (xs := h.see) (by omega)
      obtain ⟨p13, q13⟩ := F13_ok
      have ha2 : (h.att : Int) < Int.ofNat (List.length h.ways) := by rw [Int.ofNat_eq_natCast]; exact Int.ofNat_lt.2 k.at_lt
      have hb1 : ((Int.ofNat (List.length (if h.see.length = 0 then [] else [sA] : List Str)) == (1 : Int)) == decide (Int.ofNat (List.length h.see) > (0 : Int))) = true := by
        cases hz : h.see with
        | nil => rfl
        | cons x r => rw [if_neg (by simp)]; rw [Int.ofNat_eq_natCast (n := (x :: r).length)]; rw [decide_eq_true (by simp only [List.length_cons]; omega)]; rfl
      simp only [Int.toNat_natCast, i1, o1, getL, hheed, i2, o2, hW, e1, q9, p9, q10, p10, q11, p11, q17, p17, q13, p13, hb1, ha2, Int.natCast_nonneg, true_and, and_true, forall_const, Bool.true_eq_false, false_implies]
  exact hok
end Go.Proofs.Ytkccnomdfkhfnaa
