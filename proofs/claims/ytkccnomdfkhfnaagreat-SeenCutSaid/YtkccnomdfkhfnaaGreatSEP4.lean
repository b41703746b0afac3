/- What is seen: names, covers, roots. -/
import Derived.Test.YtkccnomdfkhfnaaGreatSEP3
set_option linter.unusedVariables false
set_option linter.unusedSimpArgs false
namespace Go.Proofs.YtkccnomdfkhfnaaGreat
open Go.RowKit Go.Proofs.YtkccnomdfkhfnaaGreat.Ev

def coverS (w : Wdt) (name : Str) : List Spt → Int
  | [] => Int.ofNat (wDisks w).length
  | d :: r => bif sign w d (white name) then d.1 else coverS w name r
abbrev stC (w : Wdt) (name : Str) (dirs : List Spt) (i : Nat) : List UInt8 × Unit × List Spt × Int × Int × List (Int) × Int × List Dkt × Int × List Rwt × List Rwt × Int × Unit :=
  (name, (), dirs, (dirs.length : Int), (i : Int), w.1, w.2.1, w.2.2.1, w.2.2.2.1, w.2.2.2.2.1, w.2.2.2.2.2.1, w.2.2.2.2.2.2, ())
theorem F24_ok {w : Wdt} (hw : GoodW w) {name : Str} (hn : List.length name ≤ 2000000) {dirs : List Spt} (hd : ∀ d ∈ dirs, SpotOk w d) (hlen : dirs.length ≤ 1000) :
    F24.pre (w, dirs, name, ()) ∧ F24.fn (w, dirs, name, ()) = (coverS w name dirs, ()) := by
  obtain ⟨h1, y, h2, h3⟩ := loopP (tr := F24L0)
    (fun x => ∃ i : Nat, x = stC w name dirs i ∧ i ≤ dirs.length ∧ coverS w name (dirs.drop i) = coverS w name dirs)
    (fun x => (x.2.2.2.1 - x.2.2.2.2.1).toNat)
    (fun y => y = .inl (coverS w name dirs, ()) ∨ y = .inr (.inl ((), w.1, w.2.1, w.2.2.1, w.2.2.2.1, w.2.2.2.2.1, w.2.2.2.2.2.1, w.2.2.2.2.2.2, ())) ∧ coverS w name dirs = Int.ofNat (wDisks w).length) (by
      rintro _ ⟨i, rfl, hi, hR⟩
      rcases Nat.lt_or_ge i dirs.length with g | g
      · have hs : SpotOk w dirs[i] := hd _ (List.getElem_mem g)
        have hx : @id Spt (xsAt Sp dirs i) = dirs[i] := xsAt_lt g
        rw [List.drop_eq_getElem_cons g] at hR
        simp only [coverS] at hR
        generalize hdi : dirs[i] = d at hs hx hR
        obtain ⟨p3, e3⟩ := F47_ok hn
        obtain ⟨p4, e4⟩ := F46_ok hw hs (white name)
        have hi3 : (i : Int) < Int.ofNat dirs.length := by rw [Int.ofNat_eq_natCast]; omega
        have hi2 : (i : Int) < (dirs.length : Int) := hi3
        unfold F24L0
        simp only [Int.toNat_natCast, hx, e3, e4, ok_node, ok_leaf, allA_cons, allA_one, allA_nil, true_and, wrp_succ (show i < 4611686018427387904 by omega), p3, p4, and_true, decide_eq_true hi2, hi3, Int.natCast_nonneg, forall_const, Bool.true_eq_false, false_implies]
        refine ⟨fun q => ?_, fun q => ?_⟩
        · rw [q, cond_true] at hR; exact .inl (by rw [← hR])
        · rw [q, cond_false] at hR; exact ⟨⟨i + 1, rfl, g, hR⟩, by simp; omega⟩
      · have : i = dirs.length := by omega
        subst this
        rw [List.drop_length] at hR
        unfold F24L0
        simp only [ok_node, ok_leaf, allA_nil, true_and, Int.lt_irrefl, decide_false, Bool.false_eq_true, false_implies, forall_const]
        first | exact .inr ⟨by simp, hR.symm⟩ | exact hR.symm | (simp [← hR, coverS]; done))
    _ ⟨0, rfl, Nat.zero_le _, rfl⟩
  have hok : (F24 (w, dirs, name, ())).Ok (· = (coverS w name dirs, ())) := by
    unfold F24
    have h1 : loopInv F24L0 (name, (), dirs, (Int.ofNat (List.length dirs)), (0 : Int), w.1, w.2.1, w.2.2.1, w.2.2.2.1, w.2.2.2.2.1, w.2.2.2.2.2.1, w.2.2.2.2.2.2, ()) := h1
    have h2 : loopOut F24L0 (name, (), dirs, (Int.ofNat (List.length dirs)), (0 : Int), w.1, w.2.1, w.2.2.1, w.2.2.2.1, w.2.2.2.2.1, w.2.2.2.2.2.1, w.2.2.2.2.2.2, ()) = some y := h2
    simp only [h1, h2, ok_node, ok_leaf, allA_cons, allA_one, allA_nil, true_and]
    rcases h3 with rfl | ⟨rfl, e⟩
    · simp [isL, getL]
    · simp [isL, getL, restR, e]
  exact hok

def rootsS (n : Nat) : List Spt := (List.range n).map fun (i : Nat) => ((i : Int), (1 : Int))
theorem rootsS_succ (i : Nat) : rootsS (i + 1) = rootsS i ++ [((i : Int), (1 : Int))] := by simp [rootsS, List.range_succ]
theorem rootsS_len (n : Nat) : (rootsS n).length = n := by simp [rootsS]
theorem rootsS_ok {w : Wdt} : ∀ d ∈ rootsS (wDisks w).length, SpotOk w d := by
  intro d hd
  obtain ⟨i, hi, rfl⟩ := List.mem_map.1 hd
  have := List.mem_range.1 hi
  refine ⟨Int.natCast_nonneg _, ?_⟩
  rw [Int.ofNat_eq_natCast]
  show (i : Int) < _
  omega
theorem F6_ok {w : Wdt} (hw : (wDisks w).length ≤ 8) : F6.pre (w, ()) ∧ F6.fn (w, ()) = (rootsS (wDisks w).length, ()) := by
  have hw' : w.2.2.1.length ≤ 8 := hw
  obtain ⟨h1, y, h2, h3⟩ := loopP (tr := F6L0) (fun x => ∃ i : Nat, x = (rootsS i, ((wDisks w).length : Int), (i : Int), ()) ∧ i ≤ (wDisks w).length) (fun x => (x.2.1 - x.2.2.1).toNat) (fun y => y = .inl (rootsS (wDisks w).length, ())) (by
    rintro _ ⟨i, rfl, hi⟩
    unfold F6L0
    simp only [ok_node, ok_leaf, allA_cons, allA_one, allA_nil, true_and, decide_eq_true_eq, decide_eq_false_iff_not]
    refine ⟨fun g => ⟨?_, ⟨i + 1, ?_, ?_⟩, ?_⟩, fun g => ?_⟩
    · rw [List.length_append, rootsS_len]; unfold Room; simp; omega
    · rw [wrp_succ (by omega), rootsS_succ]
    · omega
    · rw [wrp_succ (by omega)]; simp; omega
    · have : i = (wDisks w).length := by omega
      subst this; rfl)
    _ ⟨0, rfl, Nat.zero_le _⟩
  subst h3
  have hok : (F6 (w, ())).Ok (· = (rootsS (wDisks w).length, ())) := by
    unfold F6
    have h1 : loopInv F6L0 ([], (Int.ofNat (List.length w.2.2.1)), (0 : Int), ()) := h1
    have h2 : loopOut F6L0 ([], (Int.ofNat (List.length w.2.2.1)), (0 : Int), ()) = some (.inl (rootsS (wDisks w).length, ())) := h2
    simp only [h1, h2, ok_leaf, allA_one, true_and]
    simp [getL]
  exact hok
theorem F8_ok {w : Wdt} (hw : (wDisks w).length ≤ 8) : F8.pre (w, ()) ∧ F8.fn (w, ()) = (rootsS (wDisks w).length, ()) := by
  have hw' : w.2.2.1.length ≤ 8 := hw
  obtain ⟨h1, y, h2, h3⟩ := loopP (tr := F8L0) (fun x => ∃ i : Nat, x = ((), rootsS i, (i : Int), w.1, w.2.1, w.2.2.1, w.2.2.2.1, w.2.2.2.2.1, w.2.2.2.2.2.1, w.2.2.2.2.2.2, ()) ∧ i ≤ (wDisks w).length) (fun x => ((wDisks w).length - x.2.2.1).toNat) (fun y => y = .inl (rootsS (wDisks w).length, ())) (by
    rintro _ ⟨i, rfl, hi⟩
    unfold F8L0
    simp only [ok_node, ok_leaf, allA_cons, allA_one, allA_nil, true_and, decide_eq_true_eq, decide_eq_false_iff_not, Int.ofNat_eq_natCast]
    have hi : i ≤ w.2.2.1.length := hi
    refine ⟨fun g => ⟨?_, ⟨i + 1, ?_, ?_⟩, ?_⟩, fun g => ?_⟩
    · rw [List.length_append, rootsS_len]; unfold Room; simp; omega
    · rw [wrp_succ (by omega), rootsS_succ]
    · show i + 1 ≤ w.2.2.1.length; omega
    · rw [wrp_succ (by omega)]; show (((w.2.2.1).length : Int) - ((i + 1 : Nat) : Int)).toNat < (((w.2.2.1).length : Int) - (i : Int)).toNat; omega
    · have : i = w.2.2.1.length := by omega
      subst this; rfl)
    _ ⟨0, rfl, Nat.zero_le _⟩
  subst h3
  have hok : (F8 (w, ())).Ok (· = (rootsS (wDisks w).length, ())) := by
    unfold F8
    have h1 : loopInv F8L0 ((), [], (0 : Int), w.1, w.2.1, w.2.2.1, w.2.2.2.1, w.2.2.2.2.1, w.2.2.2.2.2.1, w.2.2.2.2.2.2, ()) := h1
    have h2 : loopOut F8L0 ((), [], (0 : Int), w.1, w.2.1, w.2.2.1, w.2.2.2.1, w.2.2.2.2.1, w.2.2.2.2.2.1, w.2.2.2.2.2.2, ()) = some (.inl (rootsS (wDisks w).length, ())) := h2
    simp only [h1, h2, ok_leaf, allA_one, true_and]
    simp [getL]
  exact hok
def kept (x : Str) : Bool := decide ((Int.ofNat (List.length x)) ≥ (4 : Int)) && ((List.take 4 x) == sWh)
theorem F40_ok (x : Str) : F40.pre (x, ()) ∧ F40.fn (x, ()) = (kept x, ()) := by
  have hok : (F40 (x, ())).Ok (· = (kept x, ())) := by
    unfold F40
    simp only [ok_node, ok_leaf, allA_cons, allA_one, allA_nil, true_and]
    unfold kept
    refine ⟨fun g => ⟨⟨by omega, by simpa using g⟩, by rw [g]; rfl⟩, fun g => by rw [g]; rfl⟩
  exact hok
theorem F44_ok (x : Str) : F44.pre (x, ()) ∧ F44.fn (x, ()) = (kept x, ()) := by
  have hok : (F44 (x, ())).Ok (· = (kept x, ())) := by
    unfold F44
    simp only [ok_node, ok_leaf, allA_cons, allA_one, allA_nil, true_and]
    unfold kept
    refine ⟨fun g => ⟨⟨by omega, by simpa using g⟩, by rw [g]; rfl⟩, fun g => by rw [g]; rfl⟩
  exact hok
/-- is a name one that is seen? -/
def goneB (w : Wdt) (dirs : List Spt) (x : Str) : Bool := kept x || ((Int.ofNat (List.length (scanS w x dirs []).1)) == (0 : Int))
abbrev clo (w : Wdt) (dirs : List Spt) : Wdt × (List Spt) × Unit := ((@id (Wdt) (xsAt Wd [w] 0)), (@id (List (Int × Int)) (xsAt (.one (.row Sp)) [dirs] 0)), ())
theorem clo_eq (w : Wdt) (dirs : List Spt) : clo w dirs = (w, dirs, ()) := rfl
theorem F68_ok {w : Wdt} (hw : GoodW w) {dirs : List Spt} (hd : ∀ d ∈ dirs, SpotOk w d) (hlen : dirs.length ≤ 1000) {xs : List Str} (hxs : xs.length < 2305843009213693952) (hx : ∀ x ∈ xs, List.length x ≤ 1048576) : F68_39.pre (xs, (w, dirs, ()), ()) ∧ ∃ k : Int, F68_39.fn (xs, (w, dirs, ()), ()) = (k, ()) ∧ ((k = -1 ∧ ∀ x ∈ xs, goneB w dirs x = false) ∨ ∃ i : Nat, k = i ∧ i < xs.length ∧ (∀ j (h : j < xs.length), j < i → goneB w dirs xs[j] = false) ∧ ∀ (h : i < xs.length), goneB w dirs xs[i] = true) := by
  obtain ⟨h1, y, h2, h3⟩ := loopP (tr := F68_39L0)
    (fun x => ∃ i : Nat, x = (xs, (w, dirs, ()), (xs.length : Int), (i : Int), ()) ∧ i ≤ xs.length ∧ ∀ j (h : j < xs.length), j < i → goneB w dirs xs[j] = false)
    (fun x => (x.2.2.1 - x.2.2.2.1).toNat)
    (fun y => (y = .inr (.inl ()) ∧ ∀ x ∈ xs, goneB w dirs x = false) ∨ ∃ i : Nat, y = .inl ((i : Int), ()) ∧ i < xs.length ∧ (∀ j (h : j < xs.length), j < i → goneB w dirs xs[j] = false) ∧ ∀ (h : i < xs.length), goneB w dirs xs[i] = true) (by
      rintro _ ⟨i, rfl, hi, hR⟩
      rcases Nat.lt_or_ge i xs.length with g | g
      · have hxi : @id (List UInt8) (xsAt (.one .str) xs i) = xs[i] := xsAt_lt g
        obtain ⟨p1, e1⟩ := F40_ok xs[i]
        obtain ⟨p2, e2⟩ := F16_ok hw (name := xs[i]) (by have := hx _ (List.getElem_mem g); omega) hd hlen
        have c1 : @id Wdt (xsAt Wd [w] 0) = w := rfl
        have c2 : @id (List (Int × Int)) (xsAt (.one (.row Sp)) [dirs] 0) = dirs := rfl
        have hi3 : (i : Int) < Int.ofNat xs.length := by rw [Int.ofNat_eq_natCast]; omega
        have hi2 : (i : Int) < (xs.length : Int) := hi3
        unfold F68_39L0
        simp only [Int.toNat_natCast, hxi, c1, c2, e1, e2, ok_node, ok_leaf, allA_cons, allA_one, allA_nil, true_and, wrp_succ (show i < 4611686018427387904 by omega), p1, p2, and_true, decide_eq_true hi2, hi3, Int.natCast_nonneg, forall_const, Bool.true_eq_false, false_implies]
        refine ⟨fun q => .inr ⟨i, rfl, g, hR, fun _ => by unfold goneB; rw [q]; rfl⟩, fun q => ⟨fun q2 => .inr ⟨i, rfl, g, hR, fun _ => by unfold goneB; rw [q, q2]; rfl⟩, fun q2 => ⟨⟨i + 1, rfl, g, fun j hj hji => ?_⟩, by simp; omega⟩⟩⟩
        rcases Nat.lt_or_ge j i with z | z
        · exact hR j hj z
        · have : j = i := by omega
          subst this; unfold goneB; rw [q, q2]; rfl
      · have : i = xs.length := by omega
        subst this
        unfold F68_39L0
        simp only [ok_node, ok_leaf, allA_nil, true_and, Int.lt_irrefl, decide_false, Bool.false_eq_true, false_implies, forall_const]
        have hall : ∀ x ∈ xs, goneB w dirs x = false := fun x hx => by
          obtain ⟨j, hj, rfl⟩ := List.getElem_of_mem hx
          exact hR j hj hj
        first | exact .inl ⟨by simp, hall⟩ | exact hall | exact .inl hall)
    _ ⟨0, rfl, Nat.zero_le _, fun j _ h => absurd h (Nat.not_lt_zero _)⟩
  have h1 : loopInv F68_39L0 (xs, ((@id (Wdt) (xsAt Wd [w] 0)), (@id (List (Int × Int)) (xsAt (.one (.row Sp)) [dirs] 0)), ()), (Int.ofNat (List.length xs)), (0 : Int), ()) := h1
  have h2 : loopOut F68_39L0 (xs, ((@id (Wdt) (xsAt Wd [w] 0)), (@id (List (Int × Int)) (xsAt (.one (.row Sp)) [dirs] 0)), ()), (Int.ofNat (List.length xs)), (0 : Int), ()) = some y := h2
  rcases h3 with ⟨rfl, h3⟩ | ⟨i, rfl, h3, h4, h5⟩
  · have hok : (F68_39 (xs, (w, dirs, ()), ())).Ok (· = ((-1 : Int), ())) := by
      unfold F68_39
      simp only [h1, h2, ok_node, ok_leaf, allA_cons, allA_one, allA_nil, true_and]
      simp [isL]
    exact ⟨hok.1, -1, hok.2, .inl ⟨rfl, h3⟩⟩
  · have hok : (F68_39 (xs, (w, dirs, ()), ())).Ok (· = ((i : Int), ())) := by
      unfold F68_39
      simp only [h1, h2, ok_node, ok_leaf, allA_cons, allA_one, allA_nil, true_and]
      simp [isL, getL]
    exact ⟨hok.1, _, hok.2, .inr ⟨i, rfl, h3, h4, h5⟩⟩
theorem F38_ok {w : Wdt} (hw : GoodW w) {dirs : List Spt} (hd : ∀ d ∈ dirs, SpotOk w d) (hlen : dirs.length ≤ 1000) {xs : List Str} (hxs : xs.length < 2305843009213693952) (hx : ∀ x ∈ xs, List.length x ≤ 1048576) : F38_39.pre (xs, (w, dirs, ()), ()) ∧ F38_39.fn (xs, (w, dirs, ()), ()) = (xs.filter fun x => !goneB w dirs x, ()) := by
  obtain ⟨p0, k, e0, h0⟩ := F68_ok hw hd hlen hxs hx
  have c1 : @id Wdt (xsAt Wd [w] 0) = w := rfl
  have c2 : @id (List (Int × Int)) (xsAt (.one (.row Sp)) [dirs] 0) = dirs := rfl
  rcases h0 with ⟨rfl, hall⟩ | ⟨i0, rfl, hi0, hlo, hat⟩
  · have hok : (F38_39 (xs, (w, dirs, ()), ())).Ok (· = (xs.filter fun x => !goneB w dirs x, ())) := by
      unfold F38_39
      simp only [c1, c2, e0, p0, ok_node, ok_leaf, allA_cons, allA_one, allA_nil, true_and]
      refine ⟨fun _ => ?_, fun h => by simp at h⟩
      rw [List.filter_eq_self.2 fun x hx => by rw [hall x hx]; rfl]
    exact hok
  · obtain ⟨h1, y, h2, h3⟩ := loopP (tr := F38_39L0)
      (fun x => ∃ (ys : List Str) (i j : Nat), x = (ys, (w, dirs, ()), (i : Int), (j : Int), ()) ∧ ys.length = xs.length ∧ i < j ∧ j ≤ xs.length ∧ ys.take i = (xs.take j).filter (fun x => !goneB w dirs x) ∧ ys.drop j = xs.drop j)
      (fun x => (xs.length - x.2.2.2.1).toNat)
      (fun y => ∃ (ys : List Str) (i : Nat), y = .inl (ys, (i : Int), ()) ∧ ys.length = xs.length ∧ i ≤ xs.length ∧ ys.take i = xs.filter (fun x => !goneB w dirs x)) (by
        rintro _ ⟨ys, i, j, rfl, hl, hij, hj, ht, hdr⟩
        rcases Nat.lt_or_ge j xs.length with g | g
        · have hjy : j < ys.length := Nat.lt_of_lt_of_eq g hl.symm
          have hyj : ys[j] = xs[j] := by
            have h1 : (ys.drop j)[0]? = (xs.drop j)[0]? := by rw [hdr]
            simp only [List.getElem?_drop, Nat.add_zero] at h1
            rw [List.getElem?_eq_getElem hjy, List.getElem?_eq_getElem g] at h1
            exact Option.some.inj h1
          have hxi : @id (List UInt8) (xsAt (.one .str) ys (0 + j)) = xs[j] := by rw [Nat.zero_add, ← hyj]; exact xsAt_lt hjy
          obtain ⟨p1, e1⟩ := F40_ok xs[j]
          obtain ⟨p2, e2⟩ := F16_ok hw (name := xs[j]) (by have := hx _ (List.getElem_mem g); omega) hd hlen
          have hi3 : (j : Int) < Int.ofNat ys.length := by rw [Int.ofNat_eq_natCast]; omega
          have hi4 : (i : Int) < Int.ofNat ys.length := by rw [Int.ofNat_eq_natCast]; omega
          unfold F38_39L0
          simp only [Int.toNat_natCast, hxi, c1, c2, e1, e2, ok_node, ok_leaf, allA_cons, allA_one, allA_nil, true_and, wrp_succ (show j < 4611686018427387904 by omega), wrp_succ (show i < 4611686018427387904 by omega), p1, p2, and_true, hi3, hi4, decide_true, Int.natCast_nonneg, forall_const, Bool.true_eq_false, false_implies]
          have htk : xs.take (j + 1) = xs.take j ++ [xs[j]] := by rw [List.take_add_one, List.getElem?_eq_getElem g]; rfl
          have hdr1 : ys.drop (j + 1) = xs.drop (j + 1) := by
            rw [← List.drop_drop, ← List.drop_drop, hdr]
          have gone : goneB w dirs xs[j] = true → ys.take i = (xs.take (j + 1)).filter (fun x => !goneB w dirs x) := fun h => by
            rw [htk, List.filter_append, ht]; simp [h]
          have mdec : (((xs.length : Int) - ((j + 1 : Nat) : Int)).toNat) < (((xs.length : Int) - (j : Int)).toNat) := by omega
          refine ⟨fun q => ⟨⟨ys, i, j + 1, rfl, hl, by omega, g, gone (by unfold goneB; rw [q]; rfl), hdr1⟩, mdec⟩, fun q => ⟨fun q2 => ⟨⟨_, i + 1, j + 1, rfl, by simp [hl], by omega, g, ?_, ?_⟩, mdec⟩, fun q2 => ⟨⟨ys, i, j + 1, rfl, hl, by omega, g, gone (by unfold goneB; rw [q]; simpa using q2), hdr1⟩, mdec⟩⟩⟩
          · have hk : goneB w dirs xs[j] = false := by unfold goneB; rw [q]; simpa using q2
            rw [htk, List.filter_append, ← ht]
            simp only [hk, Bool.not_false, List.filter_cons_of_pos, List.filter_nil, Nat.zero_add]
            rw [List.take_add_one, List.take_set_of_le (Nat.le_refl _)]
            simp [show i < ys.length by omega]
          · rw [Nat.zero_add, List.drop_set_of_lt (by omega)]; exact hdr1
        · have hje : j = xs.length := by omega
          subst hje
          rw [List.take_length] at ht
          have hi3 : ¬ ((xs.length : Int) < Int.ofNat ys.length) := by rw [hl, Int.ofNat_eq_natCast]; omega
          unfold F38_39L0
          simp only [ok_node, ok_leaf, allA_nil, true_and, decide_eq_false hi3, Bool.false_eq_true, false_implies, forall_const]
          exact ⟨ys, i, rfl, hl, by omega, ht⟩)
      (xs, (w, dirs, ()), ((i0 : Nat) : Int), ((i0 + 1 : Nat) : Int), ()) ⟨xs, i0, i0 + 1, rfl, rfl, by omega, hi0, by
        rw [List.take_add_one, List.getElem?_eq_getElem hi0, List.filter_append]
        have : (List.filter (fun x => !goneB w dirs x) (some xs[i0]).toList) = [] := by simp [hat hi0]
        rw [this, List.append_nil, List.filter_eq_self.2 fun x hx => ?_]
        obtain ⟨j, hj, rfl⟩ := List.getElem_of_mem hx
        rw [List.length_take] at hj
        rw [List.getElem_take, hlo j (by omega) (by omega)]; rfl, rfl⟩
    obtain ⟨ys, i, rfl, hl, hi, ht⟩ := h3
    have hok : (F38_39 (xs, (w, dirs, ()), ())).Ok (· = (xs.filter fun x => !goneB w dirs x, ())) := by
      unfold F38_39
      simp only [c1, c2, e0, p0, ok_node, ok_leaf, allA_cons, allA_one, allA_nil, true_and]
      refine ⟨fun h => by first | (simp at h; done) | (simp at h; omega), fun _ => ?_⟩
      rw [wrp_succ (show i0 < 4611686018427387904 by omega)]
      have hi4 : (i : Int) ≤ Int.ofNat ys.length := by rw [hl, Int.ofNat_eq_natCast]; omega
      simp only [h1, h2, getL, Int.natCast_nonneg, hi4, true_and, Int.toNat_natCast]
      rw [List.drop_zero, Nat.zero_add, List.append_assoc, List.take_append_of_le_length (by simp; omega), List.take_take, Nat.min_self, ht]
    exact hok
end Go.Proofs.YtkccnomdfkhfnaaGreat
