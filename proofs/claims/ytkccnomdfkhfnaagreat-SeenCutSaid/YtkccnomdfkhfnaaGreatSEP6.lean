/- Names that are seen: sorted, none twice; two ways to the same row. -/
import Derived.Test.YtkccnomdfkhfnaaGreatSEP5
set_option linter.unusedVariables false
set_option linter.unusedSimpArgs false
namespace Go.Proofs.YtkccnomdfkhfnaaGreat
open Go.RowKit Go.Proofs.YtkccnomdfkhfnaaGreat.Ev

abbrev Lt (a b : Str) : Prop := Op.bytesLess a b = true
abbrev Rise (l : List Str) : Prop := l.Pairwise Lt
theorem rise_ext : ∀ a b : List Str, Rise a → Rise b → (∀ x, x ∈ a ↔ x ∈ b) → a = b
  | [], [], _, _, _ => rfl
  | [], y :: b, _, _, h => by have := (h y).2 List.mem_cons_self; cases this
  | x :: a, [], _, _, h => by have := (h x).1 List.mem_cons_self; cases this
  | x :: a, y :: b, ha, hb, h => by
    rw [Rise, List.pairwise_cons] at ha hb
    have hxy : x = y := by
      rcases List.mem_cons.1 ((h x).1 List.mem_cons_self) with e | e
      · exact e
      · rcases List.mem_cons.1 ((h y).2 List.mem_cons_self) with e' | e'
        · exact e'.symm
        · have h1 := hb.1 x e
          have h2 : Op.bytesLess x y = true := ha.1 y e'
          rw [bl_asymm h1] at h2; cases h2
    subst hxy
    rw [rise_ext a b ha.2 hb.2 fun z => ⟨fun hz => ?_, fun hz => ?_⟩]
    · rcases List.mem_cons.1 ((h z).1 (List.mem_cons_of_mem _ hz)) with e | e
      · subst e; have := ha.1 z hz; rw [Lt, bl_irrefl] at this; cases this
      · exact e
    · rcases List.mem_cons.1 ((h z).2 (List.mem_cons_of_mem _ hz)) with e | e
      · subst e; have := hb.1 z hz; rw [Lt, bl_irrefl] at this; cases this
      · exact e

/-! ## sorted, and none twice -/
theorem sort_le (l : List Str) : (F36.fn l).Pairwise fun a b => Op.bytesLess b a = false := by
  have hle : ∀ a b : Str, decide (a ≤ b) = !Op.bytesLess b a := fun a b => by
    rw [bytesLess_eq]
    by_cases h : b < a
    · have : ¬ a ≤ b := fun q => q h
      simp [h, this]
    · have : a ≤ b := h
      simp [h, this]
  have h := List.pairwise_mergeSort (le := fun x y : Str => decide (x ≤ y)) (fun a b c h1 h2 => by
    rw [hle] at h1 h2 ⊢
    simp only [Bool.not_eq_true'] at h1 h2 ⊢
    cases q : Op.bytesLess c a with
    | false => rfl
    | true =>
      cases z : Op.bytesLess a b with
      | true => have := bl_trans _ _ _ q z; rw [h2] at this; cases this
      | false => have := bl_anti a b z h1; subst this; rw [h2] at q; cases q) (fun a b => by
    rw [hle, hle]
    cases q : Op.bytesLess b a with
    | false => rfl
    | true => rw [bl_asymm q]; rfl) l
  refine List.Pairwise.imp (fun {a b} h => ?_) h
  rw [hle] at h
  simpa using h
theorem sort_mem (l : List Str) (x : Str) : x ∈ F36.fn l ↔ x ∈ l := List.mem_mergeSort
theorem sort_len (l : List Str) : (F36.fn l).length = l.length := List.length_mergeSort _
theorem compact_all_mem (zs : List Str) : ∀ x ∈ zs, x ∈ Lib.compact zs := by
  have key : ∀ (j : Nat) (hj : j < zs.length), zs[j] ∈ Lib.compact zs := by
    intro j
    induction j using Nat.strongRecOn with
    | ind j ih =>
      intro hj
      cases hk : Lib.keeps zs.toArray j with
      | true =>
        unfold Lib.compact Lib.compactUpTo
        refine List.mem_map.2 ⟨j, List.mem_filter.2 ⟨List.mem_range.2 hj, hk⟩, ?_⟩
        simp [hj]
      | false =>
        unfold Lib.keeps at hk
        simp only [decide_eq_false_iff_not, not_or, Classical.not_not] at hk
        have h1 : j - 1 < zs.length := by omega
        have := ih (j - 1) (by omega) h1
        have e : zs[j] = zs[j - 1] := by have := hk.2; simpa [hj, h1] using this
        rw [e]; exact this
  intro x hx
  obtain ⟨j, hj, rfl⟩ := List.getElem_of_mem hx
  exact key j hj
theorem compact_rise {zs : List Str} (h : zs.Pairwise fun a b => Op.bytesLess b a = false) : Rise (Lib.compact zs) := by
  unfold Lib.compact Lib.compactUpTo
  rw [Rise, List.pairwise_map]
  have h0 : ((List.range zs.length).filter (Lib.keeps zs.toArray)).Pairwise (· < ·) := List.Pairwise.filter _ List.pairwise_lt_range
  have hget := List.pairwise_iff_getElem.1 h
  refine List.Pairwise.imp_of_mem (fun {i j} hi hj hij => ?_) h0
  have hi' := List.mem_range.1 (List.mem_filter.1 hi).1
  have hj' := List.mem_range.1 (List.mem_filter.1 hj).1
  have hk := (List.mem_filter.1 hj).2
  unfold Lib.keeps at hk
  simp only [decide_eq_true_eq] at hk
  have hj1 : j - 1 < zs.length := by omega
  have hne : zs[j] ≠ zs[j - 1] := by
    rcases hk with hk | hk
    · omega
    · simpa [hj', hj1] using hk
  have e1 : (zs.toArray)[i]! = zs[i] := by simp [hi']
  have e2 : (zs.toArray)[j]! = zs[j] := by simp [hj']
  rw [e1, e2]
  have hlt : Op.bytesLess zs[j - 1] zs[j] = true := by
    cases q : Op.bytesLess zs[j - 1] zs[j] with
    | true => rfl
    | false => exact absurd (bl_anti _ _ (hget (j - 1) j hj1 hj' (by omega)) q) hne
  rcases Nat.lt_or_ge i (j - 1) with g | g
  · have hle := hget i (j - 1) hi' hj1 g
    cases q : Op.bytesLess zs[i] zs[j - 1] with
    | true => exact bl_trans _ _ _ q hlt
    | false => rw [bl_anti _ _ q hle]; exact hlt
  · have : i = j - 1 := by omega
    subst this; exact hlt

/-! ## a name more, in its place, once -/
def insS (s : Str) : List Str → List Str
  | [] => [s]
  | x :: r => bif Op.bytesLess x s then x :: insS s r else bif x == s then x :: r else s :: x :: r
theorem insS_mem (s : Str) : ∀ (l : List Str) (x : Str), x ∈ insS s l ↔ x = s ∨ x ∈ l
  | [], x => by simp [insS]
  | y :: r, x => by
    unfold insS
    cases Op.bytesLess y s with
    | true => simp only [cond_true, List.mem_cons, insS_mem s r]; exact ⟨fun h => by rcases h with h | h | h <;> simp [h], fun h => by rcases h with h | h | h <;> simp [h]⟩
    | false =>
      cases q : y == s with
      | true => have := beq_iff_eq.1 q; subst this; simp
      | false => simp
theorem insS_len (s : Str) : ∀ l : List Str, (insS s l).length ≤ l.length + 1
  | [] => by simp [insS]
  | y :: r => by
    have := insS_len s r
    unfold insS
    cases Op.bytesLess y s <;> cases y == s <;> simp <;> omega
theorem insS_rise (s : Str) : ∀ l : List Str, Rise l → Rise (insS s l)
  | [], _ => by simp [insS]
  | y :: r, h => by
    rw [Rise, List.pairwise_cons] at h
    unfold insS
    cases q : Op.bytesLess y s with
    | true =>
      rw [cond_true, Rise, List.pairwise_cons]
      refine ⟨fun x hx => ?_, insS_rise s r h.2⟩
      rcases (insS_mem s r x).1 hx with rfl | hx
      · exact q
      · exact h.1 x hx
    | false =>
      rw [cond_false]
      cases z : y == s with
      | true => rw [cond_true, Rise, List.pairwise_cons]; exact h
      | false =>
        have hys : Op.bytesLess s y = true := by
          cases w : Op.bytesLess s y with
          | true => rfl
          | false => have := bl_anti y s q w; subst this; simp at z
        rw [cond_false, Rise, List.pairwise_cons, List.pairwise_cons]
        refine ⟨fun x hx => ?_, h⟩
        rcases List.mem_cons.1 hx with rfl | hx
        · exact hys
        · exact bl_trans _ _ _ hys (h.1 x hx)
/-- the place -/
theorem insS_at (s : Str) : ∀ (l : List Str) (i : Nat), i ≤ l.length → (∀ j (h : j < l.length), j < i → Op.bytesLess l[j] s = true) → (∀ h : i < l.length, Op.bytesLess l[i] s = false) →
    insS s l = if h : i < l.length then (if l[i] = s then l else l.take i ++ s :: l.drop i) else l.take i ++ s :: l.drop i
  | [], i, hi, _, _ => by
    have : i = 0 := by simpa using hi
    subst this; rfl
  | y :: r, 0, _, _, h2 => by
    have := h2 (by simp)
    have : Op.bytesLess y s = false := by simpa using this
    unfold insS
    rw [this, cond_false, dif_pos (by simp)]
    cases z : y == s with
    | true => have e := beq_iff_eq.1 z; simp [e]
    | false => have e : ¬ y = s := by simpa using z
               simp [e]
  | y :: r, i + 1, hi, h1, h2 => by
    have hy : Op.bytesLess y s = true := h1 0 (Nat.succ_pos _) (Nat.succ_pos i)
    have ih := insS_at s r i (by simpa using hi) (fun j h hj => h1 (j + 1) (Nat.succ_lt_succ h) (Nat.succ_lt_succ hj)) (fun h => h2 (Nat.succ_lt_succ h))
    unfold insS
    rw [hy, cond_true, ih]
    by_cases h : i < r.length
    · rw [dif_pos h, dif_pos (by simpa using h)]
      simp only [List.getElem_cons_succ]
      split <;> simp
    · rw [dif_neg h, dif_neg (by simpa using h)]; simp
theorem F45_ok {l : List Str} (hl : l.length ≤ 10000000000) (s : Str) : F45.pre (l, s, ()) ∧ F45.fn (l, s, ()) = (insS s l, ()) := by
  obtain ⟨h1, y, h2, h3⟩ := loopP (tr := F45L0)
    (fun x => ∃ i : Nat, x = (l, s, (i : Int), ()) ∧ i ≤ l.length ∧ ∀ j (h : j < l.length), j < i → Op.bytesLess l[j] s = true)
    (fun x => (x.1.length - x.2.2.1).toNat)
    (fun y => ∃ i : Nat, y = .inl (l, s, (i : Int), ()) ∧ i ≤ l.length ∧ (∀ j (h : j < l.length), j < i → Op.bytesLess l[j] s = true) ∧ (∀ h : i < l.length, Op.bytesLess l[i] s = false)) (by
      rintro _ ⟨i, rfl, hi, hR⟩
      rcases Nat.lt_or_ge i l.length with g | g
      · have hx : @id (List UInt8) (xsAt (.one .str) l i) = l[i] := xsAt_lt g
        have hi3 : (i : Int) < Int.ofNat l.length := by rw [Int.ofNat_eq_natCast]; omega
        unfold F45L0
        simp only [Int.toNat_natCast, hx, hi3, decide_true, ok_node, ok_leaf, allA_cons, allA_one, allA_nil, true_and, and_true, Int.natCast_nonneg, forall_const, Bool.true_eq_false, false_implies, wrp_succ (show i < 4611686018427387904 by omega)]
        refine ⟨fun q => ⟨⟨i + 1, rfl, g, fun j hj hji => ?_⟩, by simp; omega⟩, fun q => ⟨i, rfl, hi, hR, fun _ => q⟩⟩
        rcases Nat.lt_or_ge j i with z | z
        · exact hR j hj z
        · have : j = i := by omega
          subst this; exact q
      · have : i = l.length := by omega
        subst this
        unfold F45L0
        simp only [ok_node, ok_leaf, allA_nil, true_and, Int.ofNat_eq_natCast, Int.lt_irrefl, decide_false, Bool.false_eq_true, false_implies, forall_const]
        exact ⟨_, rfl, hi, hR, fun h => absurd h (Nat.lt_irrefl _)⟩)
    _ ⟨0, rfl, Nat.zero_le _, fun j _ h => absurd h (Nat.not_lt_zero _)⟩
  obtain ⟨i, rfl, hi, hlo, hhi⟩ := h3
  have hins := insS_at s l i hi hlo hhi
  have hok : (F45 (l, s, ())).Ok (· = (insS s l, ())) := by
    unfold F45
    have h1 : loopInv F45L0 (l, s, (0 : Int), ()) := h1
    have h2 : loopOut F45L0 (l, s, (0 : Int), ()) = some (.inl (l, s, (i : Int), ())) := h2
    have hi4 : (i : Int) ≤ Int.ofNat l.length := by rw [Int.ofNat_eq_natCast]; omega
    have r1 : (List.length (([] ++ (List.take i l) ++ (s :: [])) ++ (List.drop i l))) * 16 ≤ Room := by simp; unfold Room; omega
    have r2 : (List.length (([] ++ (List.take i l) ++ (s :: [])))) * 16 ≤ Room := by simp; unfold Room; omega
    have r3 : (List.length (([] ++ (List.take i l)))) * 16 ≤ Room := by simp; unfold Room; omega
    simp only [h1, h2, getL, Int.toNat_natCast, ok_node, ok_leaf, allA_cons, allA_one, allA_nil, true_and, hi4, Int.natCast_nonneg, r1, r2, r3, and_true, decide_eq_true_eq, decide_eq_false_iff_not]
    refine ⟨fun g => ?_, fun g => ?_⟩
    · have g' : i < l.length := by rw [Int.ofNat_eq_natCast] at g; omega
      have hx : @id (List UInt8) (xsAt (.one .str) l i) = l[i] := xsAt_lt g'
      rw [hx, hins, dif_pos g']
      refine ⟨g, fun q => ?_, fun q => ?_⟩
      · rw [if_pos (by simpa using q)]
      · rw [if_neg (by simpa using q)]; simp
    · have g' : ¬ i < l.length := by rw [Int.ofNat_eq_natCast] at g; omega
      rw [hins, dif_neg g']; simp
  exact hok
end Go.Proofs.YtkccnomdfkhfnaaGreat
