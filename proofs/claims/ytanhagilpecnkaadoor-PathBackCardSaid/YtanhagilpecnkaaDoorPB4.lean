/- Parse: the names of a path. -/
import Derived.Test.YtanhagilpecnkaaDoorPB3
set_option linter.unusedVariables false
set_option linter.unusedSimpArgs false
set_option maxRecDepth 100000
namespace Go.Proofs.YtanhagilpecnkaaDoor
open Go.RowKit Go.Proofs.YtanhagilpecnkaaDoor.PathBack Go.Lib Go.Deep
theorem own_take {w : World} {base g n cap m : Nat} {xs : List Value} (h : w.ownsRow base 9 1 (.slice (some ⟨g, 0, none⟩) n cap) n xs) (hm : m ≤ n) : w.ownsRow base 9 1 (.slice (some ⟨g, 0, none⟩) m cap) m (xs.take m) := by
  have hl := h.1
  rcases h.2 with ⟨h', _⟩ | ⟨g', cap', cur, h', hb, hg, hnc, hcm, hcs, htake⟩
  · simp at h'
  · simp only [Value.slice.injEq, Option.some.injEq, Addr.mk.injEq, and_true, true_and] at h'
    obtain ⟨rfl, rfl⟩ := h'
    refine ⟨by rw [List.length_take, hl]; omega, .inr ⟨g, cap, cur, rfl, hb, hg, by omega, hcm, hcs, ?_⟩⟩
    rw [← htake, List.take_take]
    congr 1
    omega
theorem w64 {m : Nat} (h : m ≤ 100) : wrap64 (m : Int) = (m : Int) := by
  unfold wrap64
  omega
theorem mx0 (m : Nat) : max (m : Int) 0 = (m : Int) := Int.max_eq_left (Int.natCast_nonneg m)
theorem shrink {k n : Nat} (h : k < n) : n - (RowKit.intOf (Value.int .i64 ((k : Int) + 1))).toNat < n - (RowKit.intOf (Value.int .i64 (k : Int))).toNat := by
  simp [RowKit.intOf]; omega
theorem text_ne {p : ByteArray} {l : List UInt8} (h : ¬ p = ⟨⟨l⟩⟩) : ¬ p.toList = l := fun e => h (by
  rw [ByteArray.toList_eq] at e
  exact ByteArray.ext (Array.toList_inj.mp e))
set_option maxHeartbeats 2000000 in
theorem hasPre (s : ByteArray) (h : hasPrefix s.data.toList [47] = true) (w : World) : Calls Tryd.prog 11 #[.string s, .string ⟨#[47]⟩] w fun e w' => e = .returned (.bool true) ∧ w' = w := by
  have hr : ∃ r, s.data.toList = 47 :: r := by
    unfold hasPrefix at h
    cases hl : s.data.toList with
    | nil => rw [hl] at h; simp at h
    | cons c r => rw [hl] at h; simp at h; exact ⟨r, by rw [← h]⟩
  obtain ⟨r, hr⟩ := hr
  have hs : 1 ≤ s.size := by
    have : s.data.toList.length = s.size := Array.length_toList
    rw [hr] at this
    simp at this
    omega
  have h1 : ((s.extract 0 1).toList == [47]) = true := by
    rw [ByteArray.toList_eq, ByteArray.data_extract, Array.toList_extract, hr]
    rfl
  have h2 : (1 : Int) ≤ (s.size : Int) := by omega
  have h3 : decide ((s.size : Int) ≥ 1) = true := decide_eq_true h2
  clear h hr hs
  go_enter Tryd.func11, Tryd.ntmps11
  go_wp2
  go_ret
  exact ⟨by rw [← h1]; rfl, rfl⟩
set_option maxHeartbeats 4000000 in
theorem parse (s : ByteArray) (ps out : List ByteArray) (w : World) (hS : w.ShapedOpen Tryd.prog) (h1 : hasPrefix s.data.toList [47] = true) (h2 : contains s.data.toList [0] = false) (h3 : s.size ≤ 120)
    (h4 : splitB ⟨#[47]⟩ 0 (countB s ⟨#[47]⟩) s = ps) (h5 : PathBack.walk [] ps = some out) :
    Calls Tryd.prog 5 #[.string s] w fun e w' => ∃ v, e = .returned (.tuple #[v, .int .i64 0]) ∧ Row w' v out ∧ Below w.heap.size w w' := by
  have hc11 : Calls Tryd.prog 11 #[.string s, .string ⟨#[47]⟩] w fun e w' => e = .returned (.bool true) ∧ w' = w := hasPre s h1 w
  have hc12 : Calls Tryd.prog 12 #[.string s, .string ⟨#[0]⟩] w fun e w' => e = .returned (.bool false) ∧ w' = w :=
    (Tryd.strings_Contains_shaped s ⟨#[0]⟩ w hS (by omega)).mono fun e w' ⟨g1, g2⟩ => ⟨by rw [g1]; exact congrArg _ (congrArg _ h2), g2⟩
  have hlen : ps.length = countB s ⟨#[47]⟩ + 1 := by rw [← h4]; exact splitB_all _ (by decide) 0 _ s rfl
  have hps : ps.length ≤ 121 := by have := countB_le ⟨#[47]⟩ (by decide) s.size s (Nat.le_refl _); omega
  have hc13 : Calls Tryd.prog 13 #[.string s, .string ⟨#[47]⟩] w fun e w' => e = .returned (.slice (some ⟨w.heap.size, 0, none⟩) ps.length ps.length) ∧ w' = w.alloc (.cells (ps.map Value.string).toArray 9) :=
    (Tryd.strings_Split_shaped s ⟨#[47]⟩ w hS (by omega) (by decide)).mono fun e w' ⟨g1, g2⟩ => ⟨by rw [g1, hlen], by rw [g2, h4]⟩
  have h3' : ¬ 120 < (s.size : Int) := by omega
  have h3'' : decide ((s.size : Int) > 120) = false := decide_eq_false h3'
  have hcell : ∀ wr, Below (w.heap.size + 1) (w.alloc (.cells (ps.map Value.string).toArray 9)) wr → ∀ k p, ps[k]? = some p → wr.cell? ⟨w.heap.size, k, none⟩ = some (.string p) := by
    intro wr hb k p hp
    rw [hb.cell (by exact Nat.lt_succ_self _), World.cell?_alloc_at _ _ _ _ rfl]
    simp [hp]
  have HC : Aside (∀ wr, Below (w.heap.size + 1) (w.alloc (.cells (ps.map Value.string).toArray 9)) wr → ∀ k p, ps[k]? = some p → wr.cell? ⟨w.heap.size, k, none⟩ = some (.string p)) := hcell
  have H5 : Aside (PathBack.walk [] ps = some out) := h5
  clear hcell h5 h1 h2 h4 hS hlen
  go_enter Tryd.func5, Tryd.ntmps5
  go_wp2_with (first
    | (go_at_call 11; refine hc11.mono ?_; rintro e w' ⟨rfl, hw⟩; rw [hw])
    | (go_at_call 12; refine hc12.mono ?_; rintro e w' ⟨rfl, hw⟩; rw [hw])
    | (go_at_call 13; refine hc13.mono ?_; rintro e w' ⟨rfl, hw⟩; rw [hw]))
  clear hc11 hc12 hc13
  go_loopw [4, 22] (fun v i wr => ∃ (k : Nat) (cur : List ByteArray), k ≤ ps.length ∧ i = .int .i64 k ∧ Aside (PathBack.walk cur (ps.drop k) = some out) ∧ cur.length ≤ 16 ∧ Aside (wr.ownsRow (w.heap.size + 1) 9 1 v cur.length (cur.map Value.string)) ∧
      Aside (Below (w.heap.size + 1) (w.alloc (.cells (ps.map Value.string).toArray 9)) wr)) (fun _ i _ => ps.length - (RowKit.intOf i).toNat)
  case atStart => exact ⟨0, [], Nat.zero_le _, rfl, H5.out, by simp, World.ownsRow_nil _ _ _ _, Below.refl _ _⟩
  case round =>
    obtain ⟨k, cur, hk, rfl, hW, hcur, hown, hB⟩ := hrel
    have hsz : w.heap.size + 1 ≤ wr.heap.size := by have := hB.out.size; simpa using this
    by_cases hlt : k < ps.length
    · obtain ⟨p, hp⟩ : ∃ p, ps[k]? = some p := ⟨_, List.getElem?_eq_getElem hlt⟩
      have hc := HC.out wr hB.out k p hp
      have hdrop : ps.drop k = p :: ps.drop (k + 1) := by
        rw [List.drop_eq_getElem_cons hlt]
        rw [List.getElem?_eq_getElem hlt] at hp
        cases hp; rfl
      have hstep : ∃ c, PathBack.step cur p = some c ∧ PathBack.walk c (ps.drop (k + 1)) = some out := by
        have := hW.out
        rw [hdrop, PathBack.walk] at this
        cases hs : PathBack.step cur p with
        | none => rw [hs] at this; cases this
        | some c => rw [hs] at this; exact ⟨c, rfl, this⟩
      obtain ⟨c, hs, hw2⟩ := hstep
      have HW2 : Aside (PathBack.walk c (ps.drop (k + 1)) = some out) := hw2
      clear hdrop hw2 hW hp
      unfold PathBack.step at hs
      by_cases hp0 : p = ⟨#[]⟩ ∨ p = ⟨#[46]⟩
      · rw [if_pos hp0] at hs
        cases hs
        rcases hp0 with rfl | rfl
        all_goals
          go_wp2
          go_roundw
          case rel => exact ⟨k + 1, cur, by omega, by go_num, HW2, hcur, hown, hB⟩
          case measure => simp [RowKit.intOf]; omega
      · rw [if_neg hp0] at hs
        by_cases hp1 : p = ⟨#[46, 46]⟩
        · rw [if_pos hp1] at hs
          cases hs
          subst hp1
          clear hp0
          rcases hown.out.2 with ⟨rfl, h0⟩ | ⟨g, gc, cells, rfl, hbg, hg, hnc, hcm, hcs, htake⟩
          · have hcur0 : cur = [] := List.eq_nil_of_length_eq_zero h0
            subst hcur0
            clear h0
            go_wp2
            go_roundw
            case rel => exact ⟨k + 1, [], by omega, by go_num, HW2, by simp, hown, hB⟩
            case measure => simp [RowKit.intOf]; omega
          · rcases Nat.eq_zero_or_pos cur.length with h0 | h0
            · have hcur0 : cur = [] := List.eq_nil_of_length_eq_zero h0
              subst hcur0
              clear h0 htake hcs hcm hbg hg
              go_wp2
              go_roundw
              case rel => exact ⟨k + 1, [], by omega, by go_num, HW2, by simp, hown, hB⟩
              case measure => simp [RowKit.intOf]; omega
            · obtain ⟨m, hm⟩ : ∃ m, cur.length = m + 1 := ⟨cur.length - 1, (Nat.succ_pred_eq_of_pos h0).symm⟩
              have ho2 := own_take hown.out (show m ≤ cur.length by rw [hm]; exact Nat.le_succ m)
              rw [← List.map_take] at ho2
              have HO : Aside (wr.ownsRow (w.heap.size + 1) 9 1 (.slice (some ⟨g, 0, none⟩) m gc) (cur.take m).length ((cur.take m).map Value.string)) := by
                show wr.ownsRow _ _ _ _ _ _
                rw [List.length_take, Nat.min_eq_left (show m ≤ cur.length by rw [hm]; exact Nat.le_succ m)]
                exact ho2
              have HW3 : Aside (PathBack.walk (cur.take m) (ps.drop (k + 1)) = some out) := by
                have := HW2.out
                rw [hm, Nat.add_sub_cancel] at this
                exact this
              have hl3 : (cur.take m).length ≤ 16 := by rw [List.length_take]; exact Nat.le_trans (Nat.min_le_right _ _) hcur
              rw [hm] at hnc ⊢
              have hm15 : m ≤ 100 := by rw [hm] at hcur; exact Nat.le_trans (Nat.le_of_succ_le hcur) (by decide)
              have hw64 := w64 hm15
              have hmx := mx0 m
              have hmg : m ≤ gc := Nat.le_of_succ_le hnc
              clear HW2 hown ho2 htake hcs hcm hbg hg hm h0 hcur
              generalize cur.take m = cur' at HO HW3 hl3
              go_wp2
              clear hw64 hmx hmg hnc h3' h3'' hm15
              go_roundw
              case rel => exact ⟨k + 1, cur', Nat.succ_le_of_lt hlt, by go_num, HW3, hl3, HO, hB⟩
              case measure => exact shrink hlt
        · rw [if_neg hp1] at hs
          by_cases hp2 : 24 < p.size ∨ 16 ≤ cur.length
          · rw [if_pos hp2] at hs; cases hs
          · rw [if_neg hp2] at hs
            cases hs
            have n0 : ¬ p.toList = [] := text_ne fun e => hp0 (.inl e)
            have n1 : ¬ p.toList = [46] := text_ne fun e => hp0 (.inr e)
            have n2 : ¬ p.toList = [46, 46] := text_ne hp1
            have n3 : p.toList.isEmpty = false := by simpa using n0
            have n4 : (p.toList == []) = false := beq_eq_false_iff_ne.2 n0
            have n5 : (p.toList == [46]) = false := beq_eq_false_iff_ne.2 n1
            have n6 : (p.toList == [46, 46]) = false := beq_eq_false_iff_ne.2 n2
            have m1 : ¬ 24 < (p.size : Int) := by omega
            have m2 : ¬ 16 ≤ (cur.length : Int) := by omega
            have hN : Row (wr.alloc (.cells #[.string p] 9)) (.slice (some ⟨wr.heap.size, 0, none⟩) 1 1) [p] := by
              refine ⟨_, 1, rfl, Nat.le_refl _, by simp, .inr ⟨_, 0, rfl, by simp, fun j x hx => ?_⟩⟩
              cases j with
              | zero => simp at hx; subst hx; rw [World.cell?_alloc_at _ _ _ _ rfl]; rfl
              | succ j => simp at hx
            obtain ⟨v2, w2, e2, o2, b2⟩ := app 22 (hown.out.alloc (.cells #[.string p] 9)) hN (by omega) (Nat.le_trans hsz (by simp))
            have O2 : Aside (w2.ownsRow (w.heap.size + 1) 9 1 v2 (cur ++ [p]).length ((cur ++ [p]).map Value.string)) := o2
            have B2 : Aside (Below (w.heap.size + 1) (w.alloc (.cells (ps.map Value.string).toArray 9)) w2) := (hB.out.alloc hsz _).trans b2
            have hl2 : (cur ++ [p]).length ≤ 16 := by simp; omega
            have hform : ∃ A gc, u4 = Value.slice A cur.length gc := by
              rcases hown.out.2 with ⟨hv, h0⟩ | ⟨g, gc, cells, hv, _⟩
              · exact ⟨none, 0, by rw [hv, h0]⟩
              · exact ⟨_, gc, hv⟩
            obtain ⟨A, gc, rfl⟩ := hform
            clear hp0 hp1 hp2 hown hB hN o2 b2
            go_wp2_with (at_builtin; refine wpList_append_run_sl _ rfl (.tmp 26) (.tmp 28) 22 rfl _ _ rfl rfl e2 ?_)
            go_roundw
            case rel => exact ⟨k + 1, cur ++ [p], by omega, by go_num, HW2, hl2, O2, B2⟩
            case measure => simp [RowKit.intOf]; omega
    · obtain rfl : k = ps.length := by omega
      have hout : cur = out := by
        have := hW.out
        rw [List.drop_length, PathBack.walk] at this
        cases this; rfl
      subst hout
      have HR : Aside (Row wr _ cur) := row_of_own hown.out (by omega)
      have HB : Aside (Below w.heap.size w wr) := ((Below.refl w.heap.size w).alloc (Nat.le_refl _) _).trans (hB.out.mono (Nat.le_succ _))
      clear hown hB hW
      go_wp2
      go_ret2
      exact ⟨_, rfl, HR.out, HB.out⟩
end Go.Proofs.YtanhagilpecnkaaDoor
