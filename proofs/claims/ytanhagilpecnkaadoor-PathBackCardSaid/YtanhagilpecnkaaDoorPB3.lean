/- Rows of one's own; Text, And, Under. -/
import Derived.Test.YtanhagilpecnkaaDoorPB2
import Derived.Lib.SlFresh
import Derived.Maps.AppendAt
import Derived.Deep.Upon
import Derived.OwnWalk
set_option linter.unusedVariables false
set_option linter.unusedSimpArgs false
set_option maxRecDepth 100000
namespace Go.Proofs.YtanhagilpecnkaaDoor
open Go.RowKit Go.Proofs.YtanhagilpecnkaaDoor.PathBack Go.Lib Go.Deep
/-- a row of texts in memory -/
def Row (w : World) (v : Value) (l : List ByteArray) : Prop :=
  ∃ A cap, v = .slice A l.length cap ∧ l.length ≤ cap ∧ l.length ≤ 1000 ∧ (l = [] ∨ ∃ b o, A = some ⟨b, o, none⟩ ∧ b < w.heap.size ∧ ∀ j x, l[j]? = some x → w.cell? ⟨b, o + j, none⟩ = some (.string x))
theorem Row.on {w w' : World} {v : Value} {l : List ByteArray} (h : Row w v l) (hb : Below w.heap.size w w') : Row w' v l := by
  obtain ⟨A, cap, rfl, h1, h2, h3⟩ := h
  refine ⟨A, cap, rfl, h1, h2, ?_⟩
  rcases h3 with h | ⟨b, o, rfl, hlt, hc⟩
  · exact .inl h
  · exact .inr ⟨b, o, rfl, Nat.lt_of_lt_of_le hlt hb.size, fun j x hx => (hb.cell hlt).trans (hc j x hx)⟩
theorem Row.nms {w : World} {v : Value} {l : List ByteArray} (h : Row w v l) : Nms w v l.length (fun j => l.getD j ByteArray.empty) := by
  obtain ⟨A, cap, rfl, h1, h2, h3⟩ := h
  refine ⟨by omega, A, cap, rfl, ?_⟩
  rcases h3 with h | ⟨b, o, rfl, hlt, hc⟩
  · exact .inl (by rw [h]; rfl)
  · exact .inr ⟨b, o, rfl, hlt, fun j hj => hc j _ (by simp [List.getD, List.getElem?_eq_getElem hj])⟩
/-- a row of one's own reads so -/
theorem row_of_own {w : World} {base : Nat} {v : Value} {l : List ByteArray} (h : w.ownsRow base 9 1 v l.length (l.map Value.string)) (hl : l.length ≤ 1000) : Row w v l := by
  rcases h.2 with ⟨rfl, h0⟩ | ⟨g, cap, cur, rfl, hb, hg, hnc, hcm, hcs, htake⟩
  · have : l = [] := List.eq_nil_of_length_eq_zero h0
    subst this
    exact ⟨none, 0, rfl, Nat.le_refl _, by simp, .inl rfl⟩
  · refine ⟨some ⟨g, 0, none⟩, cap, rfl, hnc, hl, .inr ⟨g, 0, rfl, ?_, fun j x hx => ?_⟩⟩
    · rcases Nat.lt_or_ge g w.heap.size with h | h
      · exact h
      · rw [Array.getElem?_eq_none h] at hg; cases hg
    · have := h.cells (g := g) rfl j (.string x) (by rw [List.getElem?_map, hx]; rfl)
      simpa [Addr.add_lit] using this
theorem below_drewN {B : Nat} {a w : World} (h : Below B a w) (q : Nat) : Below B a (w.drewN q) := by
  induction q generalizing w with
  | zero => exact h
  | succ n ih => exact (ih h).drew
theorem same_self {w : World} {a b : Value} {l : List ByteArray} (ha : Row w a l) (hb : Row w b l) : Calls Tryd.prog 7 #[a, b] w fun e w' => e = .returned (.bool true) ∧ Below w.heap.size w w' :=
  (nmsSame ha.nms hb.nms w (Below.refl _ _)).mono fun e w' ⟨h1, q, h2⟩ => ⟨by rw [h1, sameTo_self]; simp, by rw [h2]; exact below_drewN (Below.refl _ _) q⟩
theorem hi9 : ∃ i, Tryd.prog.info? 9 = some i ∧ i.zero = some (.string ByteArray.empty) ∧ i.size = 1 ∧ i.bytes = 16 :=
  Go.info_parts (show (Tryd.prog.info? 9).map (fun i => (i.zero, i.size, i.bytes)) = some (some (.string ByteArray.empty), 1, 16) by kernel_rfl)
theorem src0 (w : World) (A : Option Addr) (cap : Nat) {n : Nat} : Src Tryd.prog n 22 (.slice A 0 cap) 0 [] w :=
  ⟨.inl ⟨9, Tryd.underlying22⟩, fun w' => rfl, by cases A <;> simp [Builtin.firstCells, loadCells, loadCellsFrom], by cases A <;> simp [Builtin.firstCells, loadCells, loadCellsFrom], by simp, fun u hu => by cases hu⟩
/-- texts of a row, appended to a row of one's own -/
theorem app {w : World} {base : Nat} {v : Value} {xs : List ByteArray} (ty : TypeId) (h : w.ownsRow base 9 1 v xs.length (xs.map Value.string)) {x : Value} {l : List ByteArray} (hr : Row w x l) (hx : xs.length ≤ 1000) (hb : base ≤ w.heap.size) :
    ∃ v' w', (Builtin.append_ #[22, 22] ty #[v, x]).run Tryd.prog w = .ok v' w' ∧ w'.ownsRow base 9 1 v' (xs ++ l).length ((xs ++ l).map Value.string) ∧ Below base w w' := by
  obtain ⟨i, hi, hz, hs, hby⟩ := hi9
  obtain ⟨A, cap, rfl, h1, h2, h3⟩ := hr
  rcases h3 with rfl | ⟨b, o, rfl, hlt, hc⟩
  · refine ⟨v, w, ?_, by simpa using h, Below.refl _ _⟩
    rcases h.2 with ⟨rfl, h0⟩ | ⟨g, gc, cur, rfl, _, _, hnc, _⟩
    · refine run_append_nothing w 22 22 ty 9 i Tryd.underlying22 hi none 0 0 (Nat.le_refl _) _ ?_
      exact src0 w A cap
    · refine run_append_nothing w 22 22 ty 9 i Tryd.underlying22 hi _ _ _ hnc _ ?_
      exact src0 w A cap
  · obtain ⟨v', w', g1, g2, g3, g4⟩ := run_append_own (P := Tryd.prog) w base 22 ty 9 i (.string ByteArray.empty) 1 16 Tryd.underlying22 hi hz hs hby rfl (by decide) v xs.length _ h ⟨b, o, none⟩ l.length cap (l.map Value.string) (by simp)
      (fun j u hu => by
        rw [List.getElem?_map] at hu
        cases hl : l[j]? with
        | none => rw [hl] at hu; cases hu
        | some y => rw [hl] at hu; cases hu; simpa [Addr.add_lit] using hc j y hl)
      (fun u hu => by obtain ⟨y, _, rfl⟩ := List.mem_map.1 hu; rfl) (by unfold maxLen; omega) (by omega) hb
    exact ⟨v', w', g1, by rw [List.length_append, List.map_append]; exact g2, (Below.refl _ _).grown g3 hb fun k hk => (h.lt k hk).1⟩
set_option maxHeartbeats 2000000 in
theorem text (v : Value) (l : List ByteArray) (w : World) (hr : Row w v l) (hl : (join (l.map (·.data.toList)) [47]).length ≤ 1000) :
    Calls Tryd.prog 6 #[v] w fun e w' => e = .returned (.string ⟨⟨47 :: join (l.map (·.data.toList)) [47]⟩⟩) ∧ Below w.heap.size w w' := by
  have hj : Calls Tryd.prog 14 #[v, .string ⟨#[47]⟩] w fun e w' => e = .returned (.string ⟨⟨join (l.map (·.data.toList)) [47]⟩⟩) ∧ Below w.heap.size w w' := by
    obtain ⟨A, cap, rfl, h1, h2, h3⟩ := hr
    rcases h3 with rfl | ⟨b, o, rfl, hlt, hc⟩
    · exact (Tryd.strings_Join_none A cap _ w).mono fun e w' ⟨h1, h2⟩ => ⟨h1, by rw [h2]; exact Below.refl _ _⟩
    · exact Tryd.strings_Join b o cap l _ w hc hlt (by omega) h1 (by simpa using (by omega : (join (l.map (·.data.toList)) [47]).length ≤ 140737488355328))
  obtain ⟨A, cap, rfl, -⟩ := hr
  generalize join (l.map (·.data.toList)) [47] = t at hj hl ⊢
  have hsz : (⟨⟨t⟩⟩ : ByteArray).size = t.length := rfl
  generalize hT : (⟨⟨t⟩⟩ : ByteArray) = T at hj hsz
  have h47 : (⟨#[47]⟩ : ByteArray) ++ T = ⟨⟨47 :: t⟩⟩ := by rw [← hT]; rfl
  rw [← h47]
  have hn : ¬ 9223372036854775807 < 1 + T.size := by omega
  clear hT h47 hsz
  go_enter Tryd.func6, Tryd.ntmps6
  go_wp2_with (go_at_call 14; refine hj.mono ?_; rintro e w' ⟨rfl, hbl⟩)
  go_ret
  exact ⟨rfl, hbl⟩
set_option maxHeartbeats 2000000 in
theorem and_ (v : Value) (l : List ByteArray) (name : ByteArray) (w : World) (hr : Row w v l) (hl : l.length ≤ 100) :
    Calls Tryd.prog 9 #[v, .string name] w fun e w' => ∃ u, e = .returned u ∧ Row w' u (l ++ [name]) ∧ Below w.heap.size w w' := by
  have b0 : Below w.heap.size w (w.alloc (.cells #[] 9)) := (Below.refl _ _).alloc (Nat.le_refl _) _
  obtain ⟨v1, w1, e1, o1, b1⟩ := app (w := w.alloc (.cells #[] 9)) (base := w.heap.size) (v := .slice (some ⟨w.heap.size, 0, none⟩) 0 0) (xs := []) 22 (World.ownsRow_made w #[] 0 (Nat.le_refl _) (by decide) rfl) (hr.on b0) (by simp) b0.size
  rw [List.nil_append] at o1
  have hs1 : w.heap.size ≤ w1.heap.size := Nat.le_trans b0.size b1.size
  have hN : Row (w1.alloc (.cells #[.string name] 9)) (.slice (some ⟨w1.heap.size, 0, none⟩) 1 1) [name] := by
    refine ⟨_, 1, rfl, Nat.le_refl _, by simp, .inr ⟨_, 0, rfl, by simp, fun j x hx => ?_⟩⟩
    cases j with
    | zero => simp at hx; subst hx; rw [World.cell?_alloc_at _ _ _ _ rfl]; rfl
    | succ j => simp at hx
  obtain ⟨v2, w2, e2, o2, b2⟩ := app 22 (o1.alloc (.cells #[.string name] 9)) hN (by omega) (Nat.le_trans hs1 (by simp))
  have hend : Row w2 v2 (l ++ [name]) ∧ Below w.heap.size w w2 := ⟨row_of_own o2 (by simp; omega), (b0.trans (b1.mono (Nat.le_refl _))).trans (((Below.refl w.heap.size w1).alloc hs1 _).trans b2)⟩
  have H : Aside (Row w2 v2 (l ++ [name]) ∧ Below w.heap.size w w2) := hend
  clear hend hN o1 o2 b1 b2
  obtain ⟨A, cap, rfl, -⟩ := hr
  go_enter Tryd.func9, Tryd.ntmps9
  go_wp2_with (first
    | (at_builtin; refine wpList_append_run_sl _ rfl (.tmp 5) (.tmp 6) 22 rfl _ _ rfl rfl e1 ?_)
    | (at_builtin; refine wpList_append_run_sl _ rfl (.tmp 7) (.tmp 9) 22 rfl _ _ rfl rfl e2 ?_))
  go_ret
  exact ⟨_, rfl, H.out.1, H.out.2⟩
set_option maxHeartbeats 2000000 in
theorem underNo (a b : Value) (l : List ByteArray) (w : World) (ha : Row w a l) (hb : Row w b l) :
    Calls Tryd.prog 8 #[a, b] w fun e w' => e = .returned (.bool false) ∧ Below w.heap.size w w' := by
  obtain ⟨A, ca, rfl, h1, h2, -⟩ := ha
  obtain ⟨B, cb, rfl, -, -, -⟩ := hb
  generalize l.length = n at h1 h2 ⊢
  go_enter Tryd.func8, Tryd.ntmps8
  go_wp2
  go_ret
  exact ⟨rfl, Below.refl _ _⟩
set_option maxHeartbeats 2000000 in
theorem underYes (a b : Value) (l : List ByteArray) (x : ByteArray) (w : World) (ha : Row w a (l ++ [x])) (hb : Row w b l) :
    Calls Tryd.prog 8 #[a, b] w fun e w' => e = .returned (.bool true) ∧ Below w.heap.size w w' := by
  have hn := hb.nms
  obtain ⟨A, ca, rfl, h1, h2, h3⟩ := ha
  rw [List.length_append, List.length_singleton] at h1 h2 ⊢
  have hp : Nms w (.slice A l.length ca) l.length (fun j => l.getD j ByteArray.empty) := by
    refine ⟨by omega, A, ca, rfl, .inr ?_⟩
    rcases h3 with h3 | ⟨bb, o, rfl, hlt, hc⟩
    · simp at h3
    · exact ⟨bb, o, rfl, hlt, fun j hj => hc j _ (by simp [List.getElem?_append_left hj, List.getD, List.getElem?_eq_getElem hj])⟩
  have h15 : ∀ W, Below w.heap.size w W → Calls Tryd.prog 15 #[.slice A l.length ca, b] W fun e w' => e = .returned (.bool true) ∧ Below W.heap.size W w' := fun W hW =>
    (nmsEq hp hn W hW).mono fun e w' ⟨g1, q, g2⟩ => ⟨by rw [g1, sameTo_self]; simp, by rw [g2]; exact below_drewN (Below.refl _ _) q⟩
  obtain ⟨B, cb, rfl, -, -, -⟩ := hb
  have h15' := h15 w (Below.refl _ _)
  clear h3 hp hn h15
  generalize l.length = n at h1 h2 h15' ⊢
  go_enter Tryd.func8, Tryd.ntmps8
  go_wp2_with (go_at_call 15; refine h15'.mono ?_; rintro e w' ⟨rfl, hbl⟩)
  go_ret
  exact ⟨rfl, hbl⟩
end Go.Proofs.YtanhagilpecnkaaDoor
