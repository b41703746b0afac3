/- The reference of chapter 4 by contract. -/
import Derived.Test.YtgehndnlbbkieaaDoorFw9
import Derived.Deep.RegionLawGrows
import Derived.Deep.AppendLies
set_option maxRecDepth 100000
set_option linter.unusedVariables false
set_option linter.unusedSimpArgs false
namespace Go.Proofs.YtgehndnlbbkieaaDoor
open Go.RowKit Go.Extern.Stop Go.Stop Go.Extern
theorem Fw.i52 : Tryd.prog.info? 52 = some Tryd.t52 := by kernel_rfl
theorem Fw.s52 : Tryd.t52.size = 2 := by kernel_rfl
theorem Fw.b52 : Tryd.t52.bytes = 24 := by kernel_rfl
theorem Fw.z52 : Tryd.t52.zero = some (.agg #[.int .i64 0, .string ⟨#[]⟩]) := by kernel_rfl
theorem newTwo0 (w : World) (u v : Value) (t : TypeId) : (w.alloc (.cells #[u, v] t)).cell? ⟨w.heap.size, 0, none⟩ = some u := by simp
theorem newTwo1 (w : World) (u v : Value) (t : TypeId) : (w.alloc (.cells #[u, v] t)).cell? ⟨w.heap.size, 1, none⟩ = some v := by simp
theorem newTwoF (w : World) (u v : Value) (t : TypeId) (i : Nat) : (w.alloc (.cells #[u, v] t)).frozen? ⟨w.heap.size, i, none⟩ = false := by simp
/-- the world when the row is grown -/
def W3 (w : World) (L : Value) (k op : Int) (p : ByteArray) : World :=
  (((w.alloc (.cells #[L, .int .i64 k] 29)).alloc (.cells #[.slice none 0 0, .int .i64 0] 29)).alloc (.cells #[.int .i64 op, .string p] 52)).drew
theorem W3_below (w : World) (L : Value) (k op : Int) (p : ByteArray) : Below w.heap.size w (W3 w L k op p) :=
  ((((Below.refl _ w).alloc (Nat.le_refl _) _).alloc (by simp) _).alloc (by simp; omega) _).drew
theorem lits {W : World} {a : Addr} {l : List Value} (h : ∀ j u, l[j]? = some u → W.cell? (a.add j) = some u) : ∀ b, some a = some b → ∀ j u, l[j]? = some u → W.cell? (b.add j) = some u := fun b hb => by cases hb; exact h
theorem lt1 {m : Nat} (h : 1 ≤ m ∧ m ≤ 13) : 1 < 1 + m := by omega
theorem lt2 {m : Nat} (h : 1 ≤ m ∧ m ≤ 13) : 1 + m ≤ maxLen := by unfold maxLen; omega
theorem lt3 {m : Nat} (h : 1 ≤ m ∧ m ≤ 13) : (1 + m) * 24 ≤ 140737488355328 := by omega
theorem W3_size (w : World) (L : Value) (k op : Int) (p : ByteArray) : (W3 w L k op p).heap.size = w.heap.size + 1 + 1 + 1 := by simp [W3]
theorem W3_cells (w : World) (L : Value) (k op : Int) (p : ByteArray) : (W3 w L k op p).cell? ⟨w.heap.size, 0, none⟩ = some L ∧ (W3 w L k op p).cell? ⟨w.heap.size, 1, none⟩ = some (.int .i64 k) ∧ (W3 w L k op p).cell? ⟨w.heap.size + 1, 0, none⟩ = some (.slice none 0 0) ∧
    (W3 w L k op p).cell? ⟨w.heap.size + 1, 1, none⟩ = some (.int .i64 0) ∧ (W3 w L k op p).frozen? ⟨w.heap.size + 1, 0, none⟩ = false ∧ (W3 w L k op p).frozen? ⟨w.heap.size + 1, 1, none⟩ = false := by
  have e1 : (w.alloc (.cells #[L, .int .i64 k] 29)).heap.size = w.heap.size + 1 := by simp
  have c1 : ∀ i, (W3 w L k op p).cell? ⟨w.heap.size, i, none⟩ = (w.alloc (.cells #[L, .int .i64 k] 29)).cell? ⟨w.heap.size, i, none⟩ := fun i => by
    show ((((w.alloc (.cells #[L, .int .i64 k] 29)).alloc (.cells #[.slice none 0 0, .int .i64 0] 29)).alloc (.cells #[.int .i64 op, .string p] 52))).cell? ⟨w.heap.size, i, none⟩ = _
    rw [World.cell?_alloc_lt _ _ _ (by simp; omega), World.cell?_alloc_lt _ _ _ (by simp)]
  have c2 : ∀ i, (W3 w L k op p).cell? ⟨w.heap.size + 1, i, none⟩ = ((w.alloc (.cells #[L, .int .i64 k] 29)).alloc (.cells #[.slice none 0 0, .int .i64 0] 29)).cell? ⟨(w.alloc (.cells #[L, .int .i64 k] 29)).heap.size, i, none⟩ := fun i => by
    show ((((w.alloc (.cells #[L, .int .i64 k] 29)).alloc (.cells #[.slice none 0 0, .int .i64 0] 29)).alloc (.cells #[.int .i64 op, .string p] 52))).cell? ⟨w.heap.size + 1, i, none⟩ = _
    rw [World.cell?_alloc_lt _ _ _ (by simp), e1]
  have c3 : ∀ i, (W3 w L k op p).frozen? ⟨w.heap.size + 1, i, none⟩ = ((w.alloc (.cells #[L, .int .i64 k] 29)).alloc (.cells #[.slice none 0 0, .int .i64 0] 29)).frozen? ⟨(w.alloc (.cells #[L, .int .i64 k] 29)).heap.size, i, none⟩ := fun i => by
    show ((((w.alloc (.cells #[L, .int .i64 k] 29)).alloc (.cells #[.slice none 0 0, .int .i64 0] 29)).alloc (.cells #[.int .i64 op, .string p] 52))).frozen? ⟨w.heap.size + 1, i, none⟩ = _
    rw [World.frozen?_alloc_old _ _ _ (by simp), e1]
  exact ⟨(c1 0).trans (newTwo0 _ _ _ _), (c1 1).trans (newTwo1 _ _ _ _), (c2 0).trans (newTwo0 _ _ _ _), (c2 1).trans (newTwo1 _ _ _ _), (c3 0).trans (newTwoF _ _ _ _ 0), (c3 1).trans (newTwoF _ _ _ _ 1)⟩
theorem W3_after {w : World} {L : Value} {k op : Int} {p : ByteArray} {w' : World} (h : (W3 w L k op p).grownBy w' none) : w'.cell? ⟨w.heap.size, 0, none⟩ = some L ∧ w'.cell? ⟨w.heap.size, 1, none⟩ = some (.int .i64 k) ∧ w'.cell? ⟨w.heap.size + 1, 0, none⟩ = some (.slice none 0 0) ∧
    w'.cell? ⟨w.heap.size + 1, 1, none⟩ = some (.int .i64 0) ∧ w'.frozen? ⟨w.heap.size + 1, 0, none⟩ = false ∧ w'.frozen? ⟨w.heap.size + 1, 1, none⟩ = false := by
  obtain ⟨h1, h2, h3, h4, h5, h6⟩ := W3_cells w L k op p
  have hb : ∀ b, b < w.heap.size + 1 + 1 + 1 → w'.heap[b]? = (W3 w L k op p).heap[b]? := fun b hb => h.block b (by rw [W3_size]; exact hb) (by simp)
  have l0 : ∀ i, (⟨w.heap.size, i, none⟩ : Addr).block < w.heap.size + 1 + 1 + 1 := fun i => by show w.heap.size < _; omega
  have l1 : ∀ i, (⟨w.heap.size + 1, i, none⟩ : Addr).block < w.heap.size + 1 + 1 + 1 := fun i => by show w.heap.size + 1 < _; omega
  exact ⟨(World.cell?_of_block (hb _ (l0 _))).trans h1, (World.cell?_of_block (hb _ (l0 _))).trans h2, (World.cell?_of_block (hb _ (l1 _))).trans h3, (World.cell?_of_block (hb _ (l1 _))).trans h4,
    (World.frozen?_of_block (hb _ (l1 _))).trans h5, (World.frozen?_of_block (hb _ (l1 _))).trans h6⟩
theorem owns_mono {w : World} {b b' : Nat} {e : TypeId} {size : Nat} {v : Value} {n : Nat} {xs : List Value} (h : w.ownsRow b e size v n xs) (hb : b' ≤ b) : w.ownsRow b' e size v n xs := by
  obtain ⟨h1, h2 | ⟨g, cap, cur, h2, h3, h4⟩⟩ := h
  · exact ⟨h1, .inl h2⟩
  · exact ⟨h1, .inr ⟨g, cap, cur, h2, Nat.le_trans hb h3, h4⟩⟩
theorem res8 (tmps : Array Value) (W : World) (b : Nat) (u v : Value) (h6 : tmps.getD 6 undef = .pointer (some ⟨b, 0, none⟩)) (c0 : W.cell? ⟨b, 0, none⟩ = some u) (c1 : W.cell? ⟨b, 1, none⟩ = some v) :
    (results Tryd.f8 tmps).run Tryd.prog W = .ok (.agg #[u, v]) W := by
  have hr : Tryd.f8.results = #[.cell 6 29] := by rfl
  have h6' : tmps[6]?.getD undef = .pointer (some ⟨b, 0, none⟩) := by simpa using h6
  simp [results, hr, h6', asAddr]
  go_simp
set_option maxHeartbeats 2000000 in
theorem RWrap_some (op : Int) (p : ByteArray) (k : Int) (hk : (k == 0) = false) (ad : Addr) (m c : Nat) (xs : List Value) (hl : xs.length = m * 2) (h1 : ∀ u ∈ xs, u.oneCell' = true) (hm : 1 ≤ m) (hm2 : m ≤ 13) (w : World) (hxs : ∀ j u, xs[j]? = some u → w.cell? (ad.add j) = some u) :
    Calls Tryd.prog 8 #[.int .i64 op, .string p, .agg #[.slice (some ad) m c, .int .i64 k]] w fun ev w' => ∃ v', ev = .returned (.agg #[v', .int .i64 k]) ∧ w'.ownsRow w.heap.size 52 2 v' (1 + m) (.int .i64 op :: .string p :: xs) ∧ Below w.heap.size w w' := by
  have hC : Aside (∀ j u, [Value.int .i64 op, .string p][j]? = some u → (W3 w (.slice (some ad) m c) k op p).cell? ((⟨w.heap.size + 1 + 1, 0, none⟩ : Addr).add j) = some u) := by
    intro j u hj
    match j, hj with
    | 0, hj => simp at hj; subst hj; unfold W3; simp [Addr.add]; rw [show w.heap.size + 1 + 1 = ((w.alloc (.cells #[.slice (some ad) m c, .int .i64 k] 29)).alloc (.cells #[.slice none 0 0, .int .i64 0] 29)).heap.size from by simp]; exact newTwo0 _ _ _ _
    | 1, hj => simp at hj; subst hj; unfold W3; simp [Addr.add]; rw [show w.heap.size + 1 + 1 = ((w.alloc (.cells #[.slice (some ad) m c, .int .i64 k] 29)).alloc (.cells #[.slice none 0 0, .int .i64 0] 29)).heap.size from by simp]; exact newTwo1 _ _ _ _
  have hX : Aside (∀ j u, xs[j]? = some u → (W3 w (.slice (some ad) m c) k op p).cell? (ad.add j) = some u) := by
    intro j u hj
    have := hxs j u hj
    exact ((W3_below w _ k op p).cell (cell_lt this)).trans this
  have hL : Aside (xs.length = m * 2) := hl
  have hO : Aside (∀ u ∈ xs, u.oneCell' = true) := h1
  have hM : Aside (1 ≤ m ∧ m ≤ 13) := ⟨hm, hm2⟩
  clear hl h1 hm hm2 hxs
  go_enter Tryd.func8, Tryd.ntmps8
  go_wp2_with (fail)
  go_region_law (
    refine step_append_grows rfl (.tmp 14) (.tmp 16) 27 rfl 52 Tryd.t52 (.agg #[.int .i64 0, .string ⟨#[]⟩]) 2 24 Tryd.underlying27 Fw.i52 Fw.z52 Fw.s52 Fw.b52 rfl (by decide) (some ⟨w.heap.size + 1 + 1, 0, none⟩) 1 1 [.int .i64 op, .string p] (by simp [Act.eval, Act.put]) (fun h => by cases h) rfl (lits hC.out) ad m c xs (by simp [Act.eval, Act.put]) hL.out hX.out hO.out (lt1 hM.out) (lt2 hM.out) (lt3 hM.out) ?_
    intro v' w' hown hgrow
    obtain ⟨g, cap, rfl, hg1, hg2⟩ := hown.form (by omega)
    have D : Aside (w'.ownsRow (W3 w (.slice (some ad) m c) k op p).heap.size 52 2 (.slice (some ⟨g, 0, none⟩) (1 + m) cap) (1 + m) (.int .i64 op :: .string p :: xs) ∧ (W3 w (.slice (some ad) m c) k op p).grownBy w' none) := ⟨hown, hgrow⟩
    clear hown hgrow hg1 hg2
    obtain ⟨g0, g2, g3, g4, g5, g6⟩ := W3_after D.out.2)
  all_goals go_wp2
  all_goals (
    have hb3 : Below w.heap.size w w' := (W3_below w _ k op p).trans (((Below.refl _ _).grown D.out.2 (Nat.le_refl _) (fun _ h => by cases h)).mono (W3_below w _ k op p).size)
    have hAB : (⟨w.heap.size + 1, 0, none⟩ : Addr) ≠ ⟨w.heap.size + 1, 1, none⟩ := by simp
    refine bodyPost_ret_by (res8 _ _ (w.heap.size + 1) (.slice (some ⟨g, 0, none⟩) (1 + m) cap) (.int .i64 k) rfl ?_ ?_) rfl ⟨_, rfl, owns_mono (ownsRow_setCell_below (ownsRow_setCell_below D.out.1 (by rw [W3_size]; show w.heap.size + 1 < _; omega) _) (by rw [W3_size]; show w.heap.size + 1 < _; omega) _) (W3_below w _ k op p).size, (hb3.setCell (by show w.heap.size ≤ w.heap.size + 1; omega) _).setCell (by show w.heap.size ≤ w.heap.size + 1; omega) _⟩
    · rw [World.cell?_setCell_other (h := hAB.symm)]; exact World.cell?_setCell_same' _ _ _ (by rw [g3]; rfl)
    · exact World.cell?_setCell_same' _ _ _ (by rw [World.cell?_setCell_other (h := hAB), g4]; rfl))
theorem RWrap_zero (op : Int) (p : ByteArray) (w : World) : Calls Tryd.prog 8 #[.int .i64 op, .string p, .agg #[.slice none 0 0, .int .i64 0]] w fun ev w' => ev = .returned (.agg #[.slice none 0 0, .int .i64 0]) ∧ Below w.heap.size w w' := by
  have hb : Below w.heap.size w ((w.alloc (.cells #[.slice none 0 0, .int .i64 0] 29)).alloc (.cells #[.slice none 0 0, .int .i64 0] 29)) := ((Below.refl _ w).alloc (Nat.le_refl _) _).alloc (by simp) _
  have e1 : (w.alloc (.cells #[.slice none 0 0, .int .i64 0] 29)).heap.size = w.heap.size + 1 := by simp
  have c0 := newTwo0 (w.alloc (.cells #[.slice none 0 0, .int .i64 0] 29)) (.slice none 0 0) (.int .i64 0) 29
  have c1 := newTwo1 (w.alloc (.cells #[.slice none 0 0, .int .i64 0] 29)) (.slice none 0 0) (.int .i64 0) 29
  rw [e1] at c0 c1
  have A : Aside (Below w.heap.size w ((w.alloc (.cells #[.slice none 0 0, .int .i64 0] 29)).alloc (.cells #[.slice none 0 0, .int .i64 0] 29))) := hb
  clear hb e1
  go_enter Tryd.func8, Tryd.ntmps8
  go_wp2_with (fail)
  exact bodyPost_ret_by (res8 _ _ (w.heap.size + 1) _ _ rfl c0 c1) rfl ⟨rfl, A.out⟩
theorem RWrap_nil (op : Int) (p : ByteArray) (k : Int) (hk : (k == 0) = false) (w : World) : Calls Tryd.prog 8 #[.int .i64 op, .string p, .agg #[.slice none 0 0, .int .i64 k]] w fun ev w' =>
    ∃ v', ev = .returned (.agg #[v', .int .i64 k]) ∧ w'.ownsRow w.heap.size 52 2 v' 1 [.int .i64 op, .string p] ∧ Below w.heap.size w w' := by
  go_enter Tryd.func8, Tryd.ntmps8
  go_wp2_with (fail)
  go_region
  all_goals go_wp2
  all_goals (
    generalize hA : (Obj.cells #[Value.slice none 0 0, Value.int IntKind.i64 k] 29) = A
    have e1 : (w.alloc A).heap.size = w.heap.size + 1 := by simp
    have e2 : ((w.alloc A).alloc (.cells #[.slice (some ⟨w.heap.size + 1 + 1, 0, none⟩) 1 1, .int .i64 k] 29)).heap.size = w.heap.size + 1 + 1 := by simp
    have c0 := newTwo0 (w.alloc A) (.slice (some ⟨w.heap.size + 1 + 1, 0, none⟩) 1 1) (.int .i64 k) 29
    have c1 := newTwo1 (w.alloc A) (.slice (some ⟨w.heap.size + 1 + 1, 0, none⟩) 1 1) (.int .i64 k) 29
    rw [e1] at c0 c1
    have hb3 := (Below.refl _ ((w.alloc A).alloc (.cells #[.slice (some ⟨w.heap.size + 1 + 1, 0, none⟩) 1 1, .int .i64 k] 29))).alloc (Nat.le_refl _) (.cells #[.int .i64 op, .string p] 52)
    have hbw : Below w.heap.size w (((w.alloc A).alloc (.cells #[.slice (some ⟨w.heap.size + 1 + 1, 0, none⟩) 1 1, .int .i64 k] 29)).alloc (.cells #[.int .i64 op, .string p] 52)) := (((Below.refl _ w).alloc (Nat.le_refl _) _).alloc (by simp) _).alloc (by simp; omega) _
    have hnew := heap_alloc_new ((w.alloc A).alloc (.cells #[.slice (some ⟨w.heap.size + 1 + 1, 0, none⟩) 1 1, .int .i64 k] 29)) (.cells #[.int .i64 op, .string p] 52)
    rw [e2] at hnew
    exact bodyPost_ret_by (res8 _ _ (w.heap.size + 1) (.slice (some ⟨w.heap.size + 1 + 1, 0, none⟩) 1 1) (.int .i64 k) rfl (cellStep c0 hb3.drew) (cellStep c1 hb3.drew)) rfl
      ⟨_, rfl, ⟨by simp, .inr ⟨w.heap.size + 1 + 1, 1, #[.int .i64 op, .string p], rfl, by omega, hnew, Nat.le_refl _, by unfold maxLen; omega, rfl, rfl⟩⟩, hbw.drew⟩)
theorem RCode_c (L : Value) (k : Int) (w : World) : Calls Tryd.prog 12 #[.agg #[L, .int .i64 k]] w fun ev w' => ev = .returned (.int .i64 k) ∧ Below w.heap.size w w' := by
  go_enter Tryd.func12, Tryd.ntmps12
  go_wp2_with (fail)
  go_ret
  exact ⟨rfl, (Below.refl _ w).alloc (Nat.le_refl _) _⟩
theorem RWhere_nil (k : Int) (w : World) : Calls Tryd.prog 10 #[.agg #[.slice none 0 0, .int .i64 k]] w fun ev w' => ev = .returned (.tuple #[.int .i64 0, .string ⟨#[]⟩, .bool false]) ∧ Below w.heap.size w w' := by
  go_enter Tryd.func10, Tryd.ntmps10
  go_wp2_with (fail)
  go_ret3
  exact ⟨rfl, (Below.refl _ w).alloc (Nat.le_refl _) _⟩
theorem RWhere_some (g : Nat) (m c : Nat) (hm : 0 < (m : Int)) (op k : Int) (p : ByteArray) (w : World) (h0 : w.cell? ⟨g, 0, none⟩ = some (.int .i64 op)) (h1 : w.cell? ⟨g, 1, none⟩ = some (.string p)) :
    Calls Tryd.prog 10 #[.agg #[.slice (some ⟨g, 0, none⟩) m c, .int .i64 k]] w fun ev w' => ev = .returned (.tuple #[.int .i64 op, .string p, .bool true]) ∧ Below w.heap.size w w' := by
  have hb : Below w.heap.size w (w.alloc (.cells #[.slice (some ⟨g, 0, none⟩) m c, .int .i64 k] 29)) := (Below.refl _ w).alloc (Nat.le_refl _) _
  have k0 := cellStep h0 hb
  have k1 := cellStep h1 hb
  have A : Aside (Below w.heap.size w (w.alloc (.cells #[.slice (some ⟨g, 0, none⟩) m c, .int .i64 k] 29))) := hb
  have hm0 : ((m : Int) == 0) = false := by simp; omega
  clear hb h0 h1
  go_enter Tryd.func10, Tryd.ntmps10
  go_wp2_with (fail)
  go_region
  all_goals go_wp2
  all_goals (go_ret3; first | exact ⟨rfl, A.out⟩ | exact ⟨rfl, A.out.drew⟩)
end Go.Proofs.YtgehndnlbbkieaaDoor
