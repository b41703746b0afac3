/- What functions of the program compute, written down; read off their code. -/
import Derived.Test.YtkccnomdfkhfnaaEvRead
import Derived.Test.YtkccnomdfkhfnaaEvX1
set_option linter.unusedVariables false
set_option linter.unusedSimpArgs false
namespace Go.Proofs.Ytkccnomdfkhfnaa.Ev
open Go.RowKit

/-! ## data in memory -/
theorem decL_one {fz : Fz} : ∀ (l : LT) (x : l.T) (v : Value), decL fz l x v → oneC v = true
  | .int k, x, v, h => by simp only [decL] at h; rw [h.1]; rfl
  | .bool, x, v, h => by simp only [decL] at h; rw [h]; rfl
  | .str, x, v, h => by simp only [decL] at h; rw [h.1]; rfl
  | .row e, xs, v, h => by obtain ⟨a, c, rfl, _⟩ := row_len h; rfl
theorem decE_move {fz : Fz} : ∀ (e : ET) (x : e.T) (cs cs' : Array Value) (p q : Nat), (∀ j, j < e.sz → cs'[q + j]? = cs[p + j]?) → decE fz e x cs p → decE fz e x cs' q
  | .one l, x, cs, cs', p, q, hm, h => by
    simp only [decE] at h ⊢
    obtain ⟨v, h1, h2⟩ := h
    exact ⟨v, by have := hm 0 (Nat.succ_pos 0); rw [Nat.add_zero, Nat.add_zero] at this; rw [this]; exact h1, h2⟩
  | .cons l e, x, cs, cs', p, q, hm, h => by
    simp only [decE] at h ⊢
    obtain ⟨⟨v, h1, h2⟩, h3⟩ := h
    refine ⟨⟨v, by have := hm 0 (Nat.succ_pos _); rw [Nat.add_zero, Nat.add_zero] at this; rw [this]; exact h1, h2⟩, decE_move e x.2 cs cs' (p + 1) (q + 1) (fun j hj => ?_) h3⟩
    have := hm (j + 1) (Nat.succ_lt_succ hj)
    rw [show q + 1 + j = q + (j + 1) from by omega, show p + 1 + j = p + (j + 1) from by omega]; exact this
theorem ofL_vr {μ : Mu} : ∀ (l : LT) (x : l.T) (v : Value), decL μ.fz l x v → vr μ (ofL l x) v
  | .int k, x, v, h => by simp only [decL] at h; exact vr_x.2 h
  | .bool, x, v, h => by simp only [decL] at h; exact vr_x.2 h
  | .str, x, v, h => by simp only [decL] at h; exact vr_x.2 h
  | .row e, x, v, h => vr_x.2 h
theorem ofE_len : ∀ (e : ET) (x : e.T), (ofE e x).length = e.sz
  | .one l, x => rfl
  | .cons l e, x => by show (ofE e x.2).length + 1 = _; rw [ofE_len e]; rfl
/-- the cells of an element -/
theorem decE_cells {μ : Mu} : ∀ (e : ET) (x : e.T) (cs : Array Value) (p : Nat), decE μ.fz e x cs p →
    ∃ vs, vrL μ (ofE e x) vs ∧ vs.length = e.sz ∧ (∀ j v, vs[j]? = some v → cs[p + j]? = some v) ∧ ∀ v ∈ vs, oneC v = true
  | .one l, x, cs, p, h => by
    simp only [decE] at h
    obtain ⟨v, h1, h2⟩ := h
    refine ⟨[v], vrL_cons.2 ⟨ofL_vr l x v h2, vrL_nil.2 rfl⟩, rfl, fun j u hj => ?_, fun u hu => ?_⟩
    · cases j with
      | zero => simp at hj; subst hj; exact h1
      | succ j => simp at hj
    · simp at hu; subst hu; exact decL_one l x _ h2
  | .cons l e, x, cs, p, h => by
    simp only [decE] at h
    obtain ⟨⟨v, h1, h2⟩, h3⟩ := h
    obtain ⟨vs, g1, g2, g3, g4⟩ := decE_cells e x.2 cs (p + 1) h3
    refine ⟨v :: vs, vrL_cons.2 ⟨ofL_vr l x.1 v h2, g1⟩, by rw [List.length_cons, g2]; rfl, fun j u hj => ?_, fun u hu => ?_⟩
    · cases j with
      | zero => simp at hj; subst hj; exact h1
      | succ j => have := g3 j u (by simpa using hj); rw [show p + (j + 1) = p + 1 + j from by omega]; exact this
    · rcases List.mem_cons.1 hu with q | q
      · subst q; exact decL_one l x.1 _ h2
      · exact g4 u q

/-- a slice whose elements lie in memory -/
def SlIn (w : World) (fz : Fz) (e : ET) (xs : List e.T) (v : Value) : Prop :=
  ∃ a c, v = .slice a xs.length c ∧ xs.length ≤ c ∧ xs.length * e.by ≤ Room ∧ (xs.length = 0 ∨ ∃ b off cs el fr, a = some ⟨b, off, none⟩ ∧ w.heap[b]? = some (.cells cs el fr) ∧
    off + c * e.sz ≤ cs.size ∧ ∀ (i : Nat) (x : e.T), xs[i]? = some x → decE fz e x cs (off + i * e.sz))
theorem SlIn.of_row {n0 : Nat} {μ : Mu} {st : St} {w : World} (h : RX n0 μ st w) {e : ET} {xs : List e.T} {v : Value} (hv : decL μ.fz (.row e) xs v) : SlIn w μ.fz e xs v := by
  simp only [decL] at hv
  obtain ⟨a, c, h1, h2, h3, h4⟩ := hv
  refine ⟨a, c, h1, h2, h3, h4.imp id fun ⟨b, off, cs, g1, g2, g3, g4⟩ => ?_⟩
  obtain ⟨el, fr, g5⟩ := h.fzh b cs g2
  exact ⟨b, off, cs, el, fr, g1, g5, g3, g4⟩

/-- its first cells -/
theorem SlIn.cells {P : Program} {μ : Mu} {w : World} {e : ET} {xs : List e.T} {v : Value} (h : SlIn w μ.fz e xs v) : ∃ vs : List Value, vs.length = xs.length * e.sz ∧ (∀ x ∈ vs, oneC x = true) ∧
    (Builtin.firstCells e.sz xs.length v).run P w = .ok ⟨vs⟩ w ∧ ∀ (cs : Array Value) (q : Nat), (∀ j u, vs[j]? = some u → cs[q + j]? = some u) → ∀ (i : Nat) (x : e.T), xs[i]? = some x → decE μ.fz e x cs (q + i * e.sz) := by
  obtain ⟨a, c, rfl, h2, h3, h4⟩ := h
  rcases h4 with h4 | ⟨b, off, cs, el, fr, rfl, g2, g3, g4⟩
  · have hx : xs = [] := List.eq_nil_of_length_eq_zero h4
    subst hx
    refine ⟨[], by simp, (fun x hx => by cases hx), ?_, fun cs q _ i x hx => by simp at hx⟩
    cases a with
    | none => rfl
    | some q => show (loadCells q (0 * e.sz)).run P w = _; rw [Nat.zero_mul]; rfl
  · have hsz : off + xs.length * e.sz ≤ cs.size := by
      have := Nat.mul_le_mul_right e.sz h2
      omega
    have hget : ∀ j, j < xs.length * e.sz → (((cs.toList.drop off).take (xs.length * e.sz))[j]? = cs[off + j]?) := fun j hj => by
      rw [List.getElem?_take, if_pos hj, List.getElem?_drop, Array.getElem?_toList]
    refine ⟨(cs.toList.drop off).take (xs.length * e.sz), by simp; omega, fun x hx => ?_, ?_, fun cs' q hq i x hx => ?_⟩
    · obtain ⟨j, hj, rfl⟩ := List.mem_iff_getElem.1 hx
      have hj' : j < xs.length * e.sz := by simp at hj; omega
      -- the cell belongs to an element
      have hpos : 0 < e.sz := e.sz_pos
      have hi : j / e.sz < xs.length := by rw [Nat.div_lt_iff_lt_mul hpos]; exact hj'
      obtain ⟨vs, _, k2, k3, k4⟩ := decE_cells (μ := μ) e xs[j / e.sz] cs _ (g4 (j / e.sz) _ (List.getElem?_eq_getElem hi))
      have hm : j % e.sz < vs.length := by rw [k2]; exact Nat.mod_lt _ hpos
      have h5 := k3 (j % e.sz) vs[j % e.sz] (List.getElem?_eq_getElem hm)
      have e1 : off + j / e.sz * e.sz + j % e.sz = off + j := by have := Nat.div_add_mod j e.sz; rw [Nat.mul_comm] at this; omega
      rw [e1] at h5
      have h6 := hget j hj'
      rw [h5, List.getElem?_eq_getElem hj] at h6
      rw [Option.some.inj h6]
      exact k4 _ (List.getElem_mem hm)
    · show (Builtin.firstCells e.sz xs.length (.slice (some ⟨b, off, none⟩) xs.length c)).run P w = _
      exact run_loadCells g2 _ hsz
    · refine decE_move e x cs cs' _ _ (fun j hj => ?_) (g4 i x hx)
      have hi : i < xs.length := (List.getElem?_eq_some_iff.1 hx).1
      have hlt : i * e.sz + j < xs.length * e.sz := by
        have : (i + 1) * e.sz ≤ xs.length * e.sz := Nat.mul_le_mul_right _ hi
        rw [Nat.add_mul] at this
        omega
      have h5 := hget (i * e.sz + j) hlt
      rw [← Nat.add_assoc] at h5
      have hlt2 : off + i * e.sz + j < cs.size := by omega
      rw [Array.getElem?_eq_getElem hlt2] at h5 ⊢
      have := hq (i * e.sz + j) _ h5
      rw [← Nat.add_assoc] at this
      exact this

/-! ## what is one's own is kept from being written -/
theorem RS.addC {n0 : Nat} {w0 : World} {μ : Mu} {st : St} {w : World} (h : RS n0 w0 μ st w) (c : List Prop) : RS n0 w0 μ (addC st c) w := by
  obtain ⟨hp, nx, wm, rows, cs, orc⟩ := st
  exact ⟨h.fresh, h.blk, h.obj, h.own, h.apart, h.below, h.pos, h.wle, ⟨h.x.fresh, h.x.fzh, h.x.fzo, h.x.row, h.x.rown, h.x.rap, h.x.rapo, h.x.fzn, h.x.kph, h.x.kpo, h.x.kpr, h.x.fro⟩⟩
theorem Post.addC {n0 : Nat} {w0 : World} {μ μ' : Mu} {st st' : St} {w : World} (h : Post n0 w0 μ st μ' st' w) (c : List Prop) : Post n0 w0 μ st μ' (addC st' c) w := by
  obtain ⟨hp, nx, wm, rows, cs, orc⟩ := st'
  exact ⟨h.ext, h.old, h.rs.addC c, h.next, h.wm, h.bar⟩

def Fz.add (f : Fz) (b : Nat) (cs : Array Value) : Fz := fun b' => if b' = b then some cs else f b'
theorem Fz.add_same (f : Fz) (b : Nat) (cs : Array Value) : f.add b cs b = some cs := if_pos rfl
theorem Fz.add_ne (f : Fz) {b b' : Nat} (cs : Array Value) (h : b' ≠ b) : f.add b cs b' = f b' := if_neg h
theorem Fz.add_ext {f : Fz} {b : Nat} {cs : Array Value} (h : ∀ c, f b = some c → c = cs) : FzExt f (f.add b cs) := fun b' c e => by
  by_cases q : b' = b
  · subst q; rw [Fz.add_same, h c e]
  · rw [Fz.add_ne _ _ q]; exact e
theorem Fz.add_none {f : Fz} {b b' : Nat} {cs : Array Value} (h : f.add b cs b' = none) : f b' = none := by
  unfold Fz.add at h
  split at h
  · cases h
  · exact h

theorem RowRel.ext {f g : Fz} (h : FzExt f g) {r : RowAt} {ro : RowO} {heap : Array Obj} (k : RowRel f r ro heap) : RowRel g r ro heap := by
  obtain ⟨a1, a2, a3, a4, a5, a6⟩ := k
  refine ⟨a1, a2, a3, a4, a5, fun b off hb => ?_⟩
  obtain ⟨cs, el, fr, g1, g2, g3, g4, g5⟩ := a6 b off hb
  exact ⟨cs, el, fr, g1, g2, fun i x hx => decE_ext h _ _ _ _ (g3 i x hx), g4, fun hf => h _ _ (g5 hf)⟩

theorem setRow_rows (st : St) (o : Nat) (r : RowO) : (setRow st o r).x.rows = st.x.rows.set o r := by obtain ⟨hp, nx, wm, rows, cs, orc⟩ := st; rfl
theorem setRow_heap (st : St) (o : Nat) (r : RowO) : (setRow st o r).heap = st.heap := by obtain ⟨hp, nx, wm, rows, cs, orc⟩ := st; rfl
theorem setRow_next (st : St) (o : Nat) (r : RowO) : (setRow st o r).next = st.next := by obtain ⟨hp, nx, wm, rows, cs, orc⟩ := st; rfl
theorem setRow_wmin (st : St) (o : Nat) (r : RowO) : (setRow st o r).wmin = st.wmin := by obtain ⟨hp, nx, wm, rows, cs, orc⟩ := st; rfl
theorem setRow_cs (st : St) (o : Nat) (r : RowO) : (setRow st o r).x.cs = st.x.cs := by obtain ⟨hp, nx, wm, rows, cs, orc⟩ := st; rfl
theorem addC_rows (st : St) (c : List Prop) : (addC st c).x.rows = st.x.rows := by obtain ⟨hp, nx, wm, rows, cs, orc⟩ := st; rfl
theorem addC_heap (st : St) (c : List Prop) : (addC st c).heap = st.heap := by obtain ⟨hp, nx, wm, rows, cs, orc⟩ := st; rfl
theorem addC_next (st : St) (c : List Prop) : (addC st c).next = st.next := by obtain ⟨hp, nx, wm, rows, cs, orc⟩ := st; rfl
theorem addC_wmin (st : St) (c : List Prop) : (addC st c).wmin = st.wmin := by obtain ⟨hp, nx, wm, rows, cs, orc⟩ := st; rfl
theorem addC_cs (st : St) (c : List Prop) : (addC st c).x.cs = c ++ st.x.cs := by obtain ⟨hp, nx, wm, rows, cs, orc⟩ := st; rfl
theorem getRow_eq (st : St) (o : Nat) : getRow st o = st.x.rows.get o := rfl

/-- states that differ in the rows alone -/
theorem RS.rows {n0 : Nat} {w0 : World} {μ μ' : Mu} {st st' : St} {w : World} (h : RS n0 w0 μ st w) (hx : Ext μ μ') (hpl : μ'.pl = μ.pl) (h1 : st'.heap = st.heap) (h2 : st'.next = st.next) (h3 : st'.wmin = st.wmin)
    (hX : RX n0 μ' st' w) : Post n0 w0 μ st μ' st' w := by
  refine ⟨hx, fun o _ => congrFun hpl o, ⟨?_, ?_, ?_, ?_, ?_, h.below, h.pos, by rw [h3, h2]; exact h.wle, hX⟩, by rw [h2]; exact Nat.le_refl _, h3, fun o _ => by rw [h1]⟩
  · intro o ho; rw [hpl]; exact h.fresh o (by rw [← h2]; exact ho)
  · intro o p hp; rw [hpl] at hp; exact h.blk o p hp
  · intro o p ob hp ho; rw [hpl] at hp; rw [h1] at ho; exact ORel_ext hx (h.obj o p ob hp ho)
  · intro o p ob hp ho; rw [hpl] at hp; rw [h1] at ho; exact h.own o p ob hp ho
  · intro o o' p p' ob ob' hne k1 k2 k3 k4; rw [hpl] at k1 k2; rw [h1] at k3 k4; exact h.apart o o' p p' ob ob' hne k1 k2 k3 k4

theorem RS.freezeRow {n0 : Nat} {w0 : World} {μ : Mu} {st : St} {w : World} (h : RS n0 w0 μ st w) {o : Nat} {r : RowAt} {ro : RowO} (hr : μ.own o = some r) (hro : st.x.rows.get o = some ro) :
    ∃ f, Post n0 w0 μ st ⟨μ.pl, f, μ.own, μ.f0, μ.kp⟩ (setRow st o ⟨ro.e, ro.xs, ro.ver, true⟩) w ∧ ∀ b off cs el fr, r.at_ = some (b, off) → w.heap[b]? = some (.cells cs el fr) → f b = some cs := by
  have hR := h.x.row o r ro hr hro
  have hget : ∀ o', (st.x.rows.set o ⟨ro.e, ro.xs, ro.ver, true⟩).get o' = if o' = o then some ⟨ro.e, ro.xs, ro.ver, true⟩ else st.x.rows.get o' := fun o' => Tr.get_set _ _ _ _
  cases hat : r.at_ with
  | none =>
    refine ⟨μ.fz, h.rows (Ext.refl _) rfl (setRow_heap _ _ _) (setRow_next _ _ _) (setRow_wmin _ _ _) ⟨?_, h.x.fzh, ?_, ?_, ?_, ?_, ?_, h.x.fzn, h.x.kph, by rw [setRow_heap]; exact h.x.kpo, (fun o' r' ro' b off k1 k2 k3 => by
      rw [setRow_rows, hget] at k2
      split at k2
      · cases k2; cases k3
      · exact h.x.kpr o' r' ro' b off k1 k2 k3), by rw [setRow_heap]; exact h.x.fro⟩, fun b off cs el fr e => by cases e⟩
    · rw [setRow_next]; exact h.x.fresh
    · rw [setRow_heap]; exact h.x.fzo
    · intro o' r' ro' k1 k2
      rw [setRow_rows, hget] at k2
      split at k2
      · rename_i e; subst e; cases k2
        have k1 : μ.own _ = some r' := k1
        rw [hr] at k1; cases k1
        obtain ⟨a1, a2, a3, a4, a5, a6⟩ := hR
        exact ⟨a1, a2, a3, a4, a5, fun b off hb => by rw [hat] at hb; cases hb⟩
      · exact h.x.row o' r' ro' k1 k2
    · intro o' r' ro' b off k1 k2 k3
      rw [setRow_rows, hget] at k2
      split at k2
      · cases k2; cases k3
      · exact h.x.rown o' r' ro' b off k1 k2 k3
    · intro o1 o2 r1 r2 ro1 ro2 b off off' hne k1 k2 k3 k4 k5 k6
      rw [setRow_rows, hget] at k3 k4
      split at k3
      · cases k3; cases k5
      · split at k4
        · cases k4; cases k6
        · exact h.x.rap o1 o2 r1 r2 ro1 ro2 b off off' hne k1 k2 k3 k4 k5 k6
    · intro o1 r1 ro1 b off o' p ob k1 k2 k3
      rw [setRow_rows, hget] at k2
      rw [setRow_heap]
      split at k2
      · cases k2; cases k3
      · exact h.x.rapo o1 r1 ro1 b off o' p ob k1 k2 k3
  | some q =>
    obtain ⟨b0, off0⟩ := q
    obtain ⟨a1, a2, a3, a4, a5, a6⟩ := hR
    obtain ⟨cs0, el0, fr0, g1, g2, g3, g4, g5⟩ := a6 b0 off0 hat
    have hex : FzExt μ.fz (μ.fz.add b0 cs0) := Fz.add_ext fun c e => by
      obtain ⟨el, fr, q⟩ := h.x.fzh b0 c e
      rw [g1] at q; cases q; rfl
    refine ⟨μ.fz.add b0 cs0, h.rows (μ' := ⟨μ.pl, μ.fz.add b0 cs0, μ.own, μ.f0, μ.kp⟩) ⟨fun _ _ e => e, hex, OwnExt.refl _, rfl, rfl⟩ rfl (setRow_heap _ _ _) (setRow_next _ _ _) (setRow_wmin _ _ _) ⟨?_, ?_, ?_, ?_, ?_, ?_, ?_, fun b cs e => ?_, h.x.kph, by rw [setRow_heap]; exact h.x.kpo, (fun o' r' ro' b off k1 k2 k3 => by
      rw [setRow_rows, hget] at k2
      split at k2
      · cases k2; cases k3
      · exact h.x.kpr o' r' ro' b off k1 k2 k3), fun o' p ob k1 k2 k3 k4 => ?_⟩, fun b off cs el fr e k => ?_⟩
    · rw [setRow_next]; exact h.x.fresh
    · intro b cs e
      have e : (μ.fz.add b0 cs0) b = some cs := e
      by_cases q : b = b0
      · subst q; rw [Fz.add_same] at e; cases e; exact ⟨el0, fr0, g1⟩
      · rw [Fz.add_ne _ _ q] at e; exact h.x.fzh b cs e
    · intro o' p ob k1 k2 k3
      rw [setRow_heap] at k2
      show (μ.fz.add b0 cs0) p.blk = none
      have hn := h.x.fzo o' p ob k1 k2 k3
      rw [Fz.add_ne]
      · exact hn
      · intro e
        cases hf : ro.fr with
        | true => rw [e, g5 hf] at hn; cases hn
        | false => exact h.x.rapo o r ro b0 off0 o' p ob hr hro hf hat k1 k2 (AObj.free_live k3) e
    · intro o' r' ro' k1 k2
      rw [setRow_rows, hget] at k2
      split at k2
      · rename_i e; subst e; cases k2
        have k1 : μ.own _ = some r' := k1
        rw [hr] at k1; cases k1
        refine ⟨a1, a2, a3, a4, a5, fun b off hb => ?_⟩
        rw [hat] at hb; cases hb
        exact ⟨cs0, el0, fr0, g1, g2, fun i x hx => decE_ext hex _ _ _ _ (g3 i x hx), (fun e => nomatch e), fun _ => Fz.add_same _ _ _⟩
      · exact (h.x.row o' r' ro' k1 k2).ext hex
    · intro o' r' ro' b off k1 k2 k3 k4
      rw [setRow_rows, hget] at k2
      split at k2
      · cases k2; cases k3
      · rename_i hne
        obtain ⟨q1, q2⟩ := h.x.rown o' r' ro' b off k1 k2 k3 k4
        refine ⟨q1, ?_⟩
        show (μ.fz.add b0 cs0) b = none
        rw [Fz.add_ne]
        · exact q2
        · intro e; subst e
          cases hf : ro.fr with
          | true => rw [g5 hf] at q2; cases q2
          | false => exact h.x.rap o' o r' r ro' ro _ _ _ hne k1 hr k2 hro k3 hf k4 hat
    · intro o1 o2 r1 r2 ro1 ro2 b off off' hne k1 k2 k3 k4 k5 k6
      rw [setRow_rows, hget] at k3 k4
      split at k3
      · cases k3; cases k5
      · split at k4
        · cases k4; cases k6
        · exact h.x.rap o1 o2 r1 r2 ro1 ro2 b off off' hne k1 k2 k3 k4 k5 k6
    · intro o1 r1 ro1 b off o' p ob k1 k2 k3
      rw [setRow_rows, hget] at k2
      rw [setRow_heap]
      split at k2
      · cases k2; cases k3
      · exact h.x.rapo o1 r1 ro1 b off o' p ob k1 k2 k3
    · have e : (μ.fz.add b0 cs0) b = some cs := e
      by_cases q : b = b0
      · subst q
        cases hf : ro.fr with
        | true =>
          have := g5 hf
          rw [Fz.add_same] at e; cases e
          exact h.x.fzn _ _ this
        | false => exact .inr (h.x.kpr o r ro _ off0 hr hro hf hat)
      · rw [Fz.add_ne _ _ q] at e; exact h.x.fzn b cs e
    · rw [setRow_heap] at k2
      obtain ⟨c, q⟩ := h.x.fro o' p ob k1 k2 k3 k4
      exact ⟨c, hex _ _ q⟩
    · have e : some (b0, off0) = some (b, off) := e
      cases e
      rw [g1] at k; cases k
      exact Fz.add_same _ _ _

theorem setRo_eq (st : St) (o : Nat) (ob : AObj) : (setRo st o ob).heap = st.heap.set o ob ∧ (setRo st o ob).next = st.next ∧ (setRo st o ob).wmin = st.wmin ∧ (setRo st o ob).x = st.x := by cases st; exact ⟨rfl, rfl, rfl, rfl⟩
/-- a row of cells is kept from being written -/
theorem RS.freezeObj {n0 : Nat} {w0 : World} {μ : Mu} {st : St} {w : World} (h : RS n0 w0 μ st w) {o : Nat} {p : Place} {c : Tr AV} {lim esz : Nat} {rd : Bool} (hp : μ o = some p) (hob : st.heap.get o = some (.cells c lim esz rd 0)) (hwm : st.wmin ≤ o) :
    ∃ f cs, Post n0 w0 μ st ⟨μ.pl, f, μ.own, μ.f0, μ.kp⟩ (setRo st o (.cells c lim esz true 0)) w ∧ f p.blk = some cs ∧ ∃ el fr, w.heap[p.blk]? = some (.cells cs el fr) ∧ cs.size = p.size ∧ esz = p.esz ∧
      ∀ k, p.lo ≤ k → k < lim → ∃ v, cs[p.at_ k]? = some v ∧ vr μ ((c.get k).getD .top) v := by
  obtain ⟨cs, el, fr, g1, g2, g3, g4, g5⟩ := h.obj o p _ hp hob
  obtain ⟨e1, e2, e3, e4⟩ := setRo_eq st o (.cells c lim esz true 0)
  have hget : ∀ o', (st.heap.set o (.cells c lim esz true 0)).get o' = if o' = o then some (.cells c lim esz true 0) else st.heap.get o' := fun o' => Tr.get_set _ _ _ _
  have hex : FzExt μ.fz (μ.fz.add p.blk cs) := Fz.add_ext fun c e => by
    obtain ⟨el, fr, q⟩ := h.x.fzh _ c e
    rw [g1] at q; cases q; rfl
  have hx : Ext μ ⟨μ.pl, μ.fz.add p.blk cs, μ.own, μ.f0, μ.kp⟩ := ⟨fun _ _ e => e, hex, OwnExt.refl _, rfl, rfl⟩
  have halone : ∀ o' p' ob', o' ≠ o → μ o' = some p' → st.heap.get o' = some ob' → ob'.live = true → p'.blk ≠ p.blk := fun o' p' ob' hne k1 k2 k3 e => by
    have := h.apart o o' p p' _ ob' (Ne.symm hne) hp k1 hob k2 rfl k3 e.symm
    simp [AObj.twin] at this
  refine ⟨μ.fz.add p.blk cs, cs, ⟨hx, fun _ _ => rfl, ⟨?_, h.blk, ?_, ?_, ?_, h.below, h.pos, by rw [e3, e2]; exact h.wle, ⟨?_, ?_, ?_, ?_, ?_, ?_, ?_, fun b c0 e => ?_, h.x.kph, fun o' p' ob' k1 k2 k3 => ?_, by rw [e4]; exact h.x.kpr, fun o' p' ob' k1 k2 k3 k4 => ?_⟩⟩, by rw [e2]; exact Nat.le_refl _, e3, ?_⟩, Fz.add_same _ _ _, el, fr, g1, g2, g3, g5⟩
  · rw [e2]; exact h.fresh
  · intro o' p' ob' k1 k2
    rw [e1, hget] at k2
    split at k2
    · rename_i e; subst e; cases k2
      have k1 : μ _ = some p' := k1
      rw [hp] at k1; cases k1
      exact ⟨cs, el, fr, g1, g2, g3, (fun e => nomatch e), fun k a b => let ⟨v, x, y⟩ := g5 k a b; ⟨v, x, vr_ext hx _ _ y⟩⟩
    · exact ORel_ext hx (h.obj o' p' ob' k1 k2)
  · intro o' p' ob' k1 k2 k3
    rw [e1, hget] at k2
    split at k2
    · cases k2; cases k3
    · exact h.own o' p' ob' k1 k2 k3
  · intro a a' q q' oa oa' hne k1 k1' k2 k2' k3 k3' he
    rw [e1, hget] at k2 k2'
    split at k2
    · rename_i e; subst e
      have k1 : μ _ = some q := k1
      rw [hp] at k1; cases k1
      rw [if_neg (Ne.symm hne)] at k2'
      exact absurd he.symm (halone a' q' oa' (Ne.symm hne) k1' k2' k3')
    · rename_i e
      split at k2'
      · rename_i e'; subst e'
        have k1' : μ _ = some q' := k1'
        rw [hp] at k1'; cases k1'
        exact absurd he (halone a q oa hne k1 k2 k3)
      · exact h.apart a a' q q' oa oa' hne k1 k1' k2 k2' k3 k3' he
  · rw [e2]; exact h.x.fresh
  · intro b cs' e
    have e : (μ.fz.add p.blk cs) b = some cs' := e
    by_cases q : b = p.blk
    · subst q; rw [Fz.add_same] at e; cases e; exact ⟨el, fr, g1⟩
    · rw [Fz.add_ne _ _ q] at e; exact h.x.fzh b cs' e
  · intro o' p' ob' k1 k2 k3
    rw [e1, hget] at k2
    split at k2
    · cases k2; cases k3
    · rename_i hne
      show (μ.fz.add p.blk cs) p'.blk = none
      rw [Fz.add_ne _ _ (halone o' p' ob' hne k1 k2 (AObj.free_live k3))]
      exact h.x.fzo o' p' ob' k1 k2 k3
  · intro o' r ro k1 k2
    rw [e4] at k2
    exact (h.x.row o' r ro k1 k2).ext hex
  · intro o' r ro b off k1 k2 k3 k4
    rw [e4] at k2
    obtain ⟨q1, q2⟩ := h.x.rown o' r ro b off k1 k2 k3 k4
    refine ⟨q1, ?_⟩
    show (μ.fz.add p.blk cs) b = none
    rw [Fz.add_ne _ _ (Ne.symm (h.x.rapo o' r ro b off o p _ k1 k2 k3 k4 hp hob rfl))]; exact q2
  · rw [e4]; exact h.x.rap
  · intro o' r ro b off o1 p1 ob1 k1 k2 k3 k4 k5 k6 k7
    rw [e4] at k2
    rw [e1, hget] at k6
    split at k6
    · rename_i e; subst e
      have k5 : μ _ = some p1 := k5
      rw [hp] at k5; cases k5
      exact h.x.rapo o' r ro b off _ p _ k1 k2 k3 k4 hp hob rfl
    · exact h.x.rapo o' r ro b off o1 p1 ob1 k1 k2 k3 k4 k5 k6 k7
  · have e : (μ.fz.add p.blk cs) b = some c0 := e
    by_cases q : b = p.blk
    · subst q
      cases rd with
      | false => exact .inr (h.x.kpo o p _ hp hob rfl)
      | true =>
        obtain ⟨c1, q1⟩ := h.x.fro o p _ hp hob rfl rfl
        have q2 := hex _ _ q1
        rw [e] at q2; cases q2
        exact h.x.fzn _ _ q1
    · rw [Fz.add_ne _ _ q] at e; exact h.x.fzn b c0 e
  · rw [e1, hget] at k2
    split at k2
    · cases k2; cases k3
    · exact h.x.kpo o' p' ob' k1 k2 k3
  · rw [e1, hget] at k2
    split at k2
    · rename_i e; subst e
      have k1 : μ _ = some p' := k1
      rw [hp] at k1; cases k1
      exact ⟨cs, Fz.add_same _ _ _⟩
    · obtain ⟨c, q⟩ := h.x.fro o' p' ob' k1 k2 k3 k4
      exact ⟨c, hex _ _ q⟩
  · intro o' ho
    rw [e1, hget, if_neg (by omega)]

/-! ## values as data -/
theorem eqL_cast {e f : ET} (h : e = f) (xs : List e.T) : rCast h xs = h ▸ xs := by subst h; rfl
theorem chunks_ok {α : Type} {e : ET} {n0 : Nat} {w0 : World} {w : World} {f : List AV → St → Option (e.T × St)}
    (hf : ∀ l μ st x st' vs, RS n0 w0 μ st w → vrL μ l vs → f l st = some (x, st') → ∃ μ', Post n0 w0 μ st μ' st' w ∧ ∀ cs p, (∀ (j : Nat) v, vs[j]? = some v → cs[p + j]? = some v) → decE μ'.fz e x cs p) :
    ∀ (n : Nat) (l : List AV) (μ : Mu) (st : St) (xs : List e.T) (st' : St) (vs : List Value), RS n0 w0 μ st w → vrL μ l vs → chunks f ([] : List e.T) (fun x r => x :: r) e.sz n l st = some (xs, st') →
      ∃ μ', Post n0 w0 μ st μ' st' w ∧ xs.length = n ∧ ∀ (cs : Array Value) (p : Nat), (∀ (j : Nat) v, vs[j]? = some v → cs[p + j]? = some v) → ∀ (i : Nat) (x : e.T), xs[i]? = some x → decE μ'.fz e x cs (p + i * e.sz)
  | 0, l, μ, st, xs, st', vs, h, hv, hs => by
    simp only [chunks] at hs
    cases hs
    exact ⟨μ, Post.refl h, rfl, fun cs p _ i x hx => by simp at hx⟩
  | n + 1, l, μ, st, xs, st', vs, h, hv, hs => by
    simp only [chunks] at hs
    obtain ⟨a, st1, h1, hs⟩ := obind2_elim hs
    obtain ⟨r, st2, h2, hs⟩ := obind2_elim hs
    cases hs
    obtain ⟨μ1, p1, d1⟩ := hf _ _ _ _ _ _ h (vrL_take e.sz _ _ hv) h1
    obtain ⟨μ2, p2, l2, d2⟩ := chunks_ok (α := α) hf n _ μ1 st1 r _ (vs.drop e.sz) p1.rs (vrL_ext p1.ext _ _ (vrL_drop e.sz _ _ hv)) h2
    refine ⟨μ2, p1.trans p2, by rw [List.length_cons, l2], fun cs p hcs i x hx => ?_⟩
    cases i with
    | zero =>
      simp at hx; subst hx
      rw [Nat.zero_mul, Nat.add_zero]
      refine decE_ext p2.ext.fz _ _ _ _ (d1 cs p fun j v hj => hcs j v ?_)
      rw [List.getElem?_take] at hj
      split at hj
      · exact hj
      · cases hj
    | succ i =>
      have := d2 cs (p + e.sz) (fun j v hj => by
        rw [List.getElem?_drop] at hj
        have := hcs (e.sz + j) v hj
        rw [← Nat.add_assoc] at this; exact this) i x (by simpa using hx)
      rw [Nat.add_mul, Nat.one_mul, show p + (i * e.sz + e.sz) = p + e.sz + i * e.sz from by omega]; exact this

theorem toOwn_ok {n0 : Nat} {w0 : World} {μ : Mu} {st st' : St} {w : World} (h : RS n0 w0 μ st w) {e e' : ET} {o ver : Nat} {fu : Bool} {lo n : Nat} {xs : List e.T} {v : Value} (hs : toOwn e e' st o ver fu lo n = some (xs, st')) (hv : vr μ (.x (.own o ver e' fu lo n)) v) : ∃ μ', Post n0 w0 μ st μ' st' w ∧ decL μ'.fz (.row e) xs v := by
  unfold toOwn at hs
  obtain ⟨ro, hro, hs⟩ := obind_elim hs
  obtain ⟨hver, hs1⟩ := need_some hs
  obtain ⟨hE', hs2⟩ := need_some hs1
  rw [beq_iff'] at hver
  split at hs2
  · rename_i hh he0
    cases hs2
    obtain ⟨r, h1, h2, h3, h4, h5⟩ := vr_x.1 hv
    obtain ⟨hE⟩ := hh
    have hee : ro.e = e' := by
      cases q : eqET e' e with
      | none => rw [q] at hE'; cases hE'
      | some z => exact hE.trans z.down.symm
    obtain ⟨re, rxs, rv, rf⟩ := ro
    dsimp only at hver hE hee
    subst hE
    subst hee
    have hR := h.x.row o r _ h1 hro
    obtain ⟨f, hp, hfz⟩ := h.freezeRow h1 hro
    refine ⟨_, hp, ?_⟩
    obtain ⟨a1, a2, a3, a4, a5, a6⟩ := hR
    obtain ⟨k1, k2, k3⟩ := h5 (hver.trans a1.symm)
    obtain ⟨ad, c, rfl, g1, g2⟩ := h3
    -- the elements
    have hsub : xSub (rCast rfl rxs) fu lo n = (rxs.drop lo).take n := by
      show bsel fu rxs _ = _
      cases fu with
      | false => rfl
      | true =>
        obtain ⟨q1, q2⟩ := k3 rfl
        subst q1
        have : rxs.length = n := by rw [q2]; exact a2.symm
        show rxs = _
        rw [List.drop_zero, ← this, List.take_length]
    have hlen : (List.take n (List.drop lo rxs)).length = n := by
      have : r.len = rxs.length := a2
      rw [List.length_take, List.length_drop]; omega
    rw [hsub]
    simp only [decL]
    refine ⟨ad, c, by rw [hlen], by rw [hlen]; exact g1, by rw [hlen]; exact h4, ?_⟩
    rw [hlen]
    by_cases h0 : n = 0
    · exact .inl h0
    · have hval := k1 (.inr (by omega))
      unfold RowAt.val at hval
      injection hval with e1 e2 e3
      cases hat : r.at_ with
      | none =>
        have := a5 hat
        omega
      | some q =>
        obtain ⟨b, off⟩ := q
        obtain ⟨cs, el, fr, m1, m2, m3, m4, m5⟩ := a6 b off hat
        rw [hat] at e1
        refine .inr ⟨b, off + lo * re.sz, cs, e1, hfz b off cs el fr hat m1, ?_, fun i x hx => ?_⟩
        · have : lo * re.sz + (r.cap - lo) * re.sz = r.cap * re.sz := by rw [← Nat.add_mul]; congr 1; omega
          have m2 : off + r.cap * re.sz ≤ cs.size := m2
          subst e3
          omega
        · have hx : (List.take n (List.drop lo rxs))[i]? = some x := hx
          rw [List.getElem?_take] at hx
          split at hx
          · rw [List.getElem?_drop] at hx
            have := decE_ext hp.ext.fz _ _ _ _ (m3 (lo + i) x hx)
            rw [Nat.add_mul, ← Nat.add_assoc] at this
            exact this
          · cases hx
  · cases hs2

mutual
theorem toL_ok {n0 : Nat} {w0 w : World} : ∀ (l : LT) (a : AV) (μ : Mu) (st : St) (x : l.T) (st' : St) (v : Value), RS n0 w0 μ st w → vr μ a v → toL l a st = some (x, st') → ∃ μ', Post n0 w0 μ st μ' st' w ∧ decL μ'.fz l x v
  | .int k, a, μ, st, x, st', v, h, hv, hs => by
    simp only [toL] at hs
    obtain ⟨k', n, h1, hs⟩ := obind2_elim hs
    obtain ⟨hk, hs2⟩ := need_some hs
    have := sameK_eq hk; subst this
    cases hs2
    refine ⟨μ, Post.refl h, ?_⟩
    simp only [decL]
    exact tI_ok h1 hv
  | .bool, a, μ, st, x, st', v, h, hv, hs => by
    simp only [toL] at hs
    obtain ⟨b, h1, hs⟩ := obind_elim hs
    cases hs
    refine ⟨μ, Post.refl h, ?_⟩
    simp only [decL]
    exact tB_ok h1 hv
  | .str, a, μ, st, x, st', v, h, hv, hs => by
    simp only [toL] at hs
    obtain ⟨b, h1, hs⟩ := obind_elim hs
    cases hs
    refine ⟨μ, Post.refl h, ?_⟩
    simp only [decL]
    exact tS_ok h1 hv
  | .row e, a, μ, st, x, st', v, h, hv, hs => by
    have hnil : ∀ b c, v = .slice b 0 c → decL μ.fz (.row e) ([] : List e.T) v := fun b c q => by
      simp only [decL]
      exact ⟨b, c, q, Nat.zero_le _, by simp, .inl rfl⟩
    cases a <;> simp only [toL] at hs <;> try (cases hs; done)
    case nils =>
      cases hs
      simp only [vr] at hv
      exact ⟨μ, Post.refl h, hnil _ _ hv⟩
    case loose =>
      cases hs
      simp only [vr] at hv
      obtain ⟨p, c, off, _, q⟩ := hv
      exact ⟨μ, Post.refl h, hnil _ _ q⟩
    case sl o k len cap kn esz =>
      obtain ⟨hby, hs⟩ := need_some hs
      obtain ⟨r, st2, h1, hs⟩ := obind2_elim hs
      cases hs
      unfold toSl at h1
      obtain ⟨hsz, h1⟩ := need_some h1
      rw [beq_iff'] at hsz
      split at h1
      · rename_i c lim es rdo hob
        obtain ⟨hin, h1⟩ := need_some h1
        rw [Bool.and_eq_true, ble_iff, ble_iff, add_eq', mul_eq'] at hin
        simp only [vr] at hv
        obtain ⟨p, cp, hp, hk, rfl, hpe, hcap, hkn, hlc, hroom⟩ := hv
        obtain ⟨f, cs, hpost, hfz, el, fr, q1, q2, q3, q4⟩ := h.freezeObj hp hob hin.2
        -- the cells
        have hvl : ∃ vs, vrL ⟨μ.pl, f, μ.own, μ.f0, μ.kp⟩ (rd c k (Nat.mul len e.sz)) vs ∧ ∀ (j : Nat) u, vs[j]? = some u → cs[p.at_ k + j]? = some u := by
          have : ∀ (m : Nat) (k' : Nat), p.lo ≤ k' → k' + m ≤ lim → ∃ vs, vrL ⟨μ.pl, f, μ.own, μ.f0, μ.kp⟩ (rd c k' m) vs ∧ ∀ (j : Nat) u, vs[j]? = some u → cs[p.at_ k' + j]? = some u := by
            intro m
            induction m with
            | zero => intro k' _ _; exact ⟨[], vrL_nil.2 rfl, fun j u hj => by simp at hj⟩
            | succ m ih =>
              intro k' h1 h2
              obtain ⟨vs, g1, g2⟩ := ih (k' + 1) (by omega) (by omega)
              obtain ⟨u, g3, g4⟩ := q4 k' h1 (by omega)
              rw [rd_succ]
              refine ⟨u :: vs, vrL_cons.2 ⟨vr_ext hpost.ext _ _ g4, g1⟩, fun j u' hj => ?_⟩
              cases j with
              | zero => simp at hj; subst hj; exact g3
              | succ j =>
                have := g2 j u' (by simpa using hj)
                rw [p.at_add h1] at this
                rw [show p.at_ k' + (j + 1) = p.at_ k' + 1 + j from by omega]; exact this
          exact this _ k hk hin.1
        obtain ⟨vs, g1, g2⟩ := hvl
        have hch := chunks_ok (α := Unit) (e := e) (n0 := n0) (w0 := w0) (w := w) (f := toE e) (fun l μ st x st' vs h1 h2 h3 => toE_ok e l μ st x st' vs h1 h2 h3) len _ _ _ r _ vs hpost.rs g1 h1
        obtain ⟨μ', p2, l2, d2⟩ := hch
        refine ⟨μ', hpost.trans p2, ?_⟩
        simp only [decL]
        have l2 : List.length r = len := l2
        rw [ble_iff, mul_eq'] at hby
        refine ⟨_, cp, by rw [show List.length (lR r) = len from l2], by rw [show List.length (lR r) = len from l2]; exact hlc, by rw [show List.length (lR r) = len from l2]; exact hby, .inr ⟨p.blk, p.at_ k, cs, rfl, p2.ext.fz _ _ hfz, ?_, d2 cs _ g2⟩⟩
        rw [← hsz, q2]; exact hroom
      · cases h1
    case x s =>
      cases s <;> simp only [toL] at hs <;> try (cases hs; done)
      case row e' xs =>
        split at hs
        · rename_i hh _
          obtain ⟨hE⟩ := hh
          cases hs
          subst hE
          exact ⟨μ, Post.refl h, vr_x.1 hv⟩
        · cases hs
      case own o ver e' fu lo n =>
        obtain ⟨r, st2, h1, hs⟩ := obind2_elim hs
        cases hs
        exact toOwn_ok h h1 hv
theorem toE_ok {n0 : Nat} {w0 w : World} : ∀ (e : ET) (l : List AV) (μ : Mu) (st : St) (x : e.T) (st' : St) (vs : List Value), RS n0 w0 μ st w → vrL μ l vs → toE e l st = some (x, st') →
    ∃ μ', Post n0 w0 μ st μ' st' w ∧ ∀ (cs : Array Value) (p : Nat), (∀ (j : Nat) v, vs[j]? = some v → cs[p + j]? = some v) → decE μ'.fz e x cs p
  | .one l, a, μ, st, x, st', vs, h, hv, hs => by
    simp only [toE] at hs
    split at hs
    · rename_i a'
      obtain ⟨y, st2, h1, hs⟩ := obind2_elim hs
      cases hs
      obtain ⟨v, rfl, h2⟩ := args1 hv
      obtain ⟨μ', p1, d1⟩ := toL_ok l a' μ st y _ v h h2 h1
      refine ⟨μ', p1, fun cs p hcs => ?_⟩
      simp only [decE]
      exact ⟨v, by have := hcs 0 v rfl; rwa [Nat.add_zero] at this, d1⟩
    · cases hs
  | .cons l e, a, μ, st, x, st', vs, h, hv, hs => by
    simp only [toE] at hs
    split at hs
    · rename_i a' r
      obtain ⟨y, st1, h1, hs⟩ := obind2_elim hs
      obtain ⟨z, st2, h2, hs⟩ := obind2_elim hs
      cases hs
      simp only [vrL] at hv
      obtain ⟨v, vs', rfl, g1, g2⟩ := hv
      obtain ⟨μ1, p1, d1⟩ := toL_ok l a' μ st y _ v h g1 h1
      obtain ⟨μ2, p2, d2⟩ := toE_ok e r μ1 st1 z _ vs' p1.rs (vrL_ext p1.ext _ _ g2) h2
      refine ⟨μ2, p1.trans p2, fun cs p hcs => ?_⟩
      simp only [decE]
      refine ⟨⟨v, by have := hcs 0 v rfl; rwa [Nat.add_zero] at this, decL_ext p2.ext.fz _ _ _ d1⟩, d2 cs (p + 1) fun j u hj => ?_⟩
      have := hcs (j + 1) u (by simpa using hj)
      rw [show p + 1 + j = p + (j + 1) from by omega]; exact this
    · cases hs
end

/-! ## reads -/
theorem cellsAt_ok {μ : Mu} {l : List AV} {j n : Nat} {a : AV} (h : cellsAt l j n = some a) : (n = 0 ∧ l[j]? = some a) ∨ (n ≠ 0 ∧ j + n ≤ l.length ∧ a = .agg ((l.drop j).take n)) := by
  unfold cellsAt at h
  rcases bsel_some h with ⟨h1, h2⟩ | ⟨h1, h2⟩
  · rw [beq_iff'] at h1; exact .inl ⟨h1, h2⟩
  · obtain ⟨h3, h4⟩ := need_some h2
    cases h4
    rw [ble_iff, lenA_eq, add_eq'] at h3
    exact .inr ⟨(fun e => by rw [beq_iff'.2 e] at h1; cases h1), h3, rfl⟩
/-- a load out of an element -/
theorem run_loadAt {P : Program} {μ : Mu} {w : World} {t : TypeId} {n b off j : Nat} {e : ET} {x : e.T} {cs : Array Value} {el : TypeId} {fr : Nat × Nat} {a : AV} (hb : w.heap[b]? = some (.cells cs el fr)) (hd : decE μ.fz e x cs off)
    (hn : aggN P t = some n) (hc : cellsAt (ofE e x) j n = some a) : ∃ u, (loadVar t ⟨b, off + j, none⟩).run P w = .ok u w ∧ vr μ a u := by
  obtain ⟨vs, g1, g2, g3, g4⟩ := decE_cells e x cs off hd
  rcases cellsAt_ok (μ := μ) hc with ⟨rfl, h1⟩ | ⟨h0, h1, rfl⟩
  · rcases aggN_sound hn with ⟨_, ha⟩ | ⟨hn0, _⟩
    · obtain ⟨u, q1, q2⟩ := vrL_get _ _ g1 j a h1
      refine ⟨u, ?_, q2⟩
      unfold loadVar
      rw [run_bind_ok (run_isAgg ha w)]
      exact run_load hb (g3 j u q1)
    · exact absurd rfl hn0
  · rcases aggN_sound hn with ⟨q, _⟩ | ⟨hn0, ha, hs⟩
    · exact absurd q h0
    · rw [ofE_len] at h1
      refine ⟨.agg ⟨(vs.drop j).take n⟩, ?_, by simp only [vr]; exact ⟨_, rfl, vrL_take n _ _ (vrL_drop j _ _ g1)⟩⟩
      have hlt : off + (j + n - 1) < cs.size := by
        have hj : j + n - 1 < vs.length := by omega
        have := g3 (j + n - 1) vs[j + n - 1] (List.getElem?_eq_getElem hj)
        exact (Array.getElem?_eq_some_iff.1 this).1
      unfold loadVar
      rw [run_bind_ok (run_isAgg ha w)]
      simp only [if_true]
      rw [run_bind_ok (run_sizeOf hs w), run_bind_ok (run_loadCells hb n (by omega))]
      show Result.ok _ w = _
      congr 3
      apply List.ext_getElem?
      intro i
      rw [List.getElem?_take, List.getElem?_take]
      split
      · rename_i hi
        rw [List.getElem?_drop, List.getElem?_drop, Array.getElem?_toList]
        have hj : j + i < vs.length := by omega
        have := g3 (j + i) vs[j + i] (List.getElem?_eq_getElem hj)
        rw [List.getElem?_eq_getElem hj, Nat.add_assoc, this]
      · rfl
theorem xsAt_get {e : ET} {xs : List e.T} {i : Nat} {x : e.T} (h : xs[i]? = some x) : xsAt e xs i = x := by
  show xs.getD i e.z = x
  rw [List.getD_eq_getElem?_getD, h]; rfl
theorem xLoad_ok {n0 : Nat} {w0 : World} {μ : Mu} {st : St} {w : World} (h : RS n0 w0 μ st w) {P : Program} {t : TypeId} {x a : AV} {v : Value} {c : List Prop} (hl : xLoad P st t x = some (a, c)) (hv : vr μ x v) :
    ∃ p, v = .pointer (some p) ∧ ∃ u, (loadVar t p).run P w = .ok u w ∧ vr μ a u := by
  unfold xLoad at hl
  split at hl
  · rename_i e xs i j
    obtain ⟨n, hn, h1⟩ := obind_elim hl
    obtain ⟨a', h2, h3⟩ := obind_elim h1
    cases h3
    obtain ⟨b, off, cs, y, rfl, k1, k2, k3⟩ := vr_x.1 hv
    obtain ⟨el, fr, k4⟩ := h.x.fzh b cs k1
    rw [xsAt_get k2] at h2
    exact ⟨_, rfl, run_loadAt k4 k3 hn h2⟩
  · rename_i o ver e i j
    obtain ⟨n, hn, h1⟩ := obind_elim hl
    obtain ⟨ro, hro, h2⟩ := obind_elim h1
    obtain ⟨hver, h3⟩ := need_some h2
    rw [beq_iff'] at hver
    split at h3
    · rename_i hh _
      obtain ⟨hE⟩ := hh
      obtain ⟨a', h4, h5⟩ := obind_elim h3
      cases h5
      obtain ⟨re, rxs, rv, rf⟩ := ro
      dsimp only at hE hver h4
      subst hE
      obtain ⟨r, k1, k2, ⟨b0, k0, rfl⟩, k3⟩ := vr_x.1 hv
      obtain ⟨a1, a2, a3, a4, a5, a6⟩ := h.x.row o r _ k1 hro
      obtain ⟨m1, b, off, m2, m3⟩ := k3 (hver.trans a1.symm)
      cases m3
      obtain ⟨cs, el, fr, q1, q2, q3, q4, q5⟩ := a6 b0 off m2
      have hi : i < rxs.length := by have a2 : r.len = rxs.length := a2; omega
      have hx : rxs[i]? = some rxs[i] := List.getElem?_eq_getElem hi
      rw [show xsAt re (rCast rfl rxs) i = rxs[i] from xsAt_get hx] at h4
      exact ⟨_, rfl, run_loadAt q1 (q3 i _ hx) hn h4⟩
    · cases h3
  · cases hl

theorem SlIn.of_own {n0 : Nat} {w0 : World} {μ : Mu} {st : St} {w : World} (h : RS n0 w0 μ st w) {e : ET} {o ver : Nat} {fu : Bool} {lo n : Nat} {v : Value} {xs : List e.T} {fr : Bool}
    (hro : st.x.rows.get o = some ⟨e, xs, ver, fr⟩) (hv : vr μ (.x (.own o ver e fu lo n)) v) : SlIn w μ.fz e (xSub xs fu lo n) v ∧ (xSub xs fu lo n).length = n ∧ xSub xs fu lo n = (xs.drop lo).take n := by
  obtain ⟨r, h1, h2, ⟨ad, c, rfl, g1, g2⟩, h4, h5⟩ := vr_x.1 hv
  obtain ⟨a1, a2, a3, a4, a5, a6⟩ := h.x.row o r _ h1 hro
  obtain ⟨k1, k2, k3⟩ := h5 a1.symm
  have hsub : xSub xs fu lo n = (xs.drop lo).take n := by
    show bsel fu xs _ = _
    cases fu with
    | false => rfl
    | true =>
      obtain ⟨q1, q2⟩ := k3 rfl
      subst q1
      have : xs.length = n := by rw [q2]; exact a2.symm
      show xs = _
      rw [List.drop_zero, ← this, List.take_length]
  have hlen : (List.take n (List.drop lo xs)).length = n := by
    have : r.len = xs.length := a2
    rw [List.length_take, List.length_drop]; omega
  rw [hsub]
  refine ⟨⟨ad, c, by rw [hlen], by rw [hlen]; exact g1, by rw [hlen]; exact h4, ?_⟩, hlen, rfl⟩
  rw [hlen]
  by_cases h0 : n = 0
  · exact .inl h0
  · have hval := k1 (.inr (by omega))
    unfold RowAt.val at hval
    injection hval with e1 e2 e3
    cases hat : r.at_ with
    | none =>
      have := a5 hat
      omega
    | some q =>
      obtain ⟨b, off⟩ := q
      obtain ⟨cs, el, fr, m1, m2, m3, m4, m5⟩ := a6 b off hat
      rw [hat] at e1
      refine .inr ⟨b, off + lo * e.sz, cs, el, fr, e1, m1, ?_, fun i x hx => ?_⟩
      · have : lo * e.sz + (r.cap - lo) * e.sz = r.cap * e.sz := by rw [← Nat.add_mul]; congr 1; omega
        have m2 : off + r.cap * e.sz ≤ cs.size := m2
        subst e3
        omega
      · rw [List.getElem?_take] at hx
        split at hx
        · rw [List.getElem?_drop] at hx
          have := m3 (lo + i) x hx
          rw [Nat.add_mul, ← Nat.add_assoc] at this
          exact this
        · cases hx

abbrev U8 : ET := .one (.int .u8)
theorem bRow_ok {n0 : Nat} {w0 : World} {μ : Mu} {st : St} {w : World} (h : RS n0 w0 μ st w) {x : AV} {v : Value} {r : List Int} (hs : bRow st x = some r) (hv : vr μ x v) : SlIn w μ.fz U8 r v := by
  unfold bRow at hs
  split at hs
  · split at hs
    · rename_i hh _
      obtain ⟨hE⟩ := hh
      cases hs
      subst hE
      exact SlIn.of_row h.x (vr_x.1 hv)
    · cases hs
  · rename_i o ver e' fu lo n
    obtain ⟨ro, hro, h1⟩ := obind_elim hs
    obtain ⟨hver, h2⟩ := need_some h1
    obtain ⟨hE', h3⟩ := need_some h2
    rw [beq_iff'] at hver
    split at h3
    · rename_i hh _
      obtain ⟨hE⟩ := hh
      cases h3
      obtain ⟨re, rxs, rv, rf⟩ := ro
      dsimp only at hE hver
      subst hE
      subst hver
      have : e' = U8 := by
        cases q : eqET e' (.one (.int .u8)) with
        | none => rw [q] at hE'; cases hE'
        | some z => exact z.down
      subst this
      exact (SlIn.of_own h hro hv).1
    · cases h3
  · cases hs
theorem bytes_conv {P : Program} {μ : Mu} {w : World} {s d e : TypeId} (hs : P.underlying s = some (.slice e)) (he : P.underlying e = some (.int .u8)) (hd : P.underlying d = some .string) {r : List Int} {v : Value} (h : SlIn w μ.fz U8 r v) :
    (convert s d v).run P w = .ok (.string ⟨⟨bBytes r⟩⟩) w ∧ r.length ≤ Room := by
  have hin := h
  obtain ⟨a, c, rfl, h2, h3, h4⟩ := h
  have hroom : r.length ≤ Room := len_room h3
  refine ⟨?_, hroom⟩
  have hconv : (convert s d (.slice a r.length c)).run P w = (Conv.bytesToString (.slice a r.length c)).run P w := by
    unfold convert
    rw [run_bind_ok (run_underlying hs w), run_bind_ok (run_underlying hd w)]
    simp only []
    rw [run_bind_ok (run_underlying he w)]
  refine hconv.trans ?_
  have fold : ∀ (bs : List Int) (acc : List UInt8), bs.foldl (fun (r : ByteArray) n => r.push (UInt8.ofNat n.toNat)) ⟨⟨acc⟩⟩ = ⟨⟨acc ++ bBytes bs⟩⟩ := by
    intro bs
    induction bs with
    | nil => intro acc; simp [bBytes]
    | cons b bs ih =>
      intro acc
      rw [List.foldl_cons]
      have e1 : (⟨⟨acc⟩⟩ : ByteArray).push (UInt8.ofNat b.toNat) = ⟨⟨acc ++ [UInt8.ofNat b.toNat]⟩⟩ := by
        apply ByteArray.ext
        show Array.push ⟨acc⟩ _ = _
        apply Array.toList_inj.1
        simp
      rw [e1, ih]; simp [bBytes]
  cases a with
  | none =>
    have : r.length = 0 := by
      rcases h4 with h4 | ⟨b, off, cs, el, fr, h5, _⟩
      · exact h4
      · cases h5
    have : r = [] := List.eq_nil_of_length_eq_zero this
    subst this
    rfl
  | some q =>
    obtain ⟨vs, g1, g2, g3, g4⟩ := hin.cells (P := P)
    have g3 : (loadCells q (r.length * 1)).run P w = .ok ⟨vs⟩ w := g3
    rw [Nat.mul_one] at g3
    have hvs : vs = r.map (Value.int .u8) := by
      have g1 : vs.length = r.length * 1 := g1
      have hcell := g4 ⟨vs⟩ 0 (fun j u hj => by rw [Nat.zero_add]; simpa using hj)
      apply List.ext_getElem?
      intro i
      by_cases hi : i < r.length
      · have h5 := hcell i r[i] (List.getElem?_eq_getElem hi)
        simp only [decE, decL] at h5
        obtain ⟨u, h6, rfl, _⟩ := h5
        rw [List.getElem?_map, List.getElem?_eq_getElem hi]
        have e1 : 0 + i * ET.sz (.one (.int .u8)) = i := by simp [ET.sz]
        rw [e1] at h6
        simpa using h6
      · rw [List.getElem?_eq_none (by omega), List.getElem?_eq_none (by simp; omega)]
    have e : (loadCells q r.length).run P w = .ok (r.map (Value.int .u8)).toArray w := by rw [g3, hvs]
    refine (Go.run_bytesToString w _ _ _ _ e).trans ?_
    congr 2
    exact fold r []

/-! ## a map of known numbers, asked at a number -/
theorem aEntries_ok {n0 : Nat} {w0 : World} {μ : Mu} {st : St} {w : World} (h : RS n0 w0 μ st w) {P : Program} {t kt et : TypeId} {ok : Bool} {x : AV} {v kv : Value} {es : List (AV × AV × Nat)} (hu : P.underlying t = some (.map kt et))
    (hes : aEntries st x = some es) (hv : vr μ x v) : ∃ ms : Array MapEntry, entsRel μ es ms.toList ∧ (Instr.lookup t v kv ok).run P w = (lookTail kt et kv ok ms).run P w := by
  unfold aEntries at hes
  split at hes
  · cases hes
    simp only [vr] at hv; subst hv
    exact ⟨#[], rfl, lookup_nil hu w⟩
  · rename_i r
    split at hes
    · rename_i es' clock hr
      cases hes
      simp only [vr] at hv
      obtain ⟨p, hp1, rfl⟩ := hv
      obtain ⟨ms, g1, g2⟩ := h.obj r p _ hp1 hr
      exact ⟨⟨ms⟩, g2, lookup_map hu g1⟩
    · cases hes
  · cases hes
theorem entsI_ok {μ : Mu} {kk kv : IntKind} (n : Int) : ∀ (es : List (AV × AV × Nat)) (ms : List MapEntry) (i : Nat) (l : List (Int × Int)), entsI kk kv es = some l → entsRel μ es ms →
    InR kv (xMapF n l) ∧ ((∃ j, Instr.findNow (.int kk) (.int kk n) ms i = some (some (j, .int kv (xMapF n l)))) ∨ (Instr.findNow (.int kk) (.int kk n) ms i = some none ∧ xMapF n l = 0))
  | [], ms, i, l, h, hr => by
    simp only [entsRel] at hr; subst hr
    simp only [entsI, Option.some.injEq] at h; subst h
    exact ⟨by unfold InR xMapF; cases kv <;> decide, .inr ⟨rfl, rfl⟩⟩
  | e :: es, ms, i, l, h, hr => by
    obtain ⟨m, ms', rfl, ⟨q1, q2, q3⟩, q4⟩ := hr
    unfold entsI at h
    split at h
    · rename_i e'; cases e'
    · rename_i a k b v z r e'
      cases e'
      obtain ⟨hk, h⟩ := need_some h
      obtain ⟨l', h1, h2⟩ := obind_elim h
      cases h2
      simp only [Bool.and_eq_true] at hk
      obtain ⟨⟨ha, hb⟩, hv⟩ := hk
      have := sameK_eq ha; subst this
      have := sameK_eq hb; subst this
      simp only [vr] at q1 q2
      obtain ⟨r1, r2⟩ := entsI_ok n es ms' (Nat.succ i) l' h1 q4
      have hs : Instr.sameNow (.int a) (.int a n) m.key = some (n == k) := by rw [q1]; simp [Instr.sameNow]
      cases hnk : (n == k) with
      | true =>
        refine ⟨?_, .inl ⟨i, ?_⟩⟩
        · simp only [xMapF, hnk, cond_true]; exact okI_ok hv
        · simp only [Instr.findNow, hs, hnk, xMapF, cond_true, q2]
      | false =>
        simp only [xMapF, hnk, cond_false]
        refine ⟨r1, ?_⟩
        rcases r2 with ⟨j, r2⟩ | ⟨r2, r3⟩
        · exact .inl ⟨j, by simp only [Instr.findNow, hs, hnk]; exact r2⟩
        · exact .inr ⟨by simp only [Instr.findNow, hs, hnk]; exact r2, r3⟩
    · cases h
theorem xLookup_ok {n0 : Nat} {w0 : World} {μ : Mu} {st : St} {w : World} (h : RS n0 w0 μ st w) {P : Program} {t : TypeId} {ok : Bool} {x key a : AV} {c : List Prop} {v kv : Value}
    (hl : xLookup P st t ok x key = some (a, c)) (hv : vr μ x v) (hk : vr μ key kv) : ∃ u, (Instr.lookup t v kv ok).run P w = .ok u w ∧ vr μ a u := by
  unfold xLookup at hl
  split at hl
  · rename_i kt et hu
    split at hl
    · rename_i kk kvk hkt het
      obtain ⟨k, n, g1, hl⟩ := obind2_elim hl
      obtain ⟨g2, hl1⟩ := need_some hl
      obtain ⟨zz, hz0, hl2⟩ := obind_elim hl1
      obtain ⟨hz1, hl3⟩ := need_some hl2
      obtain ⟨es, g3, hl4⟩ := obind_elim hl3
      obtain ⟨l, g4, hl5⟩ := obind_elim hl4
      cases hl5
      rw [veq_eq _ _ _ hz1] at hz0
      simp only [Bool.and_eq_true, Bool.not_eq_true'] at g2
      obtain ⟨g2a, g2b⟩ := g2
      subst g2b
      have := sameK_eq g2a; subst this
      obtain ⟨rfl, _⟩ := tI_ok g1 hk
      obtain ⟨ms, q1, q2⟩ := aEntries_ok h (ok := false) (kv := .int k n) hu g3 hv
      obtain ⟨r1, r2⟩ := entsI_ok n es ms.toList 0 l g4 q1
      have hck : (Instr.checkKey ms.isEmpty 10000 kt (.int k n)).run P w = .ok () w := by
        have key : ∀ m, (Instr.checkKey ms.isEmpty (m + 1) kt (.int k n)).run P w = .ok () w := by
          intro m
          unfold Instr.checkKey
          rw [run_bind_ok (run_underlying hkt w)]; rfl
        exact key 9999
      refine ⟨.int kvk (xMapF n l), ?_, vr_x.2 ⟨rfl, r1⟩⟩
      rw [q2]
      unfold lookTail
      rw [run_bind_ok hck]
      rcases r2 with ⟨j, r2⟩ | ⟨r2, r3⟩
      · rw [run_bind_ok (run_findKey' hkt r2)]; rfl
      · rw [run_bind_ok (run_findKey' hkt r2), r3]
        have hz : (zeroValue et).run P w = .ok (.int kvk 0) w := by
          obtain ⟨zv, e1, e2⟩ := run_zeroValue hz0 μ w
          simp only [vr] at e2; subst e2; exact e1
        simp only [run_bind', hz, run_pure]
        rfl
    · cases hl
  · cases hl
theorem u8s_ok {μ : Mu} : ∀ (l : List AV) (r : List Int) (xs : List Value), u8s l = some r → vrL μ l xs → xs = r.map (Value.int .u8) ∧ r.length = l.length
  | [], r, xs, h, hx => by
    simp only [vrL] at hx; subst hx
    have h := Option.some.inj (show some (lNil (.one (.int .u8))) = some r from h); subst h
    exact ⟨rfl, rfl⟩
  | a :: l, r, xs, h, hx => by
    simp only [vrL] at hx
    obtain ⟨v, r', rfl, h1, h2⟩ := hx
    obtain ⟨k, n, g1, h3⟩ := obind2_elim (show obind2 (tI a) _ = some r from h)
    clear h
    obtain ⟨g2, h4⟩ := need_some h3
    clear h3
    obtain ⟨q, g3, h5⟩ := obind_elim h4
    clear h4
    have := sameK_eq g2; subst this
    obtain ⟨rfl, _⟩ := tI_ok g1 h1
    obtain ⟨e1, e2⟩ := u8s_ok l q r' g3 h2
    cases h5
    subst e1
    exact ⟨rfl, congrArg Nat.succ e2⟩
theorem bytes_fold : ∀ (bs : List Int) (acc : List UInt8), bs.foldl (fun (r : ByteArray) n => r.push (UInt8.ofNat n.toNat)) ⟨⟨acc⟩⟩ = ⟨⟨acc ++ bBytes bs⟩⟩ := by
  intro bs
  induction bs with
  | nil => intro acc; simp [bBytes]
  | cons b bs ih =>
    intro acc
    rw [List.foldl_cons]
    have e1 : (⟨⟨acc⟩⟩ : ByteArray).push (UInt8.ofNat b.toNat) = ⟨⟨acc ++ [UInt8.ofNat b.toNat]⟩⟩ := by
      apply ByteArray.ext
      show Array.push ⟨acc⟩ _ = _
      apply Array.toList_inj.1
      simp
    rw [e1, ih]; simp [bBytes]
theorem bytes_known {n0 : Nat} {w0 : World} {μ : Mu} {st : St} {w : World} (h : RS n0 w0 μ st w) {P : Program} {s d e : TypeId} (hs : P.underlying s = some (.slice e)) (he : P.underlying e = some (.int .u8)) (hd : P.underlying d = some .string)
    {o k len cap kn : Nat} {es : Bool} {l : List AV} {r : List Int} {v : Value} (hld : ldCells st o k len = some l) (hr : u8s l = some r) (hv : vr μ (.sl o k len cap es kn) v) :
    (convert s d v).run P w = .ok (.string ⟨⟨bBytes r⟩⟩) w ∧ r.length = len := by
  simp only [vr] at hv
  obtain ⟨p, c', hp, hk, rfl, _⟩ := hv
  obtain ⟨xs, g1, g2⟩ := ldCells_sound h (P := P) hld hp hk
  obtain ⟨rfl, hlr⟩ := u8s_ok l r xs hr g2
  have hll : l.length = len := by
    unfold ldCells at hld
    obtain ⟨ob, hob, hld'⟩ := obind_elim hld
    cases ob with
    | cells c lim esz ro tw =>
      dsimp only at hld'
      rcases bsel_some hld' with ⟨_, h2⟩ | ⟨_, h2⟩
      · cases h2; exact rd_length _ _ _
      · cases h2
    | map es clock => cases hld'
    | iter s pos => cases hld'
    | dead => cases hld'
    | miter m => cases hld'
  refine ⟨?_, hlr.trans hll⟩
  have hconv : (convert s d (.slice (some ⟨p.blk, p.at_ k, none⟩) len c')).run P w = (Conv.bytesToString (.slice (some ⟨p.blk, p.at_ k, none⟩) len c')).run P w := by
    unfold convert
    rw [run_bind_ok (run_underlying hs w), run_bind_ok (run_underlying hd w)]
    simp only []
    rw [run_bind_ok (run_underlying he w)]
  have e : (loadCells ⟨p.blk, p.at_ k, none⟩ len).run P w = .ok (r.map (Value.int .u8)).toArray w := g1
  refine hconv.trans ?_
  rw [Go.run_bytesToString w _ _ _ _ e]
  congr 2
  exact bytes_fold r []

theorem rX_ok {n0 : Nat} {w0 : World} {μ : Mu} {st : St} {w : World} (h : RS n0 w0 μ st w) {P : Program} {ρ : Operand → Value} {o : Oper} {args : List AV} {a : AV} {c : List Prop}
    (hs : rX P o.op args st = some (a, c)) (hv : vrL μ args (o.op.operands.toList.map ρ)) (hc : cls P o.op = 1) : ∃ v, (execOp ρ o).run P w = .ok (.value v) w ∧ vr μ a v := by
  obtain ⟨dst, op, ty, pos, after, guard⟩ := o
  cases op <;> simp only [rX] at hs <;> try (cases hs; done)
  case load t x =>
    split at hs
    · obtain ⟨v1, e, h1⟩ := args1 hv
      cases e
      obtain ⟨p, e1, u, e2, e3⟩ := xLoad_ok h hs h1
      refine ⟨u, run_value ?_, e3⟩
      simp only [e1]
      exact e2
    · cases hs
  case convert s d x =>
    have hd : P.underlying d = some .string := by
      simp only [cls] at hc
      split at hc
      · cases hc
      · assumption
      · cases hc
      · cases hc
    split at hs
    · rename_i u x' hu
      split at hs
      · rename_i hu8
        split at hs
        · obtain ⟨l, h0, hs⟩ := obind_elim hs
          obtain ⟨hl, hs⟩ := need_some hs
          obtain ⟨r, h1, h2⟩ := obind_elim hs
          cases h2
          obtain ⟨v1, e, h3⟩ := args1 hv
          cases e
          obtain ⟨g1, g2⟩ := bytes_known (P := P) h hu hu8 hd h0 h1 h3
          have hl := Nat.le_of_ble_eq_true hl
          exact ⟨_, run_value g1, vr_x.2 ⟨rfl, Nat.le_trans (Nat.le_of_eq ((List.length_map _).trans g2)) (Nat.le_trans hl (by decide))⟩⟩
        obtain ⟨r, h1, h2⟩ := obind_elim hs
        cases h2
        obtain ⟨v1, e, h3⟩ := args1 hv
        cases e
        obtain ⟨g1, g2⟩ := bytes_conv (P := P) hu hu8 hd (bRow_ok h h1 h3)
        exact ⟨_, run_value g1, vr_x.2 ⟨rfl, Nat.le_trans (Nat.le_of_eq (List.length_map _)) g2⟩⟩
      · cases hs
    · cases hs
  case lookup t x k ok =>
    split at hs
    · obtain ⟨v1, v2, e, h1, h2⟩ := args2 hv
      cases e
      obtain ⟨u, g1, g2⟩ := xLookup_ok h hs h1 h2
      exact ⟨u, run_value g1, g2⟩
    · cases hs
end Go.Proofs.Ytkccnomdfkhfnaa.Ev
