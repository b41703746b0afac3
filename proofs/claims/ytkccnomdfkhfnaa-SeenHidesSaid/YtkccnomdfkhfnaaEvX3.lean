/- What functions of the program compute, written down; read off their code. -/
import Derived.Test.YtkccnomdfkhfnaaEvX2
import Derived.Test.YtkccnomdfkhfnaaEvAct5
set_option linter.unusedVariables false
set_option linter.unusedSimpArgs false
namespace Go.Proofs.Ytkccnomdfkhfnaa.Ev
open Go.RowKit

def Mu.setOwn (μ : Mu) (o : Nat) (r : RowAt) : Mu := ⟨μ.pl, μ.fz, fun o' => if o' = o then some r else μ.own o', μ.f0, μ.kp⟩
theorem Mu.setOwn_same (μ : Mu) (o : Nat) (r : RowAt) : (μ.setOwn o r).own o = some r := if_pos rfl
theorem Mu.setOwn_ne (μ : Mu) {o o' : Nat} (r : RowAt) (h : o' ≠ o) : (μ.setOwn o r).own o' = μ.own o' := if_neg h
theorem Mu.setOwn_ext {μ : Mu} {o : Nat} {r' : RowAt} (hold : ∀ r, μ.own o = some r → r.ver ≤ r'.ver ∧ (r.ver = r'.ver → r' = r)) : Ext μ (μ.setOwn o r') := ⟨fun _ _ e => e, FzExt.refl _, (fun o' r e => by
  by_cases q : o' = o
  · subst q; exact ⟨r', Mu.setOwn_same _ _ _, hold r e⟩
  · exact ⟨r, by rw [Mu.setOwn_ne _ _ q]; exact e, Nat.le_refl _, fun _ => rfl⟩), rfl, rfl⟩

/-- a row of one's own is laid, or laid anew, in a block that is its own -/
theorem RS.putRow {n0 : Nat} {w0 : World} {μ : Mu} {st st' : St} {w w' : World} (h : RS n0 w0 μ st w) {o bc : Nat} {r' : RowAt} {ro' : RowO}
    (hold : ∀ r, μ.own o = some r → r.ver ≤ r'.ver ∧ (r.ver = r'.ver → r' = r))
    (s1 : st'.heap = st.heap) (s2 : st'.wmin = st.wmin) (s3 : st.next ≤ st'.next) (s4 : o < st'.next) (s5 : st'.x.rows = st.x.rows.set o ro')
    (hbelow : Below n0 w0 w') (hsz : w.heap.size ≤ w'.heap.size) (hblk : ∀ b, b < w.heap.size → b ≠ bc → w'.heap[b]? = w.heap[b]?)
    (hbc : bc < w.heap.size → n0 ≤ bc ∧ μ.fz bc = none ∧ μ.kp bc = none ∧ (∀ o' p ob, μ o' = some p → st.heap.get o' = some ob → ob.live = true → p.blk ≠ bc) ∧
      ∀ o' r1 ro1 off, o' ≠ o → μ.own o' = some r1 → st.x.rows.get o' = some ro1 → ro1.fr = false → r1.at_ = some (bc, off) → False)
    (hat' : ∀ b off, r'.at_ = some (b, off) → b = bc) (hnew : RowRel μ.fz r' ro' w'.heap) : Post n0 w0 μ st (μ.setOwn o r') st' w' := by
  have hx := Mu.setOwn_ext hold
  have hget : ∀ o', (st.x.rows.set o ro').get o' = if o' = o then some ro' else st.x.rows.get o' := fun o' => Tr.get_set _ _ _ _
  -- the block
  have kb : n0 ≤ bc ∨ w.heap.size ≤ bc := by
    rcases Nat.lt_or_ge bc w.heap.size with g | g
    · exact .inl (hbc g).1
    · exact .inr g
  have kn : n0 ≤ bc := by
    rcases kb with g | g
    · exact g
    · exact Nat.le_trans h.pos g
  have kf : μ.fz bc = none := by
    rcases Nat.lt_or_ge bc w.heap.size with g | g
    · exact (hbc g).2.1
    · cases e : μ.fz bc with
      | none => rfl
      | some cs =>
        obtain ⟨el, fr, q⟩ := h.x.fzh bc cs e
        have := (Array.getElem?_eq_some_iff.1 q).1
        omega
  have kk : μ.kp bc = none := by
    rcases Nat.lt_or_ge bc w.heap.size with g | g
    · exact (hbc g).2.2.1
    · cases e : μ.kp bc with
      | none => rfl
      | some ob =>
        have := (Array.getElem?_eq_some_iff.1 (h.x.kph bc ob e)).1
        omega
  have ko : ∀ o' p ob, μ o' = some p → st.heap.get o' = some ob → ob.live = true → p.blk ≠ bc := fun o' p ob k1 k2 k3 => by
    rcases Nat.lt_or_ge bc w.heap.size with g | g
    · exact (hbc g).2.2.2.1 o' p ob k1 k2 k3
    · have := h.blk o' p k1; omega
  have kr : ∀ o' r1 ro1 off, o' ≠ o → μ.own o' = some r1 → st.x.rows.get o' = some ro1 → ro1.fr = false → r1.at_ = some (bc, off) → False := fun o' r1 ro1 off k1 k2 k3 k4 k5 => by
    rcases Nat.lt_or_ge bc w.heap.size with g | g
    · exact (hbc g).2.2.2.2 o' r1 ro1 off k1 k2 k3 k4 k5
    · obtain ⟨_, _, _, _, _, q⟩ := h.x.row o' r1 ro1 k2 k3
      obtain ⟨cs, el, fr, q1, _⟩ := q bc off k5
      have := (Array.getElem?_eq_some_iff.1 q1).1
      omega
  refine ⟨hx, fun _ _ => rfl, ⟨?_, ?_, ?_, ?_, ?_, hbelow, Nat.le_trans h.pos hsz, by rw [s2]; exact Nat.le_trans h.wle s3, ⟨?_, ?_, ?_, ?_, ?_, ?_, ?_, h.x.fzn, fun b ob e => ?_, by rw [s1]; exact h.x.kpo, fun o' r ro b off k1 k2 k3 k4 => ?_, by rw [s1]; exact h.x.fro⟩⟩, s3, s2, fun o' _ => by rw [s1]⟩
  · intro o' ho; exact h.fresh o' (Nat.le_trans s3 ho)
  · intro o' p hp; exact Nat.lt_of_lt_of_le (h.blk o' p hp) hsz
  · intro o' p ob hp ho
    rw [s1] at ho
    cases hl : ob.live with
    | false => cases ob <;> simp [AObj.live] at hl; trivial
    | true => exact ORel_ext hx (ORel_heap (hblk _ (h.blk o' p hp) (ko o' p ob hp ho hl)) (h.obj o' p ob hp ho))
  · intro o' p ob hp ho; rw [s1] at ho; exact h.own o' p ob hp ho
  · intro a a' q q' oa oa' hne k1 k2 k3 k4; rw [s1] at k3 k4; exact h.apart a a' q q' oa oa' hne k1 k2 k3 k4
  · intro o' ho; rw [Mu.setOwn_ne _ _ (by omega)]; exact h.x.fresh o' (Nat.le_trans s3 ho)
  · intro b cs e
    have e : μ.fz b = some cs := e
    obtain ⟨el, fr, q⟩ := h.x.fzh b cs e
    have hlt := (Array.getElem?_eq_some_iff.1 q).1
    exact ⟨el, fr, by rw [hblk b hlt (fun z => by rw [z, kf] at e; cases e)]; exact q⟩
  · intro o' p ob k1 k2 k3; rw [s1] at k2; exact h.x.fzo o' p ob k1 k2 k3
  · intro o' r ro k1 k2
    rw [s5, hget] at k2
    split at k2
    · rename_i e; subst e; cases k2
      rw [Mu.setOwn_same] at k1; cases k1; exact hnew
    · rename_i hne
      rw [Mu.setOwn_ne _ _ hne] at k1
      obtain ⟨a1, a2, a3, a4, a5, a6⟩ := h.x.row o' r ro k1 k2
      refine ⟨a1, a2, a3, a4, a5, fun b off hb => ?_⟩
      obtain ⟨cs, el, fr, g1, g2, g3, g4, g5⟩ := a6 b off hb
      have hlt := (Array.getElem?_eq_some_iff.1 g1).1
      have hne2 : b ≠ bc := fun z => by
        subst z
        cases hf : ro.fr with
        | true => rw [g5 hf] at kf; cases kf
        | false => exact kr o' r ro off hne k1 k2 hf hb
      exact ⟨cs, el, fr, by rw [hblk b hlt hne2]; exact g1, g2, g3, g4, g5⟩
  · intro o' r ro b off k1 k2 k3 k4
    rw [s5, hget] at k2
    split at k2
    · rename_i e; subst e; cases k2
      rw [Mu.setOwn_same] at k1; cases k1
      have := hat' b off k4; subst this
      exact ⟨kn, kf⟩
    · rename_i hne
      rw [Mu.setOwn_ne _ _ hne] at k1
      exact h.x.rown o' r ro b off k1 k2 k3 k4
  · intro o1 o2 r1 r2 ro1 ro2 b off off' hne k1 k2 k3 k4 k5 k6 k7 k8
    rw [s5, hget] at k3 k4
    split at k3
    · rename_i e; subst e; cases k3
      rw [Mu.setOwn_same] at k1; cases k1
      rw [if_neg (Ne.symm hne)] at k4
      rw [Mu.setOwn_ne _ _ (Ne.symm hne)] at k2
      have := hat' b off k7; subst this
      exact kr o2 r2 ro2 off' (Ne.symm hne) k2 k4 k6 k8
    · rename_i hne1
      rw [Mu.setOwn_ne _ _ hne1] at k1
      split at k4
      · rename_i e; subst e; cases k4
        rw [Mu.setOwn_same] at k2; cases k2
        have := hat' b off' k8; subst this
        exact kr o1 r1 ro1 off hne1 k1 k3 k5 k7
      · rename_i hne2
        rw [Mu.setOwn_ne _ _ hne2] at k2
        exact h.x.rap o1 o2 r1 r2 ro1 ro2 b off off' hne k1 k2 k3 k4 k5 k6 k7 k8
  · intro o1 r1 ro1 b off o' p ob k1 k2 k3 k4 k5 k6 k7
    rw [s1] at k6
    rw [s5, hget] at k2
    split at k2
    · rename_i e; subst e; cases k2
      rw [Mu.setOwn_same] at k1; cases k1
      have := hat' b off k4; subst this
      exact ko o' p ob k5 k6 k7
    · rename_i hne
      rw [Mu.setOwn_ne _ _ hne] at k1
      exact h.x.rapo o1 r1 ro1 b off o' p ob k1 k2 k3 k4 k5 k6 k7
  · have e : μ.kp b = some ob := e
    have g := h.x.kph b ob e
    have hlt := (Array.getElem?_eq_some_iff.1 g).1
    rw [hblk b hlt (fun z => by rw [z, kk] at e; cases e)]; exact g
  · rw [s5, hget] at k2
    split at k2
    · rename_i e; subst e; cases k2
      rw [Mu.setOwn_same] at k1; cases k1
      have := hat' b off k4; subst this
      exact kk
    · rename_i hne
      rw [Mu.setOwn_ne _ _ hne] at k1
      exact h.x.kpr o' r ro b off k1 k2 k3 k4

/-- the block of a row of one's own is its own -/
theorem RS.rowBlk {n0 : Nat} {w0 : World} {μ : Mu} {st : St} {w : World} (h : RS n0 w0 μ st w) {o : Nat} {r : RowAt} {ro : RowO} {b off : Nat} (hr : μ.own o = some r) (hro : st.x.rows.get o = some ro) (hf : ro.fr = false) (hat : r.at_ = some (b, off)) :
    n0 ≤ b ∧ μ.fz b = none ∧ μ.kp b = none ∧ (∀ o' p ob, μ o' = some p → st.heap.get o' = some ob → ob.live = true → p.blk ≠ b) ∧
      ∀ o' r1 ro1 off, o' ≠ o → μ.own o' = some r1 → st.x.rows.get o' = some ro1 → ro1.fr = false → r1.at_ = some (b, off) → False := by
  obtain ⟨q1, q2⟩ := h.x.rown o r ro b off hr hro hf hat
  exact ⟨q1, q2, h.x.kpr o r ro b off hr hro hf hat, fun o' p ob k1 k2 k3 => h.x.rapo o r ro b off o' p ob hr hro hf hat k1 k2 k3, fun o' r1 ro1 off' hne k1 k2 k3 k4 => h.x.rap o' o r1 r ro1 ro b off' off hne k1 hr k2 hro k3 hf k4 hat⟩

theorem Below.setBlk' {n0 : Nat} {w0 w : World} (h : Below n0 w0 w) {b : Nat} (hb : n0 ≤ b) (hlt : b < w.heap.size) (ob : Obj) : Below n0 w0 (setBlk w b ob) := by
  refine ⟨h.os, h.tape, h.output, by rw [setBlk_size]; exact h.size, fun i hi => ?_⟩
  rw [setBlk_get hlt, if_neg (by omega)]; exact h.block i hi

/-! ## stores into an element -/
def LvRel (fz : Fz) : List LV → List Value → Prop
  | [], vs => vs = []
  | a :: r, vs => ∃ v q, vs = v :: q ∧ decL fz a.l a.x v ∧ LvRel fz r q
theorem LvRel.ext {f g : Fz} (h : FzExt f g) : ∀ (l : List LV) (vs : List Value), LvRel f l vs → LvRel g l vs
  | [], vs, e => e
  | a :: r, vs, ⟨v, q, h1, h2, h3⟩ => ⟨v, q, h1, decL_ext h _ _ _ h2, LvRel.ext h r q h3⟩
theorem LvRel.len {f : Fz} : ∀ (l : List LV) (vs : List Value), LvRel f l vs → vs.length = l.length
  | [], vs, e => by rw [show vs = [] from e]; rfl
  | a :: r, vs, ⟨v, q, h1, h2, h3⟩ => by rw [h1, List.length_cons, List.length_cons, LvRel.len r q h3]
theorem LvRel.one {f : Fz} : ∀ (l : List LV) (vs : List Value), LvRel f l vs → ∀ v ∈ vs, oneC v = true
  | [], vs, e, v, hv => by rw [show vs = [] from e] at hv; cases hv
  | a :: r, vs, ⟨v, q, h1, h2, h3⟩, u, hu => by
    subst h1
    rcases List.mem_cons.1 hu with e | e
    · subst e; exact decL_one _ _ _ h2
    · exact LvRel.one r q h3 u e
theorem toLs_ok {n0 : Nat} {w0 w : World} {e : ET} : ∀ (l : List AV) (j : Nat) (μ : Mu) (st : St) (lvs : List LV) (st' : St) (vs : List Value), RS n0 w0 μ st w → vrL μ l vs → toLs e j l st = some (lvs, st') →
    ∃ μ', Post n0 w0 μ st μ' st' w ∧ LvRel μ'.fz lvs vs
  | [], j, μ, st, lvs, st', vs, h, hv, hs => by
    simp only [toLs] at hs
    cases hs
    simp only [vrL] at hv
    exact ⟨μ, Post.refl h, hv⟩
  | a :: r, j, μ, st, lvs, st', vs, h, hv, hs => by
    simp only [toLs] at hs
    obtain ⟨l, h1, hs⟩ := obind_elim hs
    obtain ⟨x, st1, h2, hs⟩ := obind2_elim hs
    obtain ⟨q, st2, h3, hs⟩ := obind2_elim hs
    cases hs
    simp only [vrL] at hv
    obtain ⟨v, vs', rfl, g1, g2⟩ := hv
    obtain ⟨μ1, p1, d1⟩ := toL_ok l a μ st x st1 v h g1 h2
    obtain ⟨μ2, p2, d2⟩ := toLs_ok r (j + 1) μ1 st1 q _ vs' p1.rs (vrL_ext p1.ext _ _ g2) h3
    exact ⟨μ2, p1.trans p2, v, vs', rfl, decL_ext p2.ext.fz _ _ _ d1, d2⟩

theorem setLf_ok {fz : Fz} : ∀ (e : ET) (y y' : e.T) (j : Nat) (l : LT) (x : l.T) (cs cs' : Array Value) (off : Nat) (v : Value), setLf e y j l x = some y' → decE fz e y cs off → decL fz l x v → cs'[off + j]? = some v →
    (∀ k, k < e.sz → k ≠ j → cs'[off + k]? = cs[off + k]?) → decE fz e y' cs' off
  | .one m, y, y', 0, l, x, cs, cs', off, v, hs, hd, hx, hv, hk => by
    simp only [setLf] at hs
    split at hs
    · rename_i hh _
      obtain ⟨hE⟩ := hh
      cases hs
      subst hE
      simp only [decE]
      exact ⟨v, by rw [Nat.add_zero] at hv; exact hv, hx⟩
    · cases hs
  | .one m, y, y', j + 1, l, x, cs, cs', off, v, hs, hd, hx, hv, hk => by simp only [setLf] at hs; cases hs
  | .cons m e, y, y', 0, l, x, cs, cs', off, v, hs, hd, hx, hv, hk => by
    simp only [setLf] at hs
    split at hs
    · rename_i hh _
      obtain ⟨hE⟩ := hh
      cases hs
      subst hE
      simp only [decE] at hd ⊢
      obtain ⟨_, hd⟩ := hd
      refine ⟨⟨v, by rw [Nat.add_zero] at hv; exact hv, hx⟩, decE_move e _ cs cs' _ _ (fun k hk' => ?_) hd⟩
      have := hk (k + 1) (Nat.succ_lt_succ hk') (by omega)
      rw [show off + 1 + k = off + (k + 1) from by omega]; exact this
    · cases hs
  | .cons m e, y, y', j + 1, l, x, cs, cs', off, v, hs, hd, hx, hv, hk => by
    simp only [setLf] at hs
    split at hs
    · rename_i r hr
      cases hs
      simp only [decE] at hd ⊢
      obtain ⟨⟨u, g1, g2⟩, hd⟩ := hd
      refine ⟨⟨u, ?_, g2⟩, setLf_ok e y.2 r j l x cs cs' (off + 1) v hr hd hx (by rw [show off + 1 + j = off + (j + 1) from by omega]; exact hv) fun k hk' hne => ?_⟩
      · have := hk 0 (Nat.succ_pos _) (by omega)
        simp only [Nat.add_zero] at this
        rw [this]; exact g1
      · have := hk (k + 1) (Nat.succ_lt_succ hk') (by omega)
        rw [show off + 1 + k = off + (k + 1) from by omega]; exact this
    · cases hs
theorem setLs_ok {fz : Fz} {e : ET} : ∀ (lvs : List LV) (y y' : e.T) (j : Nat) (cs : Array Value) (off : Nat) (vs : List Value), setLs e y j lvs = some y' → decE fz e y cs off → LvRel fz lvs vs → off + j + vs.length ≤ cs.size →
    decE fz e y' (wrC cs (off + j) vs) off
  | [], y, y', j, cs, off, vs, hs, hd, hr, hsz => by
    simp only [setLs] at hs
    cases hs
    rw [show vs = [] from hr]; exact hd
  | a :: r, y, y', j, cs, off, vs, hs, hd, hr, hsz => by
    simp only [setLs] at hs
    obtain ⟨y1, h1, hs⟩ := obind_elim hs
    obtain ⟨v, q, rfl, h2, h3⟩ := hr
    rw [wrC]
    have hlt : off + j < cs.size := by simp at hsz; omega
    have hd1 : decE fz e y1 (cs.setIfInBounds (off + j) v) off := setLf_ok e y y1 j a.l a.x cs _ off v h1 hd h2 (by rw [Array.getElem?_setIfInBounds]; simp [hlt]) fun k _ hne => by
      rw [Array.getElem?_setIfInBounds, if_neg (by omega)]
    exact setLs_ok r y1 y' (j + 1) _ off q hs hd1 h3 (by simp at hsz ⊢; omega)

theorem acells_ne {μ : Mu} {a : AV} {n : Nat} {lvs : List LV} {e : ET} {j : Nat} {st st' : St} (h : toLs e j (acells a) st = some (lvs, st')) : a ≠ .top := by
  rintro rfl
  simp only [acells, toLs] at h
  obtain ⟨l, h1, h⟩ := obind_elim h
  obtain ⟨x, st1, h2, h⟩ := obind2_elim h
  cases l <;> simp only [toL] at h2 <;> first | (obtain ⟨k, m, h3, h2⟩ := obind2_elim h2; cases h3; done) | (obtain ⟨k, h3, h2⟩ := obind_elim h2; cases h3; done) | (cases h2; done)

theorem xStore_ok {P : Program} {n0 : Nat} {w0 : World} {μ : Mu} {st st' : St} {w : World} (h : RS n0 w0 μ st w) {t : TypeId} {p x a : AV} {v u : Value} (hs : xStore P st t p x = some (a, st')) (hp : vr μ p v) (hx : vr μ x u) :
    a = undefA ∧ ∃ ad w' μ', v = .pointer (some ad) ∧ (storeVar t ad u).run P w = .ok () w' ∧ Post n0 w0 μ st μ' st' w' := by
  unfold xStore at hs
  split at hs
  · rename_i o ver e i j
    obtain ⟨n, hn, h1⟩ := obind_elim hs
    obtain ⟨hlen0, h2⟩ := need_some h1
    rw [Bool.and_eq_true, ble_iff] at hlen0
    obtain ⟨hlen, hpos⟩ := hlen0
    obtain ⟨lvs, st1, hls, h3⟩ := obind2_elim h2
    obtain ⟨ro, hro, h4⟩ := obind_elim h3
    obtain ⟨hver, h5⟩ := need_some h4
    obtain ⟨hfr, h6⟩ := need_some h5
    rw [beq_iff'] at hver
    split at h6
    · rename_i hh _
      obtain ⟨hE⟩ := hh
      obtain ⟨y, hy, h7⟩ := obind_elim h6
      cases h7
      refine ⟨rfl, ?_⟩
      obtain ⟨re, rxs, rv, rf⟩ := ro
      dsimp only at hE hver hfr hy
      subst hE
      subst hver
      have hf : rf = false := by cases rf <;> first | rfl | cases hfr
      subst hf
      have hc := acells_vr hx (acells_ne (μ := μ) (n := n) hls)
      obtain ⟨μ1, p1, d1⟩ := toLs_ok (e := re) _ _ _ _ _ _ _ h hc hls
      obtain ⟨r, k1, k2, ⟨b0, k0, rfl⟩, k3⟩ := vr_x.1 (vr_ext p1.ext _ _ hp)
      have hR := p1.rs.x.row o r _ k1 hro
      obtain ⟨a1, a2, a3, a4, a5, a6⟩ := hR
      obtain ⟨m1, b, off, m2, m3⟩ := k3 a1.symm
      cases m3
      obtain ⟨cs, el, fr, q1, q2, q3, q4, q5⟩ := a6 b0 off m2
      have hi : i < rxs.length := by have a2 : r.len = rxs.length := a2; omega
      have hx1 : rxs[i]? = some rxs[i] := List.getElem?_eq_getElem hi
      rw [show xsAt re (rCast rfl rxs) i = rxs[i] from xsAt_get hx1] at hy
      rw [beq_iff', lenA_eq] at hlen
      have hul : u.cells.toList.length = n := by rw [vrL_length _ _ hc, hlen]
      have hdec := q3 i _ hx1
      -- the cells lie within the element
      have hin : j + u.cells.toList.length ≤ re.sz := by
        have key : ∀ (lvs : List LV) (y y' : re.T) (j : Nat), setLs re y j lvs = some y' → lvs.length = 0 ∨ j + lvs.length ≤ re.sz := by
          have one : ∀ (e : ET) (y y' : e.T) (j : Nat) (l : LT) (x : l.T), setLf e y j l x = some y' → j < e.sz := by
            intro e
            induction e using ET.rec (motive_1 := fun _ => True) with
            | int => trivial
            | bool => trivial
            | str => trivial
            | row => trivial
            | one l _ =>
              intro y y' j l x hs
              cases j with
              | zero => exact Nat.succ_pos _
              | succ j => simp only [setLf] at hs; cases hs
            | cons l e _ ih =>
              intro y y' j l x hs
              cases j with
              | zero => exact Nat.succ_pos _
              | succ j =>
                simp only [setLf] at hs
                split at hs
                · rename_i r hr
                  exact Nat.succ_lt_succ (ih _ _ _ _ _ hr)
                · cases hs
          intro lvs
          induction lvs with
          | nil => intro y y' j _; exact .inl rfl
          | cons a r ih =>
            intro y y' j hs
            simp only [setLs] at hs
            obtain ⟨y1, g1, hs⟩ := obind_elim hs
            have := one re y y1 j a.l a.x g1
            rcases ih y1 y' (j + 1) hs with g | g
            · right; rw [List.length_cons, g]; omega
            · right; rw [List.length_cons]; omega
        have hl := LvRel.len _ _ d1
        rcases key _ _ _ _ hy with g | g
        · -- nothing is stored: a value has a cell
          exfalso
          have h0 : (acells x).length = 0 := by rw [← vrL_length _ _ hc, hl, g]
          omega
        · rw [hl]; exact g
      have hsz : off + i * re.sz + j + u.cells.toList.length ≤ cs.size := by
        have : (i + 1) * re.sz ≤ r.cap * re.sz := Nat.mul_le_mul_right _ (by omega)
        rw [Nat.add_mul] at this
        have q2 : off + r.cap * re.sz ≤ cs.size := q2
        omega
      have hlt : b0 < w.heap.size := (Array.getElem?_eq_some_iff.1 q1).1
      have hrun := run_storeCells (P := P) u.cells.toList w b0 (off + i * re.sz + j) 0 cs el fr q1 (by omega) (q4 rfl) (LvRel.one _ _ d1)
      obtain ⟨B1, B2, B5, B3, B4⟩ := p1.rs.rowBlk k1 hro rfl m2
      refine ⟨_, _, _, rfl, ?_, p1.trans (p1.rs.putRow (o := o) (bc := b0) (r' := r) (ro' := ⟨re, xSet (rCast rfl rxs) i y, ver, false⟩) (w' := setBlk w b0 (.cells (wrC cs (off + i * re.sz + j) u.cells.toList) el fr)) (fun r2 e => ?_) (setRow_heap _ _ _) (setRow_wmin _ _ _) (by rw [setRow_next]; exact Nat.le_refl _) ?_ (setRow_rows _ _ _) (Below.setBlk' p1.rs.below B1 hlt _) (by rw [setBlk_size]; exact Nat.le_refl _) (fun b' _ hne => by rw [setBlk_get hlt, if_neg hne]) (fun _ => ⟨B1, B2, B5, B3, B4⟩) (fun b' off' e => by rw [m2] at e; cases e; rfl) ?_)⟩
      · unfold storeVar
        rw [run_bind_ok (run_sizeOf hn w), if_neg (by simp [← hul])]
        exact hrun
      · rw [k1] at e; cases e; exact ⟨Nat.le_refl _, fun _ => rfl⟩
      · rw [setRow_next]
        rcases Nat.lt_or_ge o st1.next with g | g
        · exact g
        · have := p1.rs.x.fresh o g; rw [k1] at this; cases this
      · have a2 : r.len = rxs.length := a2
        refine ⟨a1, by show r.len = (rxs.set i y).length; rw [List.length_set]; exact a2, a3, a4, a5, fun b' off' e => ?_⟩
        rw [m2] at e; cases e
        refine ⟨_, el, fr, by rw [setBlk_get hlt, if_pos rfl], by rw [wrC_size]; exact q2, fun i' x' hx' => ?_, fun _ => by rw [wrC_size]; exact q4 rfl, fun e => nomatch e⟩
        have hx2 : (rxs.set i y)[i']? = some x' := hx'
        clear hx'
        rw [List.getElem?_set] at hx2
        split at hx2
        · rename_i e; subst e
          cases hx2
          exact setLs_ok lvs _ _ j cs (off + i * re.sz) _ hy hdec d1 (by omega)
        · rename_i hne
          show decE _ re x' _ (off + i' * re.sz)
          refine decE_move re x' cs _ _ _ (fun k hk => ?_) (show decE _ re x' cs (off + i' * re.sz) from q3 i' x' hx2)
          have : off + i' * re.sz + k < off + i * re.sz ∨ off + (i + 1) * re.sz ≤ off + i' * re.sz + k := by
            rcases Nat.lt_or_gt_of_ne hne with g | g
            · right
              have := Nat.mul_le_mul_right re.sz (show i + 1 ≤ i' by omega)
              omega
            · left
              have := Nat.mul_le_mul_right re.sz (show i' + 1 ≤ i by omega)
              rw [Nat.add_mul] at this
              omega
          rw [Nat.add_mul, Nat.one_mul] at this
          rw [wrC_get _ _ _ _ (by omega), if_neg (fun z => by
            have z1 := z.1
            have z2 := z.2
            rcases this with g | g
            · omega
            · omega)]
    · cases h6
  · cases hs

/-! ## rows that grow -/
theorem etOf_ok {P : Program} {t : TypeId} {e : ET} (h : etOf P t = some e) : ∃ i z, P.info? t = some i ∧ i.zero = some z ∧ i.size = e.sz ∧ i.bytes = e.by ∧ z.cells.size = e.sz := by
  unfold etOf at h
  obtain ⟨e', h1, h⟩ := obind_elim h
  obtain ⟨hb, h2⟩ := need_some h
  obtain ⟨n, hn, h3⟩ := obind_elim h2
  obtain ⟨hsz, h4⟩ := need_some h3
  obtain ⟨za, hz, h5⟩ := obind_elim h4
  obtain ⟨hq, h6⟩ := need_some h5
  cases h6
  rw [beq_iff'] at hb hsz
  rw [Bool.and_eq_true, beq_iff', lenA_eq] at hq
  obtain ⟨i, z, g1, g2, g3⟩ := zinfo hz
  have hi : i.size = n := by unfold sizeT at hn; rw [g1] at hn; cases hn; rfl
  refine ⟨i, z, g1, g2, by rw [hi, hsz], by rw [hb]; simp [Program.bytesOf, g1], ?_⟩
  have hv := cv_vr (μ := ⟨fun _ => none, fun _ => none, fun _ => none, fun _ => none, fun _ => none⟩) _ _ _ g3
  have hc := acells_vr hv (allOk_ne_top hq.2)
  have := vrL_length _ _ hc
  rw [hq.1, hsz] at this
  simpa using this

/-- what is appended: its number, its cells -/
structure Src (P : Program) (xt : TypeId) (fz : Fz) (e : ET) (ys : List e.T) (x : Value) (vs : List Value) (w : World) : Prop where
  ty : ∃ dx, P.underlying xt = some dx ∧ (dx = .string ∨ ∃ e', dx = .slice e')
  len : Builtin.lenOf x = pure ys.length
  vlen : vs.length = ys.length * e.sz
  one : ∀ v ∈ vs, oneC v = true
  first : (Builtin.firstCells e.sz ys.length x).run P w = .ok ⟨vs⟩ w
  firstD : (Builtin.firstCells e.sz ys.length x).run P w.drew = .ok ⟨vs⟩ w.drew
  dec : ∀ (cs : Array Value) (q : Nat), (∀ (j : Nat) u, vs[j]? = some u → cs[q + j]? = some u) → ∀ (i : Nat) (x : e.T), ys[i]? = some x → decE fz e x cs (q + i * e.sz)

theorem SlIn.drew {w : World} {fz : Fz} {e : ET} {xs : List e.T} {v : Value} (h : SlIn w fz e xs v) : SlIn w.drew fz e xs v := h
theorem Src.of_slice {P : Program} {μ : Mu} {w : World} {xt u : TypeId} {e : ET} {ys : List e.T} {x : Value} (hx : P.underlying xt = some (.slice u)) (h : SlIn w μ.fz e ys x) : ∃ vs, Src P xt μ.fz e ys x vs w := by
  obtain ⟨vs, g1, g2, g3, g4⟩ := h.cells (P := P)
  obtain ⟨vs', g1', g2', g3', g4'⟩ := h.drew.cells (P := P)
  obtain ⟨a, c, rfl, h2, h3, h4⟩ := h
  have hvs : vs' = vs := by
    -- the same cells of the same memory
    rcases h4 with h4 | ⟨b, off, cs, el, fr, rfl, q1, q2, q3⟩
    · have e1 : vs.length = 0 := by rw [g1, h4, Nat.zero_mul]
      have e2 : vs'.length = 0 := by rw [g1', h4, Nat.zero_mul]
      rw [List.eq_nil_of_length_eq_zero e1, List.eq_nil_of_length_eq_zero e2]
    · have hsz : off + ys.length * e.sz ≤ cs.size := by
        have := Nat.mul_le_mul_right e.sz h2
        omega
      have r1 := run_loadCells (P := P) (w := w) q1 (ys.length * e.sz) hsz
      have r2 := run_loadCells (P := P) (w := w.drew) (b := b) (off := off) (cs := cs) (el := el) (fr := fr) q1 (ys.length * e.sz) hsz
      have g3 : (loadCells ⟨b, off, none⟩ (ys.length * e.sz)).run P w = .ok ⟨vs⟩ w := g3
      have g3' : (loadCells ⟨b, off, none⟩ (ys.length * e.sz)).run P w.drew = .ok ⟨vs'⟩ w.drew := g3'
      rw [g3] at r1; rw [g3'] at r2
      cases r1; cases r2; rfl
  subst hvs
  exact ⟨vs', ⟨_, hx, .inr ⟨u, rfl⟩⟩, rfl, g1, g2, g3, g3', g4⟩

/-- append to a row of one's own -/
theorem appOwn_ok {P : Program} {n0 : Nat} {w0 : World} {μ : Mu} {st st' : St} {w : World} (h : RS n0 w0 μ st w) {t xt ty u : TypeId} {e e' : ET} {o ver lo n : Nat} {fu : Bool} {ys : List e.T} {x sv : Value} {vs : List Value} {a : AV}
    (ht : P.underlying t = some (.slice u)) (he : etOf P u = some e) (hsrc : Src P xt μ.fz e ys x vs w) (hs : appOwn e o ver e' fu lo n ys st = some (a, st')) (hC : AllP st'.x.cs) (hv : vr μ (.x (.own o ver e' fu lo n)) sv) :
    ∃ μ' w' v, (Builtin.append_ #[t, xt] ty #[sv, x]).run P w = .ok v w' ∧ Post n0 w0 μ st μ' st' w' ∧ vr μ' a v := by
  obtain ⟨i, z, hi, hz, hisz, hiby, hzs⟩ := etOf_ok he
  obtain ⟨dx, hdx, hnz⟩ := hsrc.ty
  unfold appOwn at hs
  obtain ⟨ro, hro, h1⟩ := obind_elim hs
  obtain ⟨hver, h2⟩ := need_some h1
  obtain ⟨hfr, h3⟩ := need_some h2
  obtain ⟨hlo, h4⟩ := need_some h3
  rw [beq_iff'] at hver
  rw [Bool.and_eq_true] at hlo
  split at h4
  · rename_i hh _
    obtain ⟨hE⟩ := hh
    have h5 := Option.some.inj h4
    obtain ⟨re, rxs, rv, rf⟩ := ro
    dsimp only at hE hver hfr h5
    subst hE
    subst hver
    have hf : rf = false := by cases rf <;> first | rfl | cases hfr
    subst hf
    have he' : e' = re := by
      cases q : eqET e' re with
      | none => rw [q] at hlo; cases hlo.2
      | some z => exact z.down
    subst he'
    have hlo0 : lo = 0 := beq_iff'.1 hlo.1
    subst hlo0
    obtain ⟨hin, hblen, hbase⟩ := SlIn.of_own h hro hv
    obtain ⟨r, k1, k2, ⟨ad, C, rfl, k3, k3'⟩, k4, k5⟩ := vr_x.1 hv
    obtain ⟨a1, a2, a3, a4, a5, a6⟩ := h.x.row o r _ k1 hro
    obtain ⟨m1, m2, m3⟩ := k5 a1.symm
    have hval := m1 (.inl rfl)
    unfold RowAt.val at hval
    injection hval with e1 e2 e3
    rw [Nat.sub_zero] at e3
    subst e3
    -- the new content
    generalize hb : xSub (rCast rfl rxs) fu 0 n = base at h5
    have hb2 : xSub rxs fu 0 n = base := hb
    rw [hb2] at hin hblen
    have hroom : (n + ys.length) * e'.by ≤ Room := by
      have e0 := congrArg Prod.snd h5
      dsimp only at e0
      rw [← e0, setRow_cs, addC_cs] at hC
      have := hC _ (List.mem_append_left _ (List.mem_cons_self))
      have q : nLen (xApp base ys) = n + ys.length := by show (base ++ ys).length = _; rw [List.length_append, hblen]
      rw [q] at this
      exact this
    have hroomLt : n + ys.length ≤ Room := len_room hroom
    obtain ⟨os, o1, o2, o3, o4⟩ := hin.drew.cells (P := P) (μ := μ)
    rw [hblen] at o1 o3
    cases h5
    have hnlen : nLen (xApp base ys) = n + ys.length := by show (base ++ ys).length = _; rw [List.length_append, hblen]
    -- the row behind it
    have fin : ∀ (r' : RowAt) (w' : World), r'.ver = ver + 1 → r'.len = n + ys.length → (∀ bc, (∀ b off, r'.at_ = some (b, off) → b = bc) → True) → vr (μ.setOwn o r') (.x (.own o (Nat.succ ver) e' true lo0 (nLen (xApp base ys)))) (.slice (r'.at_.map fun a => ⟨a.1, a.2 + 0 * e'.sz, none⟩) (n + ys.length) r'.cap) ∨ True := fun _ _ _ _ _ => .inr trivial
    have hvr : ∀ (r' : RowAt), r'.ver = ver + 1 → r'.len = n + ys.length → r'.len ≤ r'.cap → (r'.at_ = none → r'.cap = 0) → vr (μ.setOwn o r') (.x (.own o (Nat.succ ver) e' true lo0 (nLen (xApp base ys)))) (.slice (r'.at_.map fun a => ⟨a.1, a.2, none⟩) (n + ys.length) r'.cap) := fun r' q1 q2 q3 q4 => by
      refine vr_x.2 ⟨r', Mu.setOwn_same _ _ _, by rw [q1]; exact Nat.le_refl _, ⟨_, _, by rw [hnlen], by rw [hnlen]; omega, ?_⟩, by rw [hnlen]; exact hroom, fun _ => ⟨fun _ => ?_, by rw [hnlen, q2]; show 0 + _ ≤ _; omega, fun _ => ⟨rfl, by rw [hnlen, q2]⟩⟩⟩
      · rw [hnlen]
        cases hat : r'.at_ with
        | none => left; have := q4 hat; omega
        | some p => right; exact ⟨_, _, rfl⟩
      · rw [hnlen]
        unfold RowAt.val
        congr 1
        · cases r'.at_ with
          | none => rfl
          | some p => simp [lo0]
    have hold : ∀ (r' : RowAt), r'.ver = ver + 1 → ∀ r0, μ.own o = some r0 → r0.ver ≤ r'.ver ∧ (r0.ver = r'.ver → r' = r0) := fun r' q r0 e => by
      rw [k1] at e; cases e
      have a1 : r.ver = ver := a1
      rw [q]; exact ⟨by omega, fun z => by omega⟩
    have hlt : o < st.next := by
      rcases Nat.lt_or_ge o st.next with g | g
      · exact g
      · have := h.x.fresh o g; rw [k1] at this; cases this
    by_cases hfit : n + ys.length ≤ r.cap
    · -- it fits
      cases hat : r.at_ with
      | none =>
        have hc0 := a5 hat
        have hn0 : n = 0 := by omega
        have hy0 : ys.length = 0 := by omega
        have hysn : ys = [] := List.eq_nil_of_length_eq_zero hy0
        subst hysn
        have hvs0 : vs = [] := List.eq_nil_of_length_eq_zero (by rw [hsrc.vlen]; simp)
        have hfc : (Builtin.firstCells i.size 0 x).run P w = .ok ⟨[]⟩ w := by have := hsrc.first; rw [hvs0] at this; rw [hisz]; exact this
        have hrun := app_none (ty := ty) ht hi hdx hnz hsrc.len (show n ≤ r.cap by omega) hfc ad
        rw [hat] at e1
        refine ⟨_, w, _, hrun, h.putRow (o := o) (bc := w.heap.size) (r' := ⟨ver + 1, n + 0, r.cap, none⟩) (ro' := ⟨e', xApp base [], Nat.succ ver, false⟩) (hold _ rfl) (by rw [setRow_heap, addC_heap]) (by rw [setRow_wmin, addC_wmin]) (by rw [setRow_next, addC_next]; exact Nat.le_refl _) (by rw [setRow_next, addC_next]; exact hlt) (by rw [setRow_rows, addC_rows]) h.below (Nat.le_refl _) (fun _ _ _ => rfl) (fun g => absurd g (Nat.lt_irrefl _)) (fun b off q => by cases q) ⟨rfl, by show n + 0 = (base ++ []).length; rw [List.append_nil, hblen]; rfl, by show n + 0 ≤ r.cap; omega, by exact hroom, fun _ => hc0, fun b off q => by cases q⟩, ?_⟩
        have := hvr ⟨ver + 1, n + 0, r.cap, none⟩ rfl rfl (by show n + 0 ≤ r.cap; omega) (fun _ => hc0)
        rw [e1]
        exact this
      | some p =>
        obtain ⟨b, off⟩ := p
        rw [hat] at e1
        have e1 : ad = some ⟨b, off, none⟩ := by rw [e1]; simp
        subst e1
        obtain ⟨cs, el, fr, q1, q2, q3, q4, q5⟩ := a6 b off hat
        have q2 : off + r.cap * e'.sz ≤ cs.size := q2
        have hmul : (n + ys.length) * e'.sz ≤ r.cap * e'.sz := Nat.mul_le_mul_right _ hfit
        rw [Nat.add_mul] at hmul
        have hvl := hsrc.vlen
        have hb0 : b < w.heap.size := (Array.getElem?_eq_some_iff.1 q1).1
        have hst := run_storeCells (P := P) vs w b (off + n * e'.sz) 0 cs el fr q1 (by omega) (q4 rfl) hsrc.one
        have hrun := app_fits (ty := ty) (a := ⟨b, off, none⟩) (ys := vs) ht hi hdx hnz hsrc.len hfit (by rw [hisz]; exact hsrc.first) (by rw [add_off, hisz]; exact hst)
        obtain ⟨B1, B2, B5, B3, B4⟩ := h.rowBlk k1 hro rfl hat
        refine ⟨_, _, _, hrun, h.putRow (o := o) (bc := b) (r' := ⟨ver + 1, n + ys.length, r.cap, some (b, off)⟩) (ro' := ⟨e', xApp base ys, Nat.succ ver, false⟩) (hold _ rfl) (by rw [setRow_heap, addC_heap]) (by rw [setRow_wmin, addC_wmin]) (by rw [setRow_next, addC_next]; exact Nat.le_refl _) (by rw [setRow_next, addC_next]; exact hlt) (by rw [setRow_rows, addC_rows]) (Below.setBlk' h.below B1 hb0 _) (by rw [setBlk_size]; exact Nat.le_refl _) (fun b' _ hne => by rw [setBlk_get hb0, if_neg hne]) (fun _ => ⟨B1, B2, B5, B3, B4⟩) (fun b' off' q => by cases q; rfl) ⟨rfl, by show n + ys.length = (base ++ ys).length; rw [List.length_append, hblen], hfit, hroom, (fun q => by cases q), fun b' off' q => ?_⟩, hvr ⟨ver + 1, n + ys.length, r.cap, some (b, off)⟩ rfl rfl hfit (fun q => by cases q)⟩
        cases q
        refine ⟨_, el, fr, by rw [setBlk_get hb0, if_pos rfl], by rw [wrC_size]; exact q2, fun j y hj => ?_, fun _ => by rw [wrC_size]; exact q4 rfl, fun q => nomatch q⟩
        have hj : (base ++ ys)[j]? = some y := hj
        have hw : ∀ k, (wrC cs (off + n * e'.sz + 0) vs)[k]? = if off + n * e'.sz + 0 ≤ k ∧ k < off + n * e'.sz + 0 + vs.length then vs[k - (off + n * e'.sz + 0)]? else cs[k]? := fun k => wrC_get vs cs _ k (by omega)
        by_cases hjb : j < n
        · rw [List.getElem?_append_left (by rw [hblen]; exact hjb)] at hj
          have hjr : rxs[j]? = some y := by
            have hb3 : base = (rxs.drop 0).take n := by rw [← hb2]; exact hbase
            rw [hb3, List.drop_zero, List.getElem?_take, if_pos hjb] at hj
            exact hj
          show decE _ e' y _ (off + j * e'.sz)
          refine decE_move e' y cs _ _ _ (fun k hk => ?_) (show decE _ e' y cs (off + j * e'.sz) from q3 j y hjr)
          have : (j + 1) * e'.sz ≤ n * e'.sz := Nat.mul_le_mul_right _ hjb
          rw [Nat.add_mul] at this
          rw [hw, if_neg (by omega)]
        · rw [List.getElem?_append_right (by rw [hblen]; omega), hblen] at hj
          have := hsrc.dec (wrC cs (off + n * e'.sz + 0) vs) (off + n * e'.sz) (fun k u hk => by
            have hkl : k < vs.length := (List.getElem?_eq_some_iff.1 hk).1
            rw [hw, if_pos (by omega), show off + n * e'.sz + k - (off + n * e'.sz + 0) = k from by omega]; exact hk) (j - n) y hj
          have e5 : n * e'.sz + (j - n) * e'.sz = j * e'.sz := by rw [← Nat.add_mul]; congr 1; omega
          rw [Nat.add_assoc off (n * e'.sz) ((j - n) * e'.sz), e5] at this
          exact this
    · -- it does not
      have hcap := grownCap_ge w (n + ys.length) r.cap u
      have hfitB : Builtin.nextslicecap (n + ys.length) r.cap * i.bytes ≤ 281474976710656 := growslice_fits (by omega) (by rw [hiby]; unfold Room at hroom; omega)
      have hrun := app_grows (ty := ty) (base := ad) (os := os) (ys := vs) ht hi hz hdx hnz hsrc.len hfit (by unfold Room at hroomLt; omega) hfitB (by rw [hisz]; exact o3) (by rw [hisz]; exact hsrc.firstD)
      have hsize : (os.toArray ++ vs.toArray ++ Builtin.zeroCells z.cells (grownCap w (n + ys.length) r.cap u - (n + ys.length))).size = grownCap w (n + ys.length) r.cap u * e'.sz := by
        have : (grownCap w (n + ys.length) r.cap u - (n + ys.length)) * e'.sz + (n + ys.length) * e'.sz = grownCap w (n + ys.length) r.cap u * e'.sz := by rw [← Nat.add_mul, Nat.sub_add_cancel hcap]
        rw [Nat.add_mul] at this
        have hvl := hsrc.vlen
        simp [size_zeroCells, o1, hvl, hzs]; omega
      generalize hN : os.toArray ++ vs.toArray ++ Builtin.zeroCells z.cells (grownCap w (n + ys.length) r.cap u - (n + ys.length)) = N at hrun hsize
      have hnew : (w.drew.alloc (.cells N u)).heap[w.heap.size]? = some (.cells N u) := pushed_new w.drew (.cells N u)
      have hNget : ∀ k v, (os ++ vs)[k]? = some v → N[k]? = some v := fun k v hk => by
        have hkl := (List.getElem?_eq_some_iff.1 hk).1
        rw [← hN, Array.getElem?_append_left (by simpa using hkl)]
        simpa using hk
      have hbel : Below n0 w0 (w.drew.alloc (.cells N u)) := by
        have hd := (h.drawn (w.drawn + 1)).below
        refine ⟨hd.os, hd.tape, hd.output, Nat.le_trans hd.size (by show _ ≤ (w.heap.push _).size; simp), fun j hj => ?_⟩
        have : (w.drew.alloc (.cells N u)).heap[j]? = w.heap[j]? := pushed_old (w := w) (by have := h.pos; omega)
        rw [this]; exact hd.block j hj
      refine ⟨_, _, _, hrun, h.putRow (o := o) (bc := w.heap.size) (r' := ⟨ver + 1, n + ys.length, grownCap w (n + ys.length) r.cap u, some (w.heap.size, 0)⟩) (ro' := ⟨e', xApp base ys, Nat.succ ver, false⟩) (hold _ rfl) (by rw [setRow_heap, addC_heap]) (by rw [setRow_wmin, addC_wmin]) (by rw [setRow_next, addC_next]; exact Nat.le_refl _) (by rw [setRow_next, addC_next]; exact hlt) (by rw [setRow_rows, addC_rows]) hbel (by show _ ≤ (w.heap.push _).size; simp) (fun b' hb' _ => pushed_old (w := w) hb') (fun g => absurd g (Nat.lt_irrefl _)) (fun b off q => by cases q; rfl) ⟨rfl, by show n + ys.length = (base ++ ys).length; rw [List.length_append, hblen], hcap, hroom, (fun q => by cases q), fun b off q => ?_⟩, hvr ⟨ver + 1, n + ys.length, grownCap w (n + ys.length) r.cap u, some (w.heap.size, 0)⟩ rfl rfl hcap (fun q => by cases q)⟩
      cases q
      refine ⟨N, u, (0, 0), hnew, by rw [hsize, Nat.zero_add]; exact Nat.le_refl _, fun j y hj => ?_, fun _ k _ => by simp, fun q => nomatch q⟩
      have hj : (base ++ ys)[j]? = some y := hj
      have hvl := hsrc.vlen
      by_cases hjb : j < n
      · rw [List.getElem?_append_left (by rw [hblen]; exact hjb)] at hj
        have := o4 N 0 (fun k v hk => by
          rw [Nat.zero_add]
          exact hNget k v (by rw [List.getElem?_append_left (List.getElem?_eq_some_iff.1 hk).1]; exact hk)) j y hj
        exact this
      · rw [List.getElem?_append_right (by rw [hblen]; omega), hblen] at hj
        have := hsrc.dec N (n * e'.sz) (fun k v hk => hNget _ v (by rw [List.getElem?_append_right (by omega), o1, Nat.add_sub_cancel_left]; exact hk)) (j - n) y hj
        have e5 : n * e'.sz + (j - n) * e'.sz = j * e'.sz := by rw [← Nat.add_mul]; congr 1; omega
        rw [e5] at this
        rw [Nat.zero_add]; exact this
  · cases h4

/-! ## a row of cells becomes one's own -/
def KeepH (st st' : St) : Prop := ∀ o ob, st.heap.get o = some ob → st'.heap.get o = some ob ∨ ∃ c l e, st'.heap.get o = some (.cells c l e true 0)
theorem KeepH.refl (st : St) : KeepH st st := fun o ob h => .inl h
theorem KeepH.trans {a b c : St} (h : KeepH a b) (k : KeepH b c) : KeepH a c := fun o ob e => by
  rcases h o ob e with g | ⟨x, y, z, g⟩
  · exact k o ob g
  · rcases k o _ g with q | q
    · exact .inr ⟨x, y, z, q⟩
    · exact .inr q
theorem chunks_keep {α β : Type} {f : List AV → St → Option (α × St)} (hf : ∀ l st x st', f l st = some (x, st') → KeepH st st') (nil : β) (cons : α → β → β) (sz : Nat) : ∀ (n : Nat) (l : List AV) (st : St) (x : β) (st' : St), chunks f nil cons sz n l st = some (x, st') → KeepH st st'
  | 0, l, st, x, st', h => by simp only [chunks] at h; cases h; exact KeepH.refl _
  | n + 1, l, st, x, st', h => by
    simp only [chunks] at h
    obtain ⟨a, st1, h1, h⟩ := obind2_elim h
    obtain ⟨r, st2, h2, h⟩ := obind2_elim h
    cases h
    exact (hf _ _ _ _ h1).trans (chunks_keep hf nil cons sz n _ _ _ _ h2)
mutual
theorem toL_keep : ∀ (l : LT) (a : AV) (st : St) (x : l.T) (st' : St), toL l a st = some (x, st') → KeepH st st'
  | .int k, a, st, x, st', hs => by
    simp only [toL] at hs
    obtain ⟨k', n, h1, hs⟩ := obind2_elim hs
    obtain ⟨hk, hs2⟩ := need_some hs
    cases hs2; exact KeepH.refl _
  | .bool, a, st, x, st', hs => by
    simp only [toL] at hs
    obtain ⟨b, h1, hs⟩ := obind_elim hs
    cases hs; exact KeepH.refl _
  | .str, a, st, x, st', hs => by
    simp only [toL] at hs
    obtain ⟨b, h1, hs⟩ := obind_elim hs
    cases hs; exact KeepH.refl _
  | .row e, a, st, x, st', hs => by
    cases a <;> simp only [toL] at hs <;> try (cases hs; done)
    case nils => cases hs; exact KeepH.refl _
    case loose => cases hs; exact KeepH.refl _
    case sl o k len cap kn esz =>
      obtain ⟨hby, hs⟩ := need_some hs
      obtain ⟨r, st2, h1, hs⟩ := obind2_elim hs
      cases hs
      unfold toSl at h1
      obtain ⟨hsz, h1⟩ := need_some h1
      split at h1
      · rename_i c lim es rdo hob
        obtain ⟨hin, h1⟩ := need_some h1
        refine KeepH.trans ?_ (chunks_keep (fun l st x st' h => toE_keep e l st x st' h) _ _ _ _ _ _ _ _ h1)
        intro o' ob e'
        rw [(setRo_eq st o _).1, Tr.get_set]
        split
        · exact .inr ⟨_, _, _, rfl⟩
        · exact .inl e'
      · cases h1
    case x s =>
      cases s <;> simp only [toL] at hs <;> try (cases hs; done)
      case row e' xs =>
        split at hs
        · cases hs; exact KeepH.refl _
        · cases hs
      case own o ver e' fu lo n =>
        obtain ⟨r, st2, h1, hs⟩ := obind2_elim hs
        cases hs
        unfold toOwn at h1
        obtain ⟨ro, hro, h1⟩ := obind_elim h1
        obtain ⟨_, h1⟩ := need_some h1
        obtain ⟨_, h1⟩ := need_some h1
        split at h1
        · cases h1
          intro o' ob e'
          rw [setRow_heap]; exact .inl e'
        · cases h1
theorem toE_keep : ∀ (e : ET) (l : List AV) (st : St) (x : e.T) (st' : St), toE e l st = some (x, st') → KeepH st st'
  | .one l, a, st, x, st', hs => by
    simp only [toE] at hs
    split at hs
    · obtain ⟨y, st2, h1, hs⟩ := obind2_elim hs
      cases hs
      exact toL_keep l _ _ _ _ h1
    · cases hs
  | .cons l e, a, st, x, st', hs => by
    simp only [toE] at hs
    split at hs
    · obtain ⟨y, st1, h1, hs⟩ := obind2_elim hs
      obtain ⟨z, st2, h2, hs⟩ := obind2_elim hs
      cases hs
      exact (toL_keep l _ _ _ _ h1).trans (toE_keep e _ _ _ _ h2)
    · cases hs
end

/-- the cells of a row of cells -/
theorem RS.rdCells {n0 : Nat} {w0 : World} {μ : Mu} {st : St} {w : World} (h : RS n0 w0 μ st w) {o k n : Nat} {p : Place} {c : Tr AV} {lim esz tw : Nat} {rdo : Bool} (hp : μ o = some p) (hob : st.heap.get o = some (.cells c lim esz rdo tw)) (hk : p.lo ≤ k) (hn : k + n ≤ lim) :
    ∃ cs el fr vs, w.heap[p.blk]? = some (.cells cs el fr) ∧ cs.size = p.size ∧ esz = p.esz ∧ (rdo = false → ∀ j, j < cs.size → ¬ (fr.1 ≤ j ∧ j < fr.2)) ∧ vrL μ (rd c k n) vs ∧ ∀ (j : Nat) u, vs[j]? = some u → cs[p.at_ k + j]? = some u := by
  obtain ⟨cs, el, fr, g1, g2, g3, g4, g5⟩ := h.obj o p _ hp hob
  have : ∀ (m : Nat) (k' : Nat), p.lo ≤ k' → k' + m ≤ lim → ∃ vs, vrL μ (rd c k' m) vs ∧ ∀ (j : Nat) u, vs[j]? = some u → cs[p.at_ k' + j]? = some u := by
    intro m
    induction m with
    | zero => intro k' _ _; exact ⟨[], vrL_nil.2 rfl, fun j u hj => by simp at hj⟩
    | succ m ih =>
      intro k' h1 h2
      obtain ⟨vs, q1, q2⟩ := ih (k' + 1) (by omega) (by omega)
      obtain ⟨u, q3, q4⟩ := g5 k' h1 (by omega)
      rw [rd_succ]
      refine ⟨u :: vs, vrL_cons.2 ⟨q4, q1⟩, fun j u' hj => ?_⟩
      cases j with
      | zero => simp at hj; subst hj; exact q3
      | succ j =>
        have := q2 j u' (by simpa using hj)
        rw [p.at_add h1] at this
        rw [show p.at_ k' + (j + 1) = p.at_ k' + 1 + j from by omega]; exact this
  obtain ⟨vs, q1, q2⟩ := this n k hk hn
  exact ⟨cs, el, fr, vs, g1, g2, g3, fun e => (g4 e).1, q1, q2⟩

/-- an object is given up -/
theorem RS.kill {n0 : Nat} {w0 : World} {μ : Mu} {st : St} {w : World} (h : RS n0 w0 μ st w) {o : Nat} (hwm : st.wmin ≤ o) : Post n0 w0 μ st μ (setRo st o .dead) w := by
  obtain ⟨e1, e2, e3, e4⟩ := setRo_eq st o .dead
  have hget : ∀ o', (st.heap.set o .dead).get o' = if o' = o then some .dead else st.heap.get o' := fun o' => Tr.get_set _ _ _ _
  refine ⟨Ext.refl _, fun _ _ => rfl, ⟨?_, h.blk, ?_, ?_, ?_, h.below, h.pos, by rw [e3, e2]; exact h.wle, ?_⟩, by rw [e2]; exact Nat.le_refl _, e3, ?_⟩
  · rw [e2]; exact h.fresh
  · intro o' p' ob' k1 k2
    rw [e1, hget] at k2
    split at k2
    · cases k2; trivial
    · exact h.obj o' p' ob' k1 k2
  · intro o' p' ob' k1 k2 k3
    rw [e1, hget] at k2
    split at k2
    · cases k2; cases k3
    · exact h.own o' p' ob' k1 k2 k3
  · intro a a' q q' oa oa' hne k1 k1' k2 k2' k3 k3' he
    rw [e1, hget] at k2 k2'
    split at k2
    · cases k2; cases k3
    · split at k2'
      · cases k2'; cases k3'
      · exact h.apart a a' q q' oa oa' hne k1 k1' k2 k2' k3 k3' he
  · refine h.x.move (by rw [e4]) (by rw [e2]; exact Nat.le_refl _) (fun _ _ _ => rfl) fun o' p' ob' k1 k2 k3 => ?_
    rw [e1, hget] at k2
    split at k2
    · cases k2; cases k3
    · exact .inr ⟨o', p', ob', k1, k2, k3, rfl, rfl⟩
  · intro o' ho
    rw [e1, hget, if_neg (by omega)]

theorem addRow_eq (st : St) (r : RowO) : (addRow st r).heap = st.heap ∧ (addRow st r).next = st.next + 1 ∧ (addRow st r).wmin = st.wmin ∧ (addRow st r).x.rows = st.x.rows.set st.next r ∧ (addRow st r).x.cs = st.x.cs := by
  obtain ⟨hp, nx, wm, rows, cs, orc⟩ := st; exact ⟨rfl, rfl, rfl, rfl, rfl⟩

theorem slOwn_ok {n0 : Nat} {w0 : World} {μ : Mu} {st st' : St} {w : World} (h : RS n0 w0 μ st w) {e : ET} {o k len cap esz o' : Nat} {kn : Bool} {sv : Value} (hs : slOwn e o k len esz st = some (o', st')) (hv : vr μ (.sl o k len cap kn esz) sv) :
    ∃ μ' xs, Post n0 w0 μ st μ' st' w ∧ st'.x.rows.get o' = some ⟨e, xs, 0, false⟩ ∧ vr μ' (.x (.own o' 0 e true lo0 (nLen xs))) sv := by
  unfold slOwn at hs
  obtain ⟨hsz, h1⟩ := need_some hs
  rw [beq_iff'] at hsz
  subst hsz
  split at h1
  · rename_i c lim es hob
    obtain ⟨hin, h2⟩ := need_some h1
    rw [Bool.and_eq_true, Bool.and_eq_true, ble_iff, ble_iff, ble_iff, add_eq', mul_eq', mul_eq'] at hin
    obtain ⟨⟨hin1, hin2⟩, hin3⟩ := hin
    obtain ⟨xs, st1, h3, h4⟩ := obind2_elim h2
    simp only [vr] at hv
    obtain ⟨p, C, hp, hk, rfl, hpe, hcap, hkn, hlc, hroom⟩ := hv
    obtain ⟨cs, el, fr, vs, q1, q2, q3, q4, q5, q6⟩ := h.rdCells hp hob hk hin1
    obtain ⟨μ1, p1, l1, d1⟩ := chunks_ok (α := Unit) (e := e) (n0 := n0) (w0 := w0) (w := w) (f := toE e) (fun l μ st x st' vs h1 h2 h3 => toE_ok e l μ st x st' vs h1 h2 h3) len _ _ _ xs st1 vs h q5 h3
    have hkeep := chunks_keep (fun l st x st' h => toE_keep e l st x st' h) _ _ _ _ _ _ _ _ h3 o _ hob
    split at h4
    · rename_i c' lim' es' hob1
      cases h4
      have hob2 : st1.heap.get o = some (.cells c lim es false 0) := by
        rcases hkeep with g | ⟨x, y, z, g⟩
        · exact g
        · rw [hob1] at g; cases g
      have hp1 : μ1 o = some p := p1.ext _ _ hp
      have hkill := p1.rs.kill (o := o) (by rw [p1.wm]; exact hin2)
      obtain ⟨e1, e2, e3, e4⟩ := setRo_eq st1 o .dead
      have hget : ∀ o', (st1.heap.set o .dead).get o' = if o' = o then some .dead else st1.heap.get o' := fun o' => Tr.get_set _ _ _ _
      have hfz : μ1.fz p.blk = none := p1.rs.x.fzo o p _ hp1 hob2 rfl
      obtain ⟨f1, f2, f3, f4, f5⟩ := addRow_eq (setRo st1 o .dead) ⟨e, xs, 0, false⟩
      have hnone : μ1.own st1.next = none := p1.rs.x.fresh _ (Nat.le_refl _)
      have hl : List.length xs = len := l1
      have hput := hkill.rs.putRow (o := st1.next) (bc := p.blk) (r' := ⟨0, len, C, some (p.blk, p.at_ k)⟩) (ro' := ⟨e, xs, 0, false⟩) (st' := addRow (setRo st1 o .dead) ⟨e, xs, 0, false⟩) (w' := w) (fun r e => by rw [hnone] at e; cases e) f1 f3 (by rw [f2]; omega) (by rw [f2, e2]; omega) (by rw [f4, e2]) p1.rs.below (Nat.le_refl _) (fun _ _ _ => rfl) (fun _ => ⟨p1.rs.own o p _ hp1 hob2 rfl, hfz, p1.rs.x.kpo o p _ hp1 hob2 rfl, fun o1 p2 ob1 k1 k2 k3 => ?_, fun o1 r1 ro1 off k1 k2 k3 k4 k5 => ?_⟩) (fun b off e => by cases e; rfl) ⟨rfl, hl.symm, hlc, hin3, (fun e => by cases e), fun b off e' => ?_⟩
      · refine ⟨_, xs, (p1.trans hkill).trans hput, by rw [f4, e2, Tr.get_set, if_pos rfl], vr_x.2 ⟨_, Mu.setOwn_same _ _ _, Nat.le_refl _, ⟨_, _, by rw [show nLen xs = len from hl], by rw [show nLen xs = len from hl]; exact hlc, .inr ⟨_, _, rfl⟩⟩, by rw [show nLen xs = len from hl]; exact hin3, fun _ => ⟨fun _ => ?_, by rw [show nLen xs = len from hl]; show 0 + len ≤ len; omega, fun _ => ⟨rfl, hl⟩⟩⟩⟩
        rw [show nLen xs = len from hl]
        unfold RowAt.val
        simp [lo0]
      · rw [e1, hget] at k2
        split at k2
        · cases k2; cases k3
        · rename_i hne
          intro e'
          have := p1.rs.apart o o1 p p2 _ ob1 (Ne.symm hne) hp1 k1 hob2 k2 rfl k3 e'.symm
          simp [AObj.twin] at this
      · rw [e4] at k3
        exact p1.rs.x.rapo o1 r1 ro1 _ off o p _ k2 k3 k4 k5 hp1 hob2 rfl rfl
      · cases e'
        refine ⟨cs, el, fr, q1, by show _ + C * e.sz ≤ _; rw [q2]; exact hroom, d1 cs _ q6, fun _ => q4 rfl, fun e => nomatch e⟩
    · cases h4
  · cases h1

/-! ## append -/
theorem u8s_src {P : Program} {xt : TypeId} {fz : Fz} {w : World} (hx : P.underlying xt = some .string) (l : List UInt8) : ∃ vs, Src P xt fz U8 (sBytes l) (.string ⟨⟨l⟩⟩) vs w := by
  have hlen : List.length (sBytes l) = l.length := List.length_map _
  have hfirst : ∀ w : World, (Builtin.firstCells (ET.sz U8) (List.length (sBytes l)) (.string ⟨⟨l⟩⟩)).run P w = .ok ⟨l.map fun b => Value.int .u8 (Int.ofNat b.toNat)⟩ w := fun w => by
    unfold Builtin.firstCells
    rw [run_pure]
    congr 1
    apply Array.toList_inj.1
    rw [hlen]
    simp [ByteArray.extract, ByteArray.copySlice]
  refine ⟨l.map fun (b : UInt8) => Value.int .u8 (Int.ofNat b.toNat), ⟨_, hx, .inl rfl⟩, ?_, ?_, ?_, hfirst w, hfirst w.drew, fun cs q hq i x hi => ?_⟩
  · show Builtin.lenOf (.string ⟨⟨l⟩⟩) = pure (List.length (sBytes l))
    rw [hlen]; rfl
  · rw [List.length_map]; show l.length = List.length (sBytes l) * 1; rw [hlen, Nat.mul_one]
  · intro v hv
    obtain ⟨b, _, rfl⟩ := List.mem_map.1 hv
    rfl
  · have hi : (l.map fun b => Int.ofNat b.toNat)[i]? = some x := hi
    rw [List.getElem?_map] at hi
    cases hb : l[i]? with
    | none => rw [hb] at hi; cases hi
    | some b =>
      rw [hb] at hi
      have hx : Int.ofNat b.toNat = x := Option.some.inj hi
      subst hx
      simp only [decE, decL]
      refine ⟨_, hq i (.int .u8 (Int.ofNat b.toNat)) (by rw [List.getElem?_map, hb]; rfl) |> fun z => by show cs[q + i * 1]? = _; rw [Nat.mul_one]; exact z, rfl, u8_in b⟩

theorem xSrc_ok {P : Program} {n0 : Nat} {w0 : World} {μ : Mu} {st st' : St} {w : World} (h : RS n0 w0 μ st w) {u xt : TypeId} {e : ET} {x : AV} {v : Value} {ys : List e.T} (hs : xSrc P u xt e x st = some (ys, st')) (hv : vr μ x v) :
    ∃ μ' vs, Post n0 w0 μ st μ' st' w ∧ Src P xt μ'.fz e ys v vs w := by
  unfold xSrc at hs
  split at hs
  · rename_i e' hx
    obtain ⟨r, st1, h1, h2⟩ := obind2_elim hs
    cases h2
    obtain ⟨μ', p1, d1⟩ := toL_ok (.row e) x μ st _ _ v h hv h1
    obtain ⟨vs, hsrc⟩ := Src.of_slice (P := P) (μ := μ') (w := w) hx (SlIn.of_row p1.rs.x d1)
    exact ⟨μ', vs, p1, hsrc⟩
  · rename_i hx
    split at hs
    · rename_i hh hu _
      obtain ⟨hE⟩ := hh
      obtain ⟨l, h1, h2⟩ := obind_elim hs
      cases h2
      obtain ⟨rfl, hl⟩ := tS_ok h1 hv
      subst hE
      obtain ⟨vs, hsrc⟩ := u8s_src (P := P) (fz := μ.fz) (w := w) hx l
      exact ⟨μ, vs, Post.refl h, hsrc⟩
    · cases hs
  · cases hs
theorem Src.ext {P : Program} {xt : TypeId} {f g : Fz} {e : ET} {ys : List e.T} {x : Value} {vs : List Value} {w : World} (hx : FzExt f g) (h : Src P xt f e ys x vs w) : Src P xt g e ys x vs w :=
  ⟨h.ty, h.len, h.vlen, h.one, h.first, h.firstD, fun cs q hq i x hi => decE_ext hx _ _ _ _ (h.dec cs q hq i x hi)⟩

theorem xApp1_ok {P : Program} {n0 : Nat} {w0 : World} {μ : Mu} {st st' : St} {w : World} (h : RS n0 w0 μ st w) {t xt ty u : TypeId} {e : ET} {s : AV} {ys : List e.T} {x sv : Value} {vs : List Value} {a : AV}
    (ht : P.underlying t = some (.slice u)) (he : etOf P u = some e) (hsrc : Src P xt μ.fz e ys x vs w) (hs : xApp1 e s ys st = some (a, st')) (hC : AllP st'.x.cs) (hv : vr μ s sv) :
    ∃ μ' w' v, (Builtin.append_ #[t, xt] ty #[sv, x]).run P w = .ok v w' ∧ Post n0 w0 μ st μ' st' w' ∧ vr μ' a v := by
  unfold xApp1 at hs
  split at hs
  · simp only [vr] at hv
    subst hv
    obtain ⟨f1, f2, f3, f4, f5⟩ := addRow_eq st ⟨e, lNil e, 0, false⟩
    have hput := h.putRow (o := st.next) (bc := w.heap.size) (r' := ⟨0, 0, 0, none⟩) (ro' := ⟨e, lNil e, 0, false⟩) (st' := addRow st ⟨e, lNil e, 0, false⟩) (w' := w) (fun r q => by rw [h.x.fresh _ (Nat.le_refl _)] at q; cases q) f1 f3 (by rw [f2]; omega) (by rw [f2]; omega) f4 h.below (Nat.le_refl _) (fun _ _ _ => rfl) (fun g => absurd g (Nat.lt_irrefl _)) (fun b off q => by cases q)
      ⟨rfl, rfl, Nat.le_refl _, by simp, fun _ => rfl, fun b off q => by cases q⟩
    obtain ⟨μ', w', v, g1, g2, g3⟩ := appOwn_ok (ty := ty) hput.rs ht he (hsrc.ext hput.ext.fz) hs hC (sv := .slice none 0 0) (vr_x.2 ⟨_, Mu.setOwn_same _ _ _, Nat.le_refl _, ⟨_, _, rfl, Nat.le_refl _, .inl rfl⟩, by show 0 * _ ≤ _; simp, fun _ => ⟨fun _ => rfl, Nat.le_refl _, fun _ => ⟨rfl, rfl⟩⟩⟩)
    exact ⟨μ', w', v, g1, hput.trans g2, g3⟩
  · rename_i o k len cap kn esz
    obtain ⟨o', st1, h1, h2⟩ := obind2_elim hs
    obtain ⟨ro, hro, h3⟩ := obind_elim h2
    obtain ⟨μ1, xs, p1, q1, q2⟩ := slOwn_ok h h1 hv
    have : ro = ⟨e, xs, 0, false⟩ := by
      have : st1.x.rows.get o' = some ro := hro
      rw [q1] at this; exact (Option.some.inj this).symm
    subst this
    have hn : (match eqET e e with | some h => nLen (rCast h.down xs) | none => lo0) = nLen xs ∨ True := .inr trivial
    dsimp only at h3
    have h3' : ∃ m, appOwn e o' 0 e true lo0 m ys st1 = some (a, st') ∧ (m = nLen xs ∨ ∃ hh : PLift (e = e), m = nLen (rCast hh.down xs) ∨ eqET e e = none) := by
      refine ⟨_, h3, ?_⟩
      split
      · rename_i hh _; exact .inl rfl
      · rename_i hh; exact .inr ⟨⟨rfl⟩, .inr hh⟩
    obtain ⟨m, h4, h5⟩ := h3'
    have hm : m = nLen xs := by
      rcases h5 with g | ⟨hh, g | g⟩
      · exact g
      · exact g
      · -- the types were told to be one in the append
        exfalso
        unfold appOwn at h4
        obtain ⟨ro, hro2, h6⟩ := obind_elim h4
        obtain ⟨_, h7⟩ := need_some h6
        obtain ⟨_, h8⟩ := need_some h7
        obtain ⟨hz, _⟩ := need_some h8
        rw [Bool.and_eq_true, g] at hz
        cases hz.2
    subst hm
    obtain ⟨μ', w', v, g1, g2, g3⟩ := appOwn_ok (ty := ty) p1.rs ht he (hsrc.ext p1.ext.fz) h4 hC q2
    exact ⟨μ', w', v, g1, p1.trans g2, g3⟩
  · exact appOwn_ok h ht he hsrc hs hC hv
  · cases hs

theorem xAppend_ok {P : Program} {n0 : Nat} {w0 : World} {μ : Mu} {st st' : St} {w : World} (h : RS n0 w0 μ st w) {ts : Array TypeId} {ty : TypeId} {args : List AV} {vs : Array Value} {a : AV} (hs : xAppend P ts.toList args st = some (a, st')) (hC : AllP st'.x.cs) (hv : vrL μ args vs.toList) :
    ∃ μ' w' v, (Builtin.append_ ts ty vs).run P w = .ok v w' ∧ Post n0 w0 μ st μ' st' w' ∧ vr μ' a v := by
  obtain ⟨ts⟩ := ts
  obtain ⟨vs⟩ := vs
  unfold xAppend at hs
  split at hs
  · rename_i t xt s x hts
    have hts : ts = [t, xt] := hts
    subst hts
    obtain ⟨sv, xv, hvs, h1, h2⟩ := args2 hv
    have hvs : vs = [sv, xv] := hvs
    subst hvs
    split at hs
    · rename_i u ht
      obtain ⟨e, he, h3⟩ := obind_elim hs
      obtain ⟨ys, st1, h4, h5⟩ := obind2_elim h3
      obtain ⟨μ1, cells, p1, hsrc⟩ := xSrc_ok h h4 h2
      obtain ⟨μ', w', v, g1, g2, g3⟩ := xApp1_ok (ty := ty) p1.rs ht he hsrc h5 hC (vr_ext p1.ext _ _ h1)
      exact ⟨μ', w', v, g1, p1.trans g2, g3⟩
    · cases hs
  · cases hs

theorem zLf_ok {μ : Mu} {l : LT} {a : AV} {v : Value} (h : zLf l a = true) (hv : vr μ a v) : decL μ.fz l l.z v := by
  cases l <;> cases a <;> simp only [zLf] at h <;> try (cases h; done)
  · rename_i k k' n
    rw [Bool.and_eq_true] at h
    have := sameK_eq h.1
    subst this
    have hn : n = 0 := by
      have := h.2
      split at this
      · rfl
      · cases this
    subst hn
    simp only [vr] at hv
    simp only [decL]
    exact ⟨hv, wrap_zero _⟩
  · rename_i b
    simp only [vr] at hv
    simp only [decL]
    cases b <;> first | exact hv | cases h
  · rename_i len code
    rw [beq_iff'] at h
    obtain ⟨l, rfl, h1, h2⟩ := vr_s.1 hv
    have : l = [] := List.eq_nil_of_length_eq_zero (by omega)
    subst this
    simp only [decL]
    exact ⟨rfl, Nat.zero_le _⟩
  · simp only [vr] at hv
    subst hv
    simp only [decL]
    exact ⟨none, 0, rfl, Nat.zero_le _, by show 0 * _ ≤ _; simp, .inl rfl⟩
  where
  wrap_zero (k : IntKind) : InR k 0 := by
    cases k <;> (unfold InR; decide)
theorem zOk_ok {μ : Mu} : ∀ (e : ET) (l : List AV) (vs : List Value) (cs : Array Value) (p : Nat), zOk e l = true → vrL μ l vs → (∀ j, j < e.sz → cs[p + j]? = vs[j]?) → vs.length = e.sz → decE μ.fz e e.z cs p
  | .one l, [a], vs, cs, p, h, hv, hc, hl => by
    obtain ⟨v, rfl, hv1⟩ := args1 hv
    simp only [decE]
    exact ⟨v, by have := hc 0 (Nat.succ_pos 0); simpa using this, zLf_ok h hv1⟩
  | .one l, [], vs, cs, p, h, hv, hc, hl => by simp [zOk] at h
  | .one l, _ :: _ :: _, vs, cs, p, h, hv, hc, hl => by simp [zOk] at h
  | .cons l e, [], vs, cs, p, h, hv, hc, hl => by simp [zOk] at h
  | .cons l e, a :: r, vs, cs, p, h, hv, hc, hl => by
    simp only [vrL] at hv
    obtain ⟨v, q, rfl, h1, h2⟩ := hv
    simp only [zOk, Bool.and_eq_true] at h
    simp only [decE]
    refine ⟨⟨v, by have := hc 0 (Nat.succ_pos _); simpa using this, zLf_ok h.1 h1⟩, zOk_ok e r q cs (p + 1) h.2 h2 (fun j hj => ?_) (by simpa [ET.sz] using hl)⟩
    have := hc (j + 1) (Nat.succ_lt_succ hj)
    rw [show p + 1 + j = p + (j + 1) from by omega]; simpa using this
theorem xClear_ok {P : Program} {n0 : Nat} {w0 : World} {μ : Mu} {st st' : St} {w : World} (h : RS n0 w0 μ st w) {ts : Array TypeId} {ty : TypeId} {args : List AV} {vs : Array Value} {a : AV} (hs : xClear P st ts.toList args = some (a, st')) (hv : vrL μ args vs.toList) :
    ∃ μ' w' v, (Builtin.clear_ ts ty vs).run P w = .ok v w' ∧ Post n0 w0 μ st μ' st' w' ∧ vr μ' a v := by
  unfold xClear at hs
  split at hs
  · rename_i t o ver e' fu lo n ht
    obtain ⟨vs⟩ := vs
    obtain ⟨ts⟩ := ts
    dsimp only at ht hv
    subst ht
    obtain ⟨v, rfl, hv1⟩ := args1 hv
    split at hs
    · rename_i u hu
      obtain ⟨e, he, h1⟩ := obind_elim hs
      obtain ⟨za, hz, h2⟩ := obind_elim h1
      obtain ⟨hok, h3⟩ := need_some h2
      obtain ⟨ro, hro, h4⟩ := obind_elim h3
      obtain ⟨hver, h5⟩ := need_some h4
      obtain ⟨hfr, h6⟩ := need_some h5
      rw [beq_iff'] at hver
      rw [Bool.and_eq_true] at hok
      split at h6
      · rename_i hh _
        obtain ⟨hE⟩ := hh
        cases h6
        obtain ⟨re, rxs, rv, rf⟩ := ro
        dsimp only at hE hver hfr
        subst hE
        subst hver
        have hee : e' = re := by
          cases q : eqET e' re with
          | none => have := hok.2; rw [q] at this; cases this
          | some z => exact z.down
        subst hee
        have hf : rf = false := by cases rf <;> first | rfl | cases hfr
        subst hf
        obtain ⟨r, k1, k2, ⟨ad, c, rfl, k4, k5⟩, k6, k7⟩ := vr_x.1 hv1
        have hR := h.x.row o r _ k1 hro
        obtain ⟨a1, a2, a3, a4, a5, a6⟩ := hR
        obtain ⟨m1, m2, m3⟩ := k7 a1.symm
        have a2' : r.len = rxs.length := a2
        obtain ⟨i, z, hi, hiz, hcv⟩ := zinfo hz
        obtain ⟨i', z', hi', hiz', hs1, hs2, hs3⟩ := etOf_ok he
        rw [hi] at hi'; cases hi'
        rw [hiz] at hiz'; cases hiz'
        have hzt : za ≠ .top := fun e => zeroT_ne_top (e ▸ hz)
        have hzr : vrL μ (acells za) z.cells.toList := acells_vr (cv_vr _ _ _ hcv) hzt
        have hlt : o < st.next := by
          rcases Nat.lt_or_ge o st.next with g | g
          · exact g
          · have := h.x.fresh o g; rw [k1] at this; cases this
        by_cases hn : n = 0
        · -- nothing is cleared
          subst hn
          have hx : xZero (rCast rfl rxs) lo 0 (zE e') = rxs := by
            show List.take lo rxs ++ [] ++ List.drop (lo + 0) rxs = rxs
            simp
          have put : ∀ bc, (∀ b off, r.at_ = some (b, off) → b = bc) → (bc < w.heap.size → ∃ off, r.at_ = some (bc, off)) → Post n0 w0 μ st (μ.setOwn o r) (setRow st o ⟨e', xZero (rCast rfl rxs) lo 0 (zE e'), ver, false⟩) w := fun bc hbc hin =>
            h.putRow (o := o) (bc := bc) (r' := r) (ro' := ⟨e', xZero (rCast rfl rxs) lo 0 (zE e'), ver, false⟩) (w' := w) (fun r2 e => by rw [k1] at e; cases e; exact ⟨Nat.le_refl _, fun _ => rfl⟩) (setRow_heap _ _ _) (setRow_wmin _ _ _) (by rw [setRow_next]; exact Nat.le_refl _) (by rw [setRow_next]; exact hlt) (setRow_rows _ _ _) h.below (Nat.le_refl _) (fun _ _ _ => rfl) (fun g => by
              obtain ⟨off, hat⟩ := hin g
              exact h.rowBlk k1 hro rfl hat) hbc (by rw [hx]; exact ⟨a1, a2, a3, a4, a5, a6⟩)
          refine ⟨μ.setOwn o r, w, .tuple #[], ?_, ?_, undefA_vr _⟩
          · have : (∃ p, ad = some p) ∨ ad = none := by cases ad <;> simp
            rcases this with ⟨p, rfl⟩ | rfl <;> simp [Builtin.clear_, run_underlying hu]
          cases hat : r.at_ with
          | none => exact put w.heap.size (fun b off q => by rw [hat] at q; cases q) fun g => absurd g (Nat.lt_irrefl _)
          | some ad => exact put ad.1 (fun b off q => by rw [hat] at q; cases q; rfl) fun _ => ⟨ad.2, hat⟩
        · have hval := m1 (.inr (by omega))
          unfold RowAt.val at hval
          injection hval with e1 e2 e3
          cases hat : r.at_ with
          | none => have := a5 hat; omega
          | some q =>
            obtain ⟨b, off⟩ := q
            rw [hat] at e1
            subst e1
            obtain ⟨cs, el, fr, q1, q2, q3, q4, q5⟩ := a6 b off hat
            have q2 : off + r.cap * e'.sz ≤ cs.size := q2
            have hzl : z.cells.toList.length = e'.sz := by simpa using hs3
            have hrl := repL_length z.cells.toList n
            rw [hzl] at hrl
            have hfit : off + lo * e'.sz + n * e'.sz ≤ cs.size := by
              have : (lo + n) * e'.sz ≤ r.cap * e'.sz := Nat.mul_le_mul_right _ (by omega)
              rw [Nat.add_mul] at this
              omega
            have hblk : b < w.heap.size := (Array.getElem?_eq_some_iff.1 q1).1
            have hone : ∀ x ∈ repL z.cells.toList n, oneC x = true := by
              have hz1 : ∀ x ∈ z.cells.toList, oneC x = true := by
                have : ∀ (l : List AV) (vs : List Value), vrL μ l vs → ∀ (e : ET), zOk e l = true → ∀ x ∈ vs, oneC x = true := by
                  intro l
                  induction l with
                  | nil => intro vs hv e hz; cases e <;> simp [zOk] at hz
                  | cons a r ih =>
                    intro vs hv e hz x hx
                    simp only [vrL] at hv
                    obtain ⟨v, q, rfl, g1, g2⟩ := hv
                    cases e with
                    | one l =>
                      cases r with
                      | nil =>
                        have : q = [] := vrL_nil.1 g2
                        subst this
                        rw [List.mem_singleton] at hx
                        subst hx
                        exact decL_one l _ _ (zLf_ok hz g1)
                      | cons _ _ => simp [zOk] at hz
                    | cons l e =>
                      simp only [zOk, Bool.and_eq_true] at hz
                      rcases List.mem_cons.1 hx with rfl | hx
                      · exact decL_one l _ _ (zLf_ok hz.1 g1)
                      · exact ih q g2 e hz.2 x hx
                exact this _ _ hzr e' hok.1
              intro x hx
              have : ∀ n, ∀ x ∈ repL z.cells.toList n, x ∈ z.cells.toList := by
                intro n
                induction n with
                | zero => intro x hx; cases hx
                | succ n ih => intro x hx; rw [repL] at hx; rcases List.mem_append.1 hx with hx | hx; exact hx; exact ih x hx
              exact hz1 x (this n x hx)
            have hrun := run_storeCells (P := P) (repL z.cells.toList n) w b (off + lo * e'.sz) 0 cs el fr q1 (by rw [hrl]; omega) (q4 rfl) hone
            obtain ⟨B1, B2, B5, B3, B4⟩ := h.rowBlk k1 hro rfl hat
            refine ⟨_, setBlk w b (.cells (wrC cs (off + lo * e'.sz) (repL z.cells.toList n)) el fr), .tuple #[], ?_, h.putRow (o := o) (bc := b) (r' := r) (ro' := ⟨e', xZero (rCast rfl rxs) lo n (zE e'), ver, false⟩) (fun r2 e => by rw [k1] at e; cases e; exact ⟨Nat.le_refl _, fun _ => rfl⟩) (setRow_heap _ _ _) (setRow_wmin _ _ _) (by rw [setRow_next]; exact Nat.le_refl _) (by rw [setRow_next]; exact hlt) (setRow_rows _ _ _)
              (Below.setBlk' h.below B1 hblk _) (by rw [setBlk_size]; exact Nat.le_refl _) (fun b' _ hb' => by rw [setBlk_get hblk, if_neg hb']) (fun _ => ⟨B1, B2, B5, B3, B4⟩) (fun b' off' q => by rw [hat] at q; cases q; rfl) ?_, undefA_vr _⟩
            · have e3 : (Builtin.zeroCells z.cells n).toList = repL z.cells.toList n := by rw [zeroCells_eq z n (by rw [← Array.length_toList, hzl]; exact ET.sz_pos _)]
              simp [Builtin.clear_, run_underlying hu, zeroValue, typeInfo, hi, hiz, hn, e3, hrun]
            · have hxl : (xZero (rCast rfl rxs) lo n (zE e')).length = rxs.length := by
                show (List.take lo rxs ++ List.replicate n _ ++ List.drop (lo + n) rxs).length = _
                simp; omega
              refine ⟨a1, a2'.trans hxl.symm, a3, a4, a5, fun b' off' q => ?_⟩
              rw [hat] at q; cases q
              refine ⟨_, el, fr, by rw [setBlk_get hblk, if_pos rfl], by rw [wrC_size]; exact q2, fun i x hx => ?_, fun _ => by rw [wrC_size]; exact q4 rfl, fun e => nomatch e⟩
              have hx : (List.take lo rxs ++ List.replicate n e'.z ++ List.drop (lo + n) rxs)[i]? = some x := hx
              have hwr : ∀ k, (wrC cs (off + lo * e'.sz) (repL z.cells.toList n))[k]? = if off + lo * e'.sz ≤ k ∧ k < off + lo * e'.sz + n * e'.sz then (repL z.cells.toList n)[k - (off + lo * e'.sz)]? else cs[k]? := fun k => by
                rw [wrC_get _ _ _ _ (by rw [hrl]; exact hfit), hrl]
              by_cases hin : lo ≤ i ∧ i < lo + n
              · rw [List.append_assoc, List.getElem?_append_right (by simp; omega), List.getElem?_append_left (by simp; omega), List.getElem?_replicate] at hx
                rw [if_pos (by simp; omega)] at hx
                cases hx
                show decE μ.fz e' e'.z _ (off + i * e'.sz)
                refine zOk_ok (μ := μ) e' _ _ _ _ hok.1 hzr (fun j hj => ?_) hzl
                have h1 : (i - lo) * e'.sz + lo * e'.sz = i * e'.sz := by rw [← Nat.add_mul]; congr 1; omega
                have h2 : (i - lo + 1) * e'.sz ≤ n * e'.sz := Nat.mul_le_mul_right _ (by omega)
                rw [Nat.add_mul, Nat.one_mul] at h2
                rw [hwr, if_pos (by omega), show off + i * e'.sz + j - (off + lo * e'.sz) = (i - lo) * e'.sz + j from by omega, repL_get _ (by rw [hzl]; exact ET.sz_pos _) n _ (by rw [hzl]; omega), hzl]
                rw [Nat.add_comm, Nat.add_mul_mod_self_right, Nat.mod_eq_of_lt hj]
              · have hx1 : rxs[i]? = some x := by
                  rcases Nat.lt_or_ge i lo with g | g
                  · rw [List.append_assoc, List.getElem?_append_left (by simp; omega), List.getElem?_take, if_pos g] at hx; exact hx
                  · have g2 : lo + n ≤ i := by omega
                    rw [List.getElem?_append_right (by simp; omega)] at hx
                    simp only [List.length_append, List.length_take, List.length_replicate, List.getElem?_drop] at hx
                    rw [← hx]; congr 1; omega
                show decE μ.fz e' x _ (off + i * e'.sz)
                refine decE_move e' x cs _ _ _ (fun k hk => ?_) (show decE _ e' x cs (off + i * e'.sz) from q3 i x hx1)
                rw [hwr, if_neg (fun zz => ?_)]
                rcases Nat.lt_or_ge i lo with g | g
                · have := Nat.mul_le_mul_right e'.sz (show i + 1 ≤ lo by omega)
                  rw [Nat.add_mul, Nat.one_mul] at this
                  omega
                · have := Nat.mul_le_mul_right e'.sz (show lo + n ≤ i by omega)
                  rw [Nat.add_mul] at this
                  omega
      · cases h6
    · cases hs
  · cases hs
theorem aX_ok {P : Program} {n0 : Nat} {w0 : World} {μ : Mu} {st st' : St} {w : World} (h : RS n0 w0 μ st w) {ρ : Operand → Value} {o : Oper} {args : List AV} {a : AV} (hs : aX P o.op args st = some (a, st')) (hC : AllP st'.x.cs) (hv : vrL μ args (o.op.operands.toList.map ρ)) :
    ActOk n0 w0 μ st st' a ((execOp ρ o).run P w) := by
  obtain ⟨dst, op, ty, pos, after, guard⟩ := o
  cases op <;> simp only [aX] at hs <;> try (cases hs; done)
  case store t x y =>
    split at hs
    · obtain ⟨v1, v2, e, h1, h2⟩ := args2 hv
      cases e
      obtain ⟨rfl, ad, w', μ', e1, e2, e3⟩ := xStore_ok (P := P) h hs h1 h2
      refine ActOk.skip ?_ e3
      rw [e1]; exact e2
    · cases hs
  case call c =>
    obtain ⟨callee, cargs, argTypes⟩ := c
    dsimp only at hs
    split at hs
    · have hl' : vrL μ args (cargs.map ρ).toList := by simpa [Op.operands, Call.operands] using hv
      obtain ⟨μ', w', v, g1, g2, g3⟩ := xAppend_ok (P := P) (ty := ty) h hs hC hl'
      exact ActOk.value g1 g2 g3
    · have hl' : vrL μ args (cargs.map ρ).toList := by simpa [Op.operands, Call.operands] using hv
      obtain ⟨μ', w', v, g1, g2, g3⟩ := xClear_ok (P := P) (ty := ty) h hs hl'
      exact ActOk.value g1 g2 g3
    · cases hs
end Go.Proofs.Ytkccnomdfkhfnaa.Ev
