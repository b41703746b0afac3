/- What functions of the program compute, written down; read off their code. -/
import Derived.Test.YtkccnomdfkhfnaaEvRel
set_option linter.unusedSimpArgs false
set_option linter.unusedVariables false
namespace Go.Proofs.Ytkccnomdfkhfnaa.Ev
open Go.RowKit

/-- may it stand in one cell? -/
def oneC : Value → Bool
  | .agg _ | .tuple _ => false
  | _ => true

def AObj.free : AObj → Bool
  | .cells _ _ _ ro _ => !ro
  | .map _ _ => true
  | .iter _ _ => true
  | .dead => false
  | .miter _ => true
def AObj.live : AObj → Bool
  | .dead => false
  | _ => true
def AObj.twin : AObj → Nat
  | .cells _ _ _ _ tw => tw
  | _ => 0

/-- no cell of the block is frozen; of a block of wider elements nothing is, not even behind its end -/
def noFrz (esz size : Nat) (fr : Nat × Nat) : Prop := (∀ off, off < size → ¬ (fr.1 ≤ off ∧ off < fr.2)) ∧ (2 ≤ esz → fr.2 ≤ fr.1) ∧ fr.1 ≤ fr.2

def entRel (μ : Mu) (e : AV × AV × Nat) (m : MapEntry) : Prop := vr μ e.1 m.key ∧ vr μ e.2.1 m.val ∧ m.born = e.2.2
def entsRel (μ : Mu) : List (AV × AV × Nat) → List MapEntry → Prop
  | [], ms => ms = []
  | e :: es, ms => ∃ m r, ms = m :: r ∧ entRel μ e m ∧ entsRel μ es r

/-- what was told at the steps, by the numbers that keep it -/
def seenRel (μ : Mu) (bs : List Nat) : List Nat → List Nat → Prop
  | [], ss => ss = []
  | g :: gs, ss => ∃ p s r, ss = s :: r ∧ μ g = some p ∧ bs[p.lo]? = some s ∧ seenRel μ bs gs r
theorem seenRel_ext {μ μ' : Mu} (h : Ext μ μ') {bs : List Nat} : ∀ (gs ss : List Nat), seenRel μ bs gs ss → seenRel μ' bs gs ss
  | [], ss, e => e
  | g :: gs, ss, ⟨p, s, r, h1, h2, h3, h4⟩ => ⟨p, s, r, h1, h g p h2, h3, seenRel_ext h gs r h4⟩
theorem seenRel_length {μ : Mu} {bs : List Nat} : ∀ (gs ss : List Nat), seenRel μ bs gs ss → ss.length = gs.length
  | [], _, e => by rw [show _ = [] from e]
  | g :: gs, _, ⟨p, s, r, h1, _, _, h4⟩ => by rw [h1, List.length_cons, List.length_cons, seenRel_length gs r h4]
theorem seenRel_snoc {μ : Mu} {bs : List Nat} {g s : Nat} {p : Place} (hg : μ g = some p) (hs : bs[p.lo]? = some s) : ∀ (gs ss : List Nat), seenRel μ bs gs ss → seenRel μ bs (gs ++ [g]) (ss ++ [s])
  | [], ss, e => by rw [show ss = [] from e]; exact ⟨p, s, [], rfl, hg, hs, rfl⟩
  | g' :: gs, ss, ⟨p', s', r, h1, h2, h3, h4⟩ => by subst h1; exact ⟨p', s', r ++ [s], rfl, h2, h3, seenRel_snoc hg hs gs r h4⟩
theorem seenRel_mem {μ : Mu} {bs : List Nat} : ∀ (gs ss : List Nat), seenRel μ bs gs ss → ∀ s ∈ ss, s ∈ bs
  | [], _, e, s, hs => by rw [show _ = [] from e] at hs; cases hs
  | g :: gs, ss, ⟨p, s', r, h1, _, h3, h4⟩, s, hs => by
    subst h1
    rcases List.mem_cons.1 hs with rfl | hs
    · exact List.mem_of_getElem? h3
    · exact seenRel_mem gs r h4 s hs
theorem seenRel_get {μ : Mu} {bs : List Nat} : ∀ (gs ss : List Nat), seenRel μ bs gs ss → ∀ (i g : Nat), gs[i]? = some g → ∃ p s, μ g = some p ∧ bs[p.lo]? = some s ∧ ss[i]? = some s
  | [], ss, e, i, g, hg => by simp at hg
  | g' :: gs, ss, ⟨p, s', r, h1, h2, h3, h4⟩, i, g, hg => by
    subst h1
    cases i with
    | zero => simp at hg; subst hg; exact ⟨p, s', h2, h3, by simp⟩
    | succ i => simp at hg; simpa using seenRel_get gs r h4 i g hg

def ORel (μ : Mu) (p : Place) (ob : AObj) (heap : Array Obj) : Prop :=
  match ob with
  | .cells c lim esz ro _ => ∃ cs el fr, heap[p.blk]? = some (.cells cs el fr) ∧ cs.size = p.size ∧ esz = p.esz ∧ (ro = false → noFrz esz cs.size fr) ∧
      ∀ k, p.lo ≤ k → k < lim → ∃ v, cs[p.at_ k]? = some v ∧ vr μ ((c.get k).getD .top) v
  | .map es clock => ∃ ms, heap[p.blk]? = some (.map ⟨ms⟩ clock) ∧ entsRel μ es ms
  | .iter s pos => p.lo = 0 ∧ p.base = 0 ∧ heap[p.blk]? = some (.stringIter s pos)
  | .dead => True
  | .miter none => p.lo = 0 ∧ p.base = 0 ∧ ∃ a b c, heap[p.blk]? = some (.mapIter none a b c)
  | .miter (some (.mk m since bs gs)) => p.lo = 0 ∧ p.base = 0 ∧ ∃ q seen, μ m = some q ∧ heap[p.blk]? = some (.mapIter (some q.blk) since ⟨seen⟩ since) ∧ seen.Nodup ∧ seenRel μ bs gs seen

theorem AObj.free_live {ob : AObj} (h : ob.free = true) : ob.live = true := by cases ob <;> first | rfl | cases h

/-- what is known of a row of one's own -/
def RowRel (fz : Fz) (r : RowAt) (ro : RowO) (heap : Array Obj) : Prop :=
  r.ver = ro.ver ∧ r.len = ro.xs.length ∧ r.len ≤ r.cap ∧ r.len * ro.e.by ≤ Room ∧ (r.at_ = none → r.cap = 0) ∧
    ∀ b off, r.at_ = some (b, off) → ∃ cs el fr, heap[b]? = some (.cells cs el fr) ∧ off + r.cap * ro.e.sz ≤ cs.size ∧ (∀ (i : Nat) (x : ro.e.T), ro.xs[i]? = some x → decE fz ro.e x cs (off + i * ro.e.sz)) ∧
      (ro.fr = false → ∀ j, j < cs.size → ¬ (fr.1 ≤ j ∧ j < fr.2)) ∧ (ro.fr = true → fz b = some cs)
structure RX (n0 : Nat) (μ : Mu) (st : St) (w : World) : Prop where
  fresh : ∀ o, st.next ≤ o → μ.own o = none
  fzh : ∀ b cs, μ.fz b = some cs → ∃ el fr, w.heap[b]? = some (.cells cs el fr)
  fzo : ∀ o p ob, μ o = some p → st.heap.get o = some ob → ob.free = true → μ.fz p.blk = none
  row : ∀ o r ro, μ.own o = some r → st.x.rows.get o = some ro → RowRel μ.fz r ro w.heap
  rown : ∀ o r ro b off, μ.own o = some r → st.x.rows.get o = some ro → ro.fr = false → r.at_ = some (b, off) → n0 ≤ b ∧ μ.fz b = none
  rap : ∀ o o' r r' ro ro' b off off', o ≠ o' → μ.own o = some r → μ.own o' = some r' → st.x.rows.get o = some ro → st.x.rows.get o' = some ro' → ro.fr = false → ro'.fr = false →
    r.at_ = some (b, off) → r'.at_ = some (b, off') → False
  rapo : ∀ o r ro b off o' p ob, μ.own o = some r → st.x.rows.get o = some ro → ro.fr = false → r.at_ = some (b, off) → μ o' = some p → st.heap.get o' = some ob → ob.live = true → p.blk ≠ b
  fzn : ∀ b cs, μ.fz b = some cs → μ.f0 b = some cs ∨ μ.kp b = none
  kph : ∀ b ob, μ.kp b = some ob → w.heap[b]? = some ob
  kpo : ∀ o p ob, μ o = some p → st.heap.get o = some ob → ob.free = true → μ.kp p.blk = none
  kpr : ∀ o r ro b off, μ.own o = some r → st.x.rows.get o = some ro → ro.fr = false → r.at_ = some (b, off) → μ.kp b = none
  fro : ∀ o p ob, μ o = some p → st.heap.get o = some ob → ob.live = true → ob.free = false → ∃ cs, μ.fz p.blk = some cs

/-- objects are turned, or come; the rows of one's own and what is never written stay -/
theorem RX.move {n0 : Nat} {μ : Mu} {st st' : St} {w w' : World} (h : RX n0 μ st w) {pl' : Nat → Option Place} (hr : st'.x.rows = st.x.rows) (hn : st.next ≤ st'.next)
    (hb : ∀ b, b < w.heap.size → (∀ o p ob, μ o = some p → st.heap.get o = some ob → ob.free = true → p.blk ≠ b) → w'.heap[b]? = w.heap[b]?)
    (ho : ∀ o p ob, pl' o = some p → st'.heap.get o = some ob → ob.live = true →
      (w.heap.size ≤ p.blk ∧ ob.free = true) ∨ ∃ o2 p2 ob2, μ o2 = some p2 ∧ st.heap.get o2 = some ob2 ∧ ob2.live = true ∧ p2.blk = p.blk ∧ ob2.free = ob.free) : RX n0 ⟨pl', μ.fz, μ.own, μ.f0, μ.kp⟩ st' w' := by
  have hfb : ∀ b cs, μ.fz b = some cs → b < w.heap.size ∧ w'.heap[b]? = w.heap[b]? := fun b cs e => by
    obtain ⟨el, fr, g⟩ := h.fzh b cs e
    have hlt := (Array.getElem?_eq_some_iff.1 g).1
    exact ⟨hlt, hb b hlt fun o p ob h1 h2 h3 q => by have := h.fzo o p ob h1 h2 h3; rw [q, e] at this; cases this⟩
  have hrb : ∀ o r ro b off, μ.own o = some r → st.x.rows.get o = some ro → r.at_ = some (b, off) → b < w.heap.size ∧ w'.heap[b]? = w.heap[b]? := fun o r ro b off h1 h2 h3 => by
    obtain ⟨_, _, _, _, _, g⟩ := h.row o r ro h1 h2
    obtain ⟨cs, el, fr, g1, _, _, _, g5⟩ := g b off h3
    have hlt := (Array.getElem?_eq_some_iff.1 g1).1
    cases hf : ro.fr with
    | true => exact hfb b cs (g5 hf)
    | false => exact ⟨hlt, hb b hlt fun o' p ob k1 k2 k3 => h.rapo o r ro b off o' p ob h1 h2 hf h3 k1 k2 (AObj.free_live k3)⟩
  refine ⟨fun o ho => h.fresh o (Nat.le_trans hn ho), fun b cs e => ?_, fun o p ob h1 h2 h3 => ?_, fun o r ro h1 h2 => ?_, fun o r ro b off h1 h2 => ?_, ?_, ?_, h.fzn, fun b ob e => ?_, fun o p ob h1 h2 h3 => ?_, fun o r ro b off h1 h2 => (by rw [hr] at h2; exact h.kpr o r ro b off h1 h2), fun o p ob h1 h2 h3 h4 => ?_⟩
  · rw [(hfb b cs e).2]; exact h.fzh b cs e
  · show μ.fz p.blk = none
    cases e : μ.fz p.blk with
    | none => rfl
    | some cs =>
      have hlt := (hfb _ _ e).1
      rcases ho o p ob h1 h2 (AObj.free_live h3) with ⟨g, _⟩ | ⟨o2, p2, ob2, g1, g2, g3, g4, g5⟩
      · omega
      · have := h.fzo o2 p2 ob2 g1 g2 (g5.trans h3); rw [g4, e] at this; cases this
  · rw [hr] at h2
    obtain ⟨a1, a2, a3, a4, a5, a6⟩ := h.row o r ro h1 h2
    refine ⟨a1, a2, a3, a4, a5, fun b off h3 => ?_⟩
    rw [(hrb o r ro b off h1 h2 h3).2]; exact a6 b off h3
  · rw [hr] at h2; exact h.rown o r ro b off h1 h2
  · rw [hr]; exact h.rap
  · intro o r ro b off o' p ob h1 h2 h3 h4 h5 h6 h7
    rw [hr] at h2
    have hlt := (hrb o r ro b off h1 h2 h4).1
    rcases ho o' p ob h5 h6 h7 with ⟨g, _⟩ | ⟨o2, p2, ob2, g1, g2, g3, g4, g5⟩
    · omega
    · rw [← g4]; exact h.rapo o r ro b off o2 p2 ob2 h1 h2 h3 h4 g1 g2 g3
  · have g := h.kph b ob e
    have hlt := (Array.getElem?_eq_some_iff.1 g).1
    rw [hb b hlt fun o p ob' h1 h2 h3 q => by have := h.kpo o p ob' h1 h2 h3; rw [q, e] at this; cases this]; exact g
  · show μ.kp p.blk = none
    cases e : μ.kp p.blk with
    | none => rfl
    | some ob0 =>
      have hlt := (Array.getElem?_eq_some_iff.1 (h.kph _ _ e)).1
      rcases ho o p ob h1 h2 (AObj.free_live h3) with ⟨g, _⟩ | ⟨o2, p2, ob2, g1, g2, g3, g4, g5⟩
      · omega
      · have := h.kpo o2 p2 ob2 g1 g2 (g5.trans h3); rw [g4, e] at this; cases this
  · rcases ho o p ob h1 h2 h3 with ⟨_, g⟩ | ⟨o2, p2, ob2, g1, g2, g3, g4, g5⟩
    · rw [h4] at g; cases g
    · rw [← g4]; exact h.fro o2 p2 ob2 g1 g2 g3 (g5.trans h4)

structure RS (n0 : Nat) (w0 : World) (μ : Mu) (st : St) (w : World) : Prop where
  fresh : ∀ o, st.next ≤ o → μ o = none
  blk : ∀ o p, μ o = some p → p.blk < w.heap.size
  obj : ∀ o p ob, μ o = some p → st.heap.get o = some ob → ORel μ p ob w.heap
  own : ∀ o p ob, μ o = some p → st.heap.get o = some ob → ob.free = true → n0 ≤ p.blk
  apart : ∀ o o' p p' ob ob', o ≠ o' → μ o = some p → μ o' = some p' → st.heap.get o = some ob → st.heap.get o' = some ob' →
    ob.live = true → ob'.live = true → p.blk = p'.blk → ob.twin = o' + 1
  below : Below n0 w0 w
  pos : n0 ≤ w.heap.size
  wle : st.wmin ≤ st.next
  x : RX n0 μ st w

structure Post (n0 : Nat) (w0 : World) (μ : Mu) (st : St) (μ' : Mu) (st' : St) (w' : World) : Prop where
  ext : Ext μ μ'
  old : ∀ o, o < st.next → μ' o = μ o
  rs : RS n0 w0 μ' st' w'
  next : st.next ≤ st'.next
  wm : st'.wmin = st.wmin
  bar : ∀ o, o < st.wmin → st'.heap.get o = st.heap.get o

theorem Post.refl {n0 : Nat} {w0 : World} {μ : Mu} {st : St} {w : World} (h : RS n0 w0 μ st w) : Post n0 w0 μ st μ st w :=
  ⟨Ext.refl _, fun _ _ => rfl, h, Nat.le_refl _, rfl, fun _ _ => rfl⟩
theorem Post.trans {n0 : Nat} {w0 : World} {μ μ' μ'' : Mu} {st st' st'' : St} {w' w'' : World} (h : Post n0 w0 μ st μ' st' w') (k : Post n0 w0 μ' st' μ'' st'' w'') :
    Post n0 w0 μ st μ'' st'' w'' :=
  ⟨h.ext.trans k.ext, fun o ho => (k.old o (Nat.lt_of_lt_of_le ho h.next)).trans (h.old o ho), k.rs, Nat.le_trans h.next k.next, k.wm.trans h.wm,
    fun o ho => (k.bar o (by rw [h.wm]; exact ho)).trans (h.bar o ho)⟩

theorem entsRel_ext {μ μ' : Mu} (h : Ext μ μ') : ∀ (es : List (AV × AV × Nat)) (ms : List MapEntry), entsRel μ es ms → entsRel μ' es ms
  | [], ms, e => e
  | x :: es, ms, e => by
    obtain ⟨m, r, h1, ⟨a, b, c⟩, h3⟩ := e
    exact ⟨m, r, h1, ⟨vr_ext h _ _ a, vr_ext h _ _ b, c⟩, entsRel_ext h es r h3⟩

theorem ORel_ext {μ μ' : Mu} (h : Ext μ μ') {p : Place} {ob : AObj} {heap : Array Obj} (e : ORel μ p ob heap) : ORel μ' p ob heap := by
  cases ob with
  | cells c lim esz ro tw =>
    obtain ⟨cs, el, fr, h1, h2, h3, h4, h5⟩ := e
    exact ⟨cs, el, fr, h1, h2, h3, h4, fun k a b => let ⟨v, x, y⟩ := h5 k a b; ⟨v, x, vr_ext h _ _ y⟩⟩
  | map es clock => obtain ⟨ms, h1, h2⟩ := e; exact ⟨ms, h1, entsRel_ext h _ _ h2⟩
  | iter s pos => exact e
  | dead => trivial
  | miter m => cases m with
    | none => exact e
    | some r => cases r with | mk m since bs gs => obtain ⟨h0, h1, q, a, h2, h3, h4, h5⟩ := e; exact ⟨h0, h1, q, a, h m q h2, h3, h4, seenRel_ext h _ _ h5⟩

/-- it depends on its own block alone -/
theorem ORel_heap {μ : Mu} {p : Place} {ob : AObj} {heap heap' : Array Obj} (hb : heap'[p.blk]? = heap[p.blk]?) (e : ORel μ p ob heap) : ORel μ p ob heap' := by
  cases ob with
  | cells c lim esz ro tw => obtain ⟨cs, el, fr, h1, h2⟩ := e; exact ⟨cs, el, fr, hb ▸ h1, h2⟩
  | map es clock => obtain ⟨ms, h1, h2⟩ := e; exact ⟨ms, hb ▸ h1, h2⟩
  | iter s pos => obtain ⟨h0, h1, h2⟩ := e; exact ⟨h0, h1, hb ▸ h2⟩
  | dead => trivial
  | miter m => cases m with
    | none => obtain ⟨h0, h1, a, b, c, h2⟩ := e; exact ⟨h0, h1, a, b, c, hb ▸ h2⟩
    | some r => cases r with | mk m since bs gs => obtain ⟨h0, h1, q, a, h2, h3, h4⟩ := e; exact ⟨h0, h1, q, a, h2, hb ▸ h3, h4⟩

theorem RS.drawn {n0 : Nat} {w0 : World} {μ : Mu} {st : St} {w : World} (h : RS n0 w0 μ st w) (n : Nat) : RS n0 w0 μ st { w with drawn := n } :=
  ⟨h.fresh, h.blk, h.obj, h.own, h.apart, ⟨h.below.os, h.below.tape, h.below.output, h.below.size, h.below.block⟩, h.pos, h.wle,
    h.x.move rfl (Nat.le_refl _) (fun _ _ _ => rfl) fun o p ob h1 h2 h3 => .inr ⟨o, p, ob, h1, h2, h3, rfl, rfl⟩⟩

/-! ### rows of cells -/
def wrC : Array Value → Nat → List Value → Array Value
  | cs, _, [] => cs
  | cs, k, v :: r => wrC (cs.setIfInBounds k v) (k + 1) r
theorem wrC_size : ∀ (xs : List Value) (cs : Array Value) (k : Nat), (wrC cs k xs).size = cs.size
  | [], cs, k => rfl
  | v :: r, cs, k => by rw [wrC, wrC_size r]; simp
theorem wrC_get : ∀ (xs : List Value) (cs : Array Value) (k : Nat) (j : Nat), k + xs.length ≤ cs.size →
    (wrC cs k xs)[j]? = if k ≤ j ∧ j < k + xs.length then xs[j - k]? else cs[j]?
  | [], cs, k, j, h => by rw [wrC, if_neg (by simp only [List.length_nil]; omega)]
  | v :: r, cs, k, j, h => by
    simp only [List.length_cons] at h ⊢
    rw [wrC, wrC_get r _ _ _ (by simp; omega)]
    by_cases h1 : k + 1 ≤ j ∧ j < k + 1 + r.length
    · rw [if_pos h1, if_pos (by omega), show j - k = (j - (k + 1)) + 1 from by omega, List.getElem?_cons_succ]
    · rw [if_neg h1]
      by_cases h2 : j = k
      · subst h2; rw [if_pos (by omega), Nat.sub_self, List.getElem?_cons_zero, Array.getElem?_setIfInBounds, if_pos rfl, if_pos (by omega)]
      · rw [if_neg (by omega), Array.getElem?_setIfInBounds, if_neg (Ne.symm h2)]
theorem wr_get : ∀ (vs : List AV) (c : Tr AV) (k j : Nat), (wr c k vs).get j = if k ≤ j ∧ j < k + vs.length then vs[j - k]? else c.get j
  | [], c, k, j => by rw [wr_nil, if_neg (by simp only [List.length_nil]; omega)]
  | v :: r, c, k, j => by
    simp only [List.length_cons]
    rw [wr_cons, wr_get r]
    by_cases h1 : k + 1 ≤ j ∧ j < k + 1 + r.length
    · rw [if_pos h1, if_pos (by omega), show j - k = (j - (k + 1)) + 1 from by omega, List.getElem?_cons_succ]
    · rw [if_neg h1]
      by_cases h2 : j = k
      · subst h2; rw [if_pos (by omega), Tr.get_set_same]; simp
      · rw [if_neg (by omega), Tr.get_set_ne _ _ h2]
theorem rd_get : ∀ (n : Nat) (c : Tr AV) (k i : Nat), i < n → (rd c k n)[i]? = some ((c.get (k + i)).getD .top)
  | 0, c, k, i, h => by omega
  | n + 1, c, k, i, h => by
    rw [rd_succ]
    cases i with
    | zero => simp
    | succ i => rw [List.getElem?_cons_succ, rd_get n c (k + 1) i (by omega)]; congr 3; omega
theorem rd_length : ∀ (n : Nat) (c : Tr AV) (k : Nat), (rd c k n).length = n
  | 0, c, k => rfl
  | n + 1, c, k => by rw [rd_succ, List.length_cons, rd_length n]

theorem allOk_iff (l : List AV) : allOk l = true ↔ ∀ x ∈ l, cellOk x = true := by
  induction l with
  | nil => simp [allOk_nil]
  | cons x l ih => rw [allOk_cons, bsel_eq]; cases h : cellOk x <;> simp [h, ih]
theorem oneCell_of_vr {μ : Mu} {a : AV} {v : Value} (h : vr μ a v) (hc : cellOk a = true) : oneC v = true := by
  cases a <;> simp only [cellOk] at hc <;> try (cases hc; done)
  all_goals simp only [vr] at h
  case s => obtain ⟨_, rfl, _⟩ := h; rfl
  case ptr => obtain ⟨_, _, _, rfl⟩ := h; rfl
  case sl => obtain ⟨_, _, _, _, rfl, _⟩ := h; rfl
  case loose => obtain ⟨_, _, _, _, rfl⟩ := h; rfl
  case mp => obtain ⟨_, _, rfl⟩ := h; rfl
  case fn => obtain ⟨_, _, rfl, _⟩ := h; rfl
  case ifc => obtain ⟨_, rfl, _⟩ := h; rfl
  case x s => obtain ⟨_, h1, h2⟩ := vrX_one h; cases v <;> first | rfl | exact absurd rfl (h1 _) | exact absurd rfl (h2 _)
  case alt =>
    obtain ⟨_, _, h0, _⟩ := h
    cases v <;> first | rfl | exact absurd rfl (h0.1 _) | exact absurd rfl (h0.2 _)
  all_goals (subst h; rfl)
theorem not_top_of_ok {a : AV} (h : cellOk a = true) : a ≠ .top := by rintro rfl; simp [cellOk] at h

/-! ### loads and stores in the model -/
theorem add_off (b off i : Nat) : (⟨b, off, none⟩ : Addr).add i = ⟨b, off + i, none⟩ := by
  unfold Addr.add
  split
  · rename_i h; subst h; rfl
  · rfl
theorem cell_of {w : World} {b : Nat} {cs : Array Value} {el : TypeId} {fr : Nat × Nat} (h : w.heap[b]? = some (.cells cs el fr)) (off : Nat) : w.cell? ⟨b, off, none⟩ = cs[off]? := by
  simp [World.cell?, h]
theorem frozen_of {w : World} {b : Nat} {cs : Array Value} {el : TypeId} {fr : Nat × Nat} (h : w.heap[b]? = some (.cells cs el fr)) (off : Nat) :
    w.frozen? ⟨b, off, none⟩ = (decide (fr.1 ≤ off) && decide (off < fr.2)) := by
  obtain ⟨a, c⟩ := fr
  simp [World.frozen?, h]
theorem run_load {P : Program} {w : World} {b off : Nat} {cs : Array Value} {el : TypeId} {fr : Nat × Nat} {v : Value} (h : w.heap[b]? = some (.cells cs el fr)) (hv : cs[off]? = some v) :
    (load ⟨b, off, none⟩).run P w = .ok v w := by
  unfold load
  simp only [Sem.run, cell_of h, hv]
theorem run_loadCellsFrom {P : Program} {w : World} {b off : Nat} {cs : Array Value} {el : TypeId} {fr : Nat × Nat} (h : w.heap[b]? = some (.cells cs el fr)) :
    ∀ (n i : Nat) (acc : Array Value), off + i + n ≤ cs.size → (loadCellsFrom ⟨b, off, none⟩ i n acc).run P w = .ok ⟨acc.toList ++ (cs.toList.drop (off + i)).take n⟩ w
  | 0, i, acc, hn => by simp [loadCellsFrom]
  | n + 1, i, acc, hn => by
    have hlt : off + i < cs.size := by omega
    have hv : cs[off + i]? = some cs[off + i] := by simp [hlt]
    show (load ((⟨b, off, none⟩ : Addr).add i) >>= fun v => loadCellsFrom ⟨b, off, none⟩ (i + 1) n (acc.push v)).run P w = _
    rw [add_off, run_bind_ok (run_load h hv), run_loadCellsFrom h n (i + 1) _ (by omega)]
    congr 2
    rw [Array.toList_push, List.append_assoc]
    congr 1
    have e : cs.toList.drop (off + i) = cs[off + i] :: cs.toList.drop (off + (i + 1)) := by
      rw [List.drop_eq_getElem_cons (by simpa using hlt)]
      simp [Nat.add_assoc]
    rw [e]; simp
theorem run_loadCells {P : Program} {w : World} {b off : Nat} {cs : Array Value} {el : TypeId} {fr : Nat × Nat} (h : w.heap[b]? = some (.cells cs el fr)) (n : Nat) (hn : off + n ≤ cs.size) :
    (loadCells ⟨b, off, none⟩ n).run P w = .ok ⟨(cs.toList.drop off).take n⟩ w := by
  unfold loadCells
  rw [run_loadCellsFrom h n 0 #[] (by omega)]
  simp

/-- a world with another block in a block's place -/
def setBlk (w : World) (b : Nat) (o : Obj) : World := { w with heap := w.heap.setIfInBounds b o }
theorem setBlk_get {w : World} {b : Nat} {o : Obj} (hb : b < w.heap.size) (i : Nat) : (setBlk w b o).heap[i]? = if i = b then some o else w.heap[i]? := by
  simp only [setBlk, Array.getElem?_setIfInBounds]
  by_cases h : b = i
  · subst h; simp [hb]
  · rw [if_neg h, if_neg (Ne.symm h)]
theorem setBlk_size (w : World) (b : Nat) (o : Obj) : (setBlk w b o).heap.size = w.heap.size := by simp [setBlk]
theorem setBlk_twice (w : World) (b : Nat) (o o' : Obj) : setBlk (setBlk w b o) b o' = setBlk w b o' := by
  simp only [setBlk, World.mk.injEq, and_true]
  apply Array.ext_getElem?
  intro i
  simp only [Array.getElem?_setIfInBounds, Array.size_setIfInBounds]
  split <;> rfl
theorem setCell_blk {w : World} {b : Nat} {cs : Array Value} {el : TypeId} {fr : Nat × Nat} (h : w.heap[b]? = some (.cells cs el fr)) (off : Nat) (v : Value) :
    w.setCell ⟨b, off, none⟩ v = setBlk w b (.cells (cs.setIfInBounds off v) el fr) := by
  obtain ⟨hb, hbe⟩ := Array.getElem?_eq_some_iff.1 h
  simp only [World.setCell, setBlk, World.mk.injEq, and_true]
  apply Array.ext_getElem?
  intro i
  rw [Array.getElem?_modify, Array.getElem?_setIfInBounds]
  by_cases hi : b = i
  · subst hi; rw [if_pos rfl, if_pos rfl, if_pos hb, h]; rfl
  · rw [if_neg hi, if_neg hi]
/-- the mark of a row of bytes -/
def markFr (fr : Nat × Nat) (n : Nat) : Nat × Nat := if fr.1 == fr.2 then (n, n + 1) else (min fr.1 n, max fr.2 (n + 1))
theorem freeze_blk {w : World} {b n : Nat} {cs : Array Value} {el : TypeId} {fr : Nat × Nat} (h : w.heap[b]? = some (.cells cs el fr)) : w.freeze ⟨b, n, none⟩ 1 = setBlk w b (.cells cs el (markFr fr n)) := by
  obtain ⟨hb, hbe⟩ := Array.getElem?_eq_some_iff.1 h
  obtain ⟨lo, hi⟩ := fr
  unfold World.freeze setBlk
  rw [if_neg (by decide)]
  congr 1
  apply Array.ext_getElem?
  intro i
  rw [Array.getElem?_modify, Array.getElem?_setIfInBounds]
  by_cases hi' : b = i
  · subst hi'; rw [if_pos rfl, if_pos rfl, if_pos hb, h]; rfl
  · rw [if_neg hi', if_neg hi']
theorem markFr_ok {fr : Nat × Nat} {n : Nat} (h : noFrz 1 n fr) : noFrz 1 n (markFr fr n) := by
  obtain ⟨h1, h2, h3⟩ := h
  unfold markFr
  by_cases e : fr.1 = fr.2
  · rw [if_pos (by simpa using e)]
    exact ⟨fun off ho hh => by have := hh.1; simp at this; omega, fun hh => absurd hh (by decide), Nat.le_succ _⟩
  · rw [if_neg (by simpa using e)]
    have hge : n ≤ fr.1 := by
      rcases Nat.lt_or_ge fr.1 n with g | g
      · exact absurd ⟨Nat.le_refl _, by omega⟩ (h1 fr.1 g)
      · exact g
    refine ⟨fun off ho hh => ?_, fun hh => absurd hh (by decide), ?_⟩
    · have := hh.1
      rw [Nat.min_eq_right hge] at this
      omega
    · show min fr.1 n ≤ max fr.2 (n + 1)
      rw [Nat.min_eq_right hge]; omega
theorem setBlk_self {w : World} {b : Nat} {o : Obj} (h : w.heap[b]? = some o) : setBlk w b o = w := by
  obtain ⟨hb, hbe⟩ := Array.getElem?_eq_some_iff.1 h
  cases w
  simp only [setBlk, World.mk.injEq, and_true]
  apply Array.ext_getElem?
  intro i
  rw [Array.getElem?_setIfInBounds]
  by_cases hi : b = i
  · subst hi; simp only [if_true]; rw [if_pos hb]; exact h.symm
  · rw [if_neg hi]
theorem run_store {P : Program} {w : World} {b off : Nat} {cs : Array Value} {el : TypeId} {fr : Nat × Nat} {v : Value} (h : w.heap[b]? = some (.cells cs el fr)) (hlt : off < cs.size)
    (hf : ¬ (fr.1 ≤ off ∧ off < fr.2)) (hv : oneC v = true) : (store ⟨b, off, none⟩ v).run P w = .ok () (setBlk w b (.cells (cs.setIfInBounds off v) el fr)) := by
  have hc : w.cell? ⟨b, off, none⟩ = some cs[off] := by rw [cell_of h]; simp [hlt]
  have hfz : w.frozen? ⟨b, off, none⟩ = false := by rw [frozen_of h]; simpa using hf
  rw [← setCell_blk h]
  unfold store
  cases v <;> simp only [oneC] at hv <;> first | (cases hv; done) | simp [Sem.run, hc, hfz]
theorem run_storeCells {P : Program} : ∀ (xs : List Value) (w : World) (b off i : Nat) (cs : Array Value) (el : TypeId) (fr : Nat × Nat), w.heap[b]? = some (.cells cs el fr) →
    off + i + xs.length ≤ cs.size → (∀ j, j < cs.size → ¬ (fr.1 ≤ j ∧ j < fr.2)) → (∀ x ∈ xs, oneC x = true) →
    (storeCells ⟨b, off, none⟩ xs i).run P w = .ok () (setBlk w b (.cells (wrC cs (off + i) xs) el fr))
  | [], w, b, off, i, cs, el, fr, h, _, _, _ => by
    rw [wrC, setBlk_self h]; rfl
  | v :: r, w, b, off, i, cs, el, fr, h, hn, hf, hx => by
    simp only [List.length_cons] at hn
    have hb : b < w.heap.size := (Array.getElem?_eq_some_iff.1 h).1
    show (store ((⟨b, off, none⟩ : Addr).add i) v >>= fun _ => storeCells ⟨b, off, none⟩ r (i + 1)).run P w = _
    rw [add_off, run_bind_ok (run_store h (by omega) (hf _ (by omega)) (hx v (by simp)))]
    rw [run_storeCells r _ b off (i + 1) (cs.setIfInBounds (off + i) v) el fr (by rw [setBlk_get hb]; simp) (by simp; omega) (by simpa using hf) (fun x h => hx x (by simp [h]))]
    rw [setBlk_twice]
    rfl


/-! ### helpers of the run's own conditions -/
theorem need_some {α : Type} {b : Bool} {n : Nat} {x : Option α} {a : α} (h : need b n x = some a) : b = true ∧ x = some a := by
  cases b
  · cases h
  · exact ⟨rfl, h⟩
theorem bsel_cases {α : Type} {b : Bool} {x y : α} {p : α → Prop} (h : p (bsel b x y)) : (b = true ∧ p x) ∨ (b = false ∧ p y) := by
  cases b
  · exact .inr ⟨rfl, h⟩
  · exact .inl ⟨rfl, h⟩
theorem bsel_some {α : Type} {b : Bool} {x y : Option α} {a : α} (h : bsel b x y = some a) : (b = true ∧ x = some a) ∨ (b = false ∧ y = some a) := by
  cases b
  · exact .inr ⟨rfl, h⟩
  · exact .inl ⟨rfl, h⟩
theorem obind_elim {α β : Type} {x : Option α} {f : α → Option β} {b : β} (h : obind x f = some b) : ∃ a, x = some a ∧ f a = some b := by
  cases x with
  | none => cases h
  | some a => exact ⟨a, rfl, h⟩
theorem obind2_elim {α γ β : Type} {x : Option (α × γ)} {f : α → γ → Option β} {b : β} (h : obind2 x f = some b) : ∃ a c, x = some (a, c) ∧ f a c = some b := by
  cases x with
  | none => cases h
  | some p => obtain ⟨a, c⟩ := p; exact ⟨a, c, rfl, h⟩
theorem ble_iff {a b : Nat} : Nat.ble a b = true ↔ a ≤ b := by rw [Nat.ble_eq]
theorem beq_iff' {a b : Nat} : Nat.beq a b = true ↔ a = b := by rw [Nat.beq_eq]
theorem blt_iff {a b : Nat} : Nat.blt a b = true ↔ a < b := by
  show Nat.ble (a + 1) b = true ↔ _
  rw [Nat.ble_eq]; omega
theorem add_eq' (a b : Nat) : Nat.add a b = a + b := rfl
theorem mul_eq' (a b : Nat) : Nat.mul a b = a * b := rfl
theorem sub_eq' (a b : Nat) : Nat.sub a b = a - b := rfl

theorem Place.at_add (p : Place) {k : Nat} (h : p.lo ≤ k) (i : Nat) : p.at_ (k + i) = p.at_ k + i := by unfold Place.at_; omega

/-! ### loads -/
theorem ldCells_sound {n0 : Nat} {w0 : World} {μ : Mu} {st : St} {w : World} (h : RS n0 w0 μ st w) {P : Program} {o k n : Nat} {l : List AV} {p : Place}
    (hl : ldCells st o k n = some l) (hp : μ o = some p) (hk : p.lo ≤ k) :
    ∃ xs, (loadCells ⟨p.blk, p.at_ k, none⟩ n).run P w = .ok ⟨xs⟩ w ∧ vrL μ l xs := by
  unfold ldCells at hl
  obtain ⟨ob, hob, hl⟩ := obind_elim hl
  have ho := h.obj o p ob hp hob
  cases ob with
  | cells c lim esz ro tw =>
    dsimp only at hl
    rcases bsel_some hl with ⟨hb, hl⟩ | ⟨_, hl⟩
    · cases hl
      rw [add_eq', ble_iff] at hb
      obtain ⟨cs, el, fr, h1, h2, h3, h4, h5⟩ := ho
      -- the cells are there
      have hin : ∀ i, i < n → ∃ v, cs[p.at_ k + i]? = some v ∧ vr μ ((c.get (k + i)).getD .top) v := fun i hi => by
        rw [← p.at_add hk]
        exact h5 (k + i) (by omega) (by omega)
      have hsz : n = 0 ∨ p.at_ k + n ≤ cs.size := by
        cases n with
        | zero => exact .inl rfl
        | succ n =>
          obtain ⟨v, hv, _⟩ := hin n (by omega)
          have := (Array.getElem?_eq_some_iff.1 hv).1
          exact .inr (by omega)
      rcases hsz with rfl | hsz
      · exact ⟨[], by simp [loadCells, loadCellsFrom], by rw [show rd c k 0 = [] from rfl]; simp only [vrL]⟩
      · refine ⟨_, run_loadCells h1 n hsz, vrL_of_get _ _ (by simp [rd_length]; omega) fun i a v ha hv => ?_⟩
        have hi : i < n := by
          rcases Nat.lt_or_ge i n with hi | hi
          · exact hi
          · rw [List.getElem?_eq_none (by rw [rd_length]; exact hi)] at ha; cases ha
        rw [rd_get n c k i hi] at ha
        cases ha
        rw [List.getElem?_take, if_pos hi, List.getElem?_drop, Array.getElem?_toList] at hv
        obtain ⟨v', hv', hr⟩ := hin i hi
        rw [hv'] at hv; cases hv
        exact hr
    · cases hl
  | map es clock => cases hl
  | iter s pos => cases hl
  | dead => cases hl
  | miter m => cases hl

/-! ### what turns an object -/
theorem killTwin_get (h : Tr AObj) (tw o : Nat) : (killTwin h tw).get o = if tw = o + 1 then some .dead else h.get o := by
  unfold killTwin
  rw [bsel_eq]
  by_cases h0 : tw = 0
  · subst h0; rw [if_pos (by rfl), if_neg (by omega)]
  · rw [if_neg (by rw [beq_iff']; exact h0), Tr.get_set, sub_eq']
    by_cases e : o = tw - 1
    · rw [if_pos e, if_pos (by omega)]
    · rw [if_neg e, if_neg (by omega)]
theorem twinOk_iff {st : St} {tw : Nat} : twinOk st tw = true ↔ tw = 0 ∨ st.wmin < tw := by
  unfold twinOk
  rw [bsel_eq]
  by_cases h0 : tw = 0
  · subst h0; simp
  · rw [if_neg (by rw [beq_iff']; exact h0), blt_iff]; simp [h0]
theorem setHeap_heap (st : St) (h : Tr AObj) : (setHeap st h).heap = h := by cases st; rfl
theorem setHeap_next (st : St) (h : Tr AObj) : (setHeap st h).next = st.next := by cases st; rfl
theorem setHeap_x (st : St) (h : Tr AObj) : (setHeap st h).x = st.x := by cases st; rfl
theorem setHeap_wmin (st : St) (h : Tr AObj) : (setHeap st h).wmin = st.wmin := by cases st; rfl

/-- an object is written, its twin dies: the block is turned, the others stay -/
theorem RS.turn {n0 : Nat} {w0 : World} {μ : Mu} {st : St} {w : World} (h : RS n0 w0 μ st w) {o : Nat} {p : Place} {ob ob' : AObj} {b : Obj} {tw : Nat}
    (hp : μ o = some p) (hob : st.heap.get o = some ob) (htw : ob.twin = tw) (hlive : ob.live = true) (hfree : ob.free = true)
    (hwm : st.wmin ≤ o) (htk : tw = 0 ∨ st.wmin < tw)
    (hnew : ORel μ p ob' (setBlk w p.blk b).heap) (hf' : ob'.live = true → ob'.free = true := by intro _; rfl) :
    Post n0 w0 μ st μ (setHeap st (killTwin (st.heap.set o ob') tw)) (setBlk w p.blk b) := by
  have hblk : p.blk < w.heap.size := h.blk o p hp
  have hown : n0 ≤ p.blk := h.own o p ob hp hob hfree
  have hget : ∀ o', (killTwin (st.heap.set o ob') tw).get o' = if tw = o' + 1 then some .dead else if o' = o then some ob' else st.heap.get o' := fun o' => by
    rw [killTwin_get, Tr.get_set]
  -- another live object lies in another block
  have hapart : ∀ o' p' ob'', o' ≠ o → tw ≠ o' + 1 → μ o' = some p' → st.heap.get o' = some ob'' → ob''.live = true → p'.blk ≠ p.blk := fun o' p' ob'' h1 h2 h3 h4 h5 e => by
    have := h.apart o o' p p' ob ob'' (Ne.symm h1) hp h3 hob h4 hlive h5 e.symm
    rw [htw] at this; exact h2 this
  refine ⟨Ext.refl _, fun _ _ => rfl, ⟨?_, ?_, ?_, ?_, ?_, ?_, ?_, ?_, ?_⟩, ?_, ?_, ?_⟩
  · intro o' ho'; rw [setHeap_next] at ho'; exact h.fresh o' ho'
  · intro o' p' h1; rw [setBlk_size]; exact h.blk o' p' h1
  · intro o' p' ob'' h1 h2
    rw [setHeap_heap, hget] at h2
    split at h2
    · cases h2; trivial
    · split at h2
      · rename_i e; subst e; cases h2; rw [hp] at h1; cases h1; exact hnew
      · rename_i e1 e2
        have hr := h.obj o' p' ob'' h1 h2
        cases hl : ob''.live with
        | false => cases ob'' <;> simp [AObj.live] at hl; trivial
        | true => exact ORel_heap (by rw [setBlk_get hblk, if_neg (hapart o' p' ob'' e2 e1 h1 h2 hl)]) hr
  · intro o' p' ob'' h1 h2 h3
    rw [setHeap_heap, hget] at h2
    split at h2
    · cases h2; simp [AObj.free] at h3
    · split at h2
      · rename_i e; subst e; rw [hp] at h1; cases h1; exact hown
      · exact h.own o' p' ob'' h1 h2 h3
  · intro a a' q q' oa oa' hne' h1 h1' h2 h2' h3 h3' he
    rw [setHeap_heap, hget] at h2 h2'
    split at h2
    · cases h2; simp [AObj.live] at h3
    rename_i ea
    split at h2'
    · cases h2'; simp [AObj.live] at h3'
    rename_i ea'
    split at h2
    · rename_i e; subst e
      rw [hp] at h1; cases h1
      rw [if_neg (Ne.symm hne')] at h2'
      exact absurd he.symm (hapart a' q' oa' (Ne.symm hne') ea' h1' h2' h3')
    · rename_i e
      split at h2'
      · rename_i e'; subst e'
        rw [hp] at h1'; cases h1'
        exact absurd he (hapart a q oa hne' ea h1 h2 h3)
      · exact h.apart a a' q q' oa oa' hne' h1 h1' h2 h2' h3 h3' he
  · refine ⟨h.below.os, h.below.tape, h.below.output, by rw [setBlk_size]; exact h.below.size, fun i hi => ?_⟩
    rw [setBlk_get hblk, if_neg (by omega)]; exact h.below.block i hi
  · rw [setBlk_size]; exact h.pos
  · rw [setHeap_next, setHeap_wmin]; exact h.wle
  · refine h.x.move (by rw [setHeap_x]) (by rw [setHeap_next]; exact Nat.le_refl _) (fun b _ hb => ?_) fun o' p' ob'' h1 h2 h3 => ?_
    · rw [setBlk_get hblk, if_neg (Ne.symm (hb o p ob hp hob hfree))]
    · rw [setHeap_heap, hget] at h2
      split at h2
      · cases h2; simp [AObj.live] at h3
      · split at h2
        · rename_i e; subst e; rw [hp] at h1; cases h1; cases h2; exact .inr ⟨_, p, ob, hp, hob, hlive, rfl, hfree.trans (hf' h3).symm⟩
        · exact .inr ⟨o', p', ob'', h1, h2, h3, rfl, rfl⟩
  · rw [setHeap_next]; exact Nat.le_refl _
  · rw [setHeap_wmin]
  · intro o' ho'
    rw [setHeap_heap, hget, if_neg (by omega), if_neg (by omega)]

/-- a store of cells -/
theorem stCells_sound {n0 : Nat} {w0 : World} {μ : Mu} {st st' : St} {w : World} (h : RS n0 w0 μ st w) {P : Program} {o k : Nat} {vs : List AV} {p : Place} {xs : List Value}
    (hs : stCells st o k vs = some st') (hp : μ o = some p) (hk : p.lo ≤ k) (hv : vrL μ vs xs) :
    ∃ w', (storeCells ⟨p.blk, p.at_ k, none⟩ xs).run P w = .ok () w' ∧ Post n0 w0 μ st μ st' w' := by
  unfold stCells at hs
  obtain ⟨ob, hob, hs⟩ := obind_elim hs
  have ho := h.obj o p ob hp hob
  cases ob with
  | cells c lim esz ro tw =>
    cases ro with
    | true => cases hs
    | false =>
      dsimp only at hs
      obtain ⟨c1, hs⟩ := need_some hs
      obtain ⟨c2, hs⟩ := need_some hs
      obtain ⟨c3, hs⟩ := need_some hs
      obtain ⟨c4, hs⟩ := need_some hs
      cases hs
      rw [lenA_eq, add_eq', ble_iff] at c1
      rw [ble_iff] at c3
      rw [twinOk_iff] at c4
      obtain ⟨cs, el, fr, h1, h2, h3, h4, h5⟩ := ho
      have hlen := vrL_length _ _ hv
      have hsz : xs = [] ∨ p.at_ k + xs.length ≤ cs.size := by
        rcases Nat.eq_zero_or_pos xs.length with e | e
        · exact .inl (List.eq_nil_of_length_eq_zero e)
        · obtain ⟨v, hv', _⟩ := h5 (k + (xs.length - 1)) (by omega) (by omega)
          rw [p.at_add hk] at hv'
          have := (Array.getElem?_eq_some_iff.1 hv').1
          exact .inr (by omega)
      have hfr := (h4 rfl).1
      have hone : ∀ x ∈ xs, oneC x = true := fun x hx => by
        obtain ⟨i, hi, rfl⟩ := List.mem_iff_getElem.1 hx
        have hi' : i < vs.length := by omega
        obtain ⟨v, hv', hr⟩ := vrL_get _ _ hv i vs[i] (by simp [hi'])
        rw [List.getElem?_eq_getElem hi] at hv'; cases hv'
        exact oneCell_of_vr hr ((allOk_iff vs).1 c2 _ (List.getElem_mem hi'))
      have hrun : (storeCells ⟨p.blk, p.at_ k, none⟩ xs).run P w = .ok () (setBlk w p.blk (.cells (wrC cs (p.at_ k) xs) el fr)) := by
        rcases hsz with rfl | hsz
        · rw [wrC, setBlk_self h1]; rfl
        · exact run_storeCells xs w p.blk (p.at_ k) 0 cs el fr h1 (by omega) (fun j hj => hfr j hj) hone
      refine ⟨_, hrun, ?_⟩
      have hblk : p.blk < w.heap.size := h.blk o p hp
      have hwsz : xs.length = 0 ∨ p.at_ k + xs.length ≤ cs.size := hsz.imp (fun e => by rw [e]; rfl) id
      refine h.turn (ob' := .cells (wr c k vs) lim esz false 0) hp hob rfl rfl rfl c3 c4 ?_
      · refine ⟨wrC cs (p.at_ k) xs, el, fr, by rw [setBlk_get hblk, if_pos rfl], by rw [wrC_size]; exact h2, h3, fun _ => by rw [wrC_size]; exact h4 rfl, fun j hj1 hj2 => ?_⟩
        obtain ⟨v, hv', hr⟩ := h5 j hj1 hj2
        rw [wr_get]
        by_cases hin : k ≤ j ∧ j < k + vs.length
        · rw [if_pos hin]
          have e1 : p.at_ j = p.at_ k + (j - k) := by rw [← p.at_add hk]; congr 1; omega
          have hjl : j - k < vs.length := by omega
          obtain ⟨v2, hv2, hr2⟩ := vrL_get _ _ hv (j - k) vs[j - k] (by simp [hjl])
          refine ⟨v2, ?_, by rw [List.getElem?_eq_getElem hjl]; exact hr2⟩
          rw [wrC_get _ _ _ _ (by omega), e1, if_pos (by omega), Nat.add_sub_cancel_left]
          exact hv2
        · rw [if_neg hin]
          refine ⟨v, ?_, hr⟩
          rcases hwsz with e | e
          · have : xs = [] := List.eq_nil_of_length_eq_zero e
            subst this; exact hv'
          · rw [wrC_get _ _ _ _ e, if_neg (by unfold Place.at_; omega)]; exact hv'
  | map es clock => cases hs
  | iter s pos => cases hs
  | dead => cases hs
  | miter m => cases hs


/-! ### new objects -/
def Mu.add (μ : Mu) (o : Nat) (p : Place) : Mu := ⟨fun o' => if o' = o then some p else μ o', μ.fz, μ.own, μ.f0, μ.kp⟩
theorem Mu.add_same (μ : Mu) (o : Nat) (p : Place) : μ.add o p o = some p := by simp [Mu.add]
theorem Mu.add_ne (μ : Mu) {o o' : Nat} (p : Place) (h : o' ≠ o) : μ.add o p o' = μ o' := by simp [Mu.add, h]
theorem Mu.add_ext {μ : Mu} {o : Nat} (p : Place) (h : μ o = none) : Ext μ (μ.add o p) := ⟨fun o' q e => by
  rw [Mu.add_ne _ _ (fun e' => by subst e'; rw [h] at e; cases e)]; exact e, FzExt.refl _, OwnExt.refl _, rfl, rfl⟩

def pushed (w : World) (b : Obj) : World := { w with heap := w.heap.push b }
theorem pushed_old {w : World} {b : Obj} {i : Nat} (h : i < w.heap.size) : (pushed w b).heap[i]? = w.heap[i]? := by
  simp only [pushed, Array.getElem?_push]; rw [if_neg (by omega)]
theorem pushed_new (w : World) (b : Obj) : (pushed w b).heap[w.heap.size]? = some b := by
  show (w.heap.push b)[w.heap.size]? = some b
  rw [Array.getElem?_push, if_pos rfl]
theorem pushed_size (w : World) (b : Obj) : (pushed w b).heap.size = w.heap.size + 1 := by simp [pushed]

theorem newObj_heap (st : St) (ob : AObj) : (newObj st ob).heap = st.heap.set st.next ob := by cases st; rfl
theorem newObj_next (st : St) (ob : AObj) : (newObj st ob).next = st.next + 1 := by cases st; rfl
theorem newObj_x (st : St) (ob : AObj) : (newObj st ob).x = st.x := by cases st; rfl
theorem newObj_wmin (st : St) (ob : AObj) : (newObj st ob).wmin = st.wmin := by cases st; rfl

/-- a new block, a new object -/
theorem RS.push {n0 : Nat} {w0 : World} {μ : Mu} {st : St} {w : World} (h : RS n0 w0 μ st w) {p : Place} {ob : AObj} {b : Obj} (hp : p.blk = w.heap.size)
    (hob : ∀ μ', Ext μ μ' → ORel μ' p ob (pushed w b).heap) (hf' : ob.live = true → ob.free = true := by intro _; rfl) : Post n0 w0 μ st (μ.add st.next p) (newObj st ob) (pushed w b) := by
  have hn : μ st.next = none := h.fresh _ (Nat.le_refl _)
  have hext : Ext μ (μ.add st.next p) := Mu.add_ext p hn
  have hget : ∀ o', (newObj st ob).heap.get o' = if o' = st.next then some ob else st.heap.get o' := fun o' => by rw [newObj_heap, Tr.get_set]
  refine ⟨hext, fun o ho => Mu.add_ne _ _ (by omega), ⟨?_, ?_, ?_, ?_, ?_, ?_, ?_, ?_, ?_⟩, ?_, ?_, ?_⟩
  · intro o ho; rw [newObj_next] at ho; rw [Mu.add_ne _ _ (by omega)]; exact h.fresh o (by omega)
  · intro o q hq
    rw [pushed_size]
    by_cases e : o = st.next
    · subst e; rw [Mu.add_same] at hq; cases hq; omega
    · rw [Mu.add_ne _ _ e] at hq; have := h.blk o q hq; omega
  · intro o q ob' hq ho
    rw [hget] at ho
    by_cases e : o = st.next
    · subst e; rw [Mu.add_same] at hq; cases hq; rw [if_pos rfl] at ho; cases ho; exact hob _ hext
    · rw [Mu.add_ne _ _ e] at hq; rw [if_neg e] at ho
      exact ORel_ext hext (ORel_heap (pushed_old (h.blk o q hq)) (h.obj o q ob' hq ho))
  · intro o q ob' hq ho hf
    rw [hget] at ho
    by_cases e : o = st.next
    · subst e; rw [Mu.add_same] at hq; cases hq; rw [hp]; exact h.pos
    · rw [Mu.add_ne _ _ e] at hq; rw [if_neg e] at ho
      exact h.own o q ob' hq ho hf
  · intro a a' q q' oa oa' hne h1 h1' h2 h2' h3 h3' he
    rw [hget] at h2 h2'
    by_cases e : a = st.next
    · subst e
      have e' : a' ≠ st.next := Ne.symm hne
      rw [Mu.add_same] at h1; cases h1
      rw [Mu.add_ne _ _ e'] at h1'
      have := h.blk a' q' h1'; omega
    · by_cases e' : a' = st.next
      · subst e'
        rw [Mu.add_same] at h1'; cases h1'
        rw [Mu.add_ne _ _ e] at h1
        have := h.blk a q h1; omega
      · rw [Mu.add_ne _ _ e] at h1; rw [Mu.add_ne _ _ e'] at h1'
        rw [if_neg e] at h2; rw [if_neg e'] at h2'
        exact h.apart a a' q q' oa oa' hne h1 h1' h2 h2' h3 h3' he
  · refine ⟨h.below.os, h.below.tape, h.below.output, by rw [pushed_size]; have := h.below.size; omega, fun i hi => ?_⟩
    rw [pushed_old (by have := h.pos; omega)]; exact h.below.block i hi
  · rw [pushed_size]; have := h.pos; omega
  · rw [newObj_next, newObj_wmin]; have := h.wle; omega
  · refine h.x.move (by rw [newObj_x]) (by rw [newObj_next]; omega) (fun b hb _ => pushed_old hb) fun o q ob' h1 h2 h3 => ?_
    rw [hget] at h2
    have h1 : μ.add st.next p o = some q := h1
    by_cases e : o = st.next
    · subst e; rw [Mu.add_same] at h1; cases h1; rw [if_pos rfl] at h2; cases h2; exact .inl ⟨by omega, hf' h3⟩
    · rw [Mu.add_ne _ _ e] at h1; rw [if_neg e] at h2; exact .inr ⟨o, q, ob', h1, h2, h3, rfl, rfl⟩
  · rw [newObj_next]; omega
  · rw [newObj_wmin]
  · intro o ho; rw [hget, if_neg (by have := h.wle; omega)]

/-- a new number that holds no object: a thing that is kept of what was drawn -/
theorem RS.ghost {n0 : Nat} {w0 : World} {μ : Mu} {st : St} {w : World} (h : RS n0 w0 μ st w) {p : Place} (hp : p.blk < w.heap.size) : Post n0 w0 μ st (μ.add st.next p) (newObj st .dead) w := by
  have hn : μ st.next = none := h.fresh _ (Nat.le_refl _)
  have hext : Ext μ (μ.add st.next p) := Mu.add_ext p hn
  have hget : ∀ o', (newObj st .dead).heap.get o' = if o' = st.next then some .dead else st.heap.get o' := fun o' => by rw [newObj_heap, Tr.get_set]
  refine ⟨hext, fun o ho => Mu.add_ne _ _ (by omega), ⟨?_, ?_, ?_, ?_, ?_, h.below, h.pos, ?_, ?_⟩, ?_, ?_, ?_⟩
  · intro o ho; rw [newObj_next] at ho; rw [Mu.add_ne _ _ (by omega)]; exact h.fresh o (by omega)
  · intro o q hq
    by_cases e : o = st.next
    · subst e; rw [Mu.add_same] at hq; cases hq; exact hp
    · rw [Mu.add_ne _ _ e] at hq; exact h.blk o q hq
  · intro o q ob' hq ho
    rw [hget] at ho
    by_cases e : o = st.next
    · rw [if_pos e] at ho; cases ho; trivial
    · rw [Mu.add_ne _ _ e] at hq; rw [if_neg e] at ho
      exact ORel_ext hext (h.obj o q ob' hq ho)
  · intro o q ob' hq ho hf
    rw [hget] at ho
    by_cases e : o = st.next
    · rw [if_pos e] at ho; cases ho; cases hf
    · rw [Mu.add_ne _ _ e] at hq; rw [if_neg e] at ho
      exact h.own o q ob' hq ho hf
  · intro a a' q q' oa oa' hne h1 h1' h2 h2' h3 h3' he
    rw [hget] at h2 h2'
    by_cases e : a = st.next
    · rw [if_pos e] at h2; cases h2; cases h3
    · by_cases e' : a' = st.next
      · rw [if_pos e'] at h2'; cases h2'; cases h3'
      · rw [Mu.add_ne _ _ e] at h1; rw [Mu.add_ne _ _ e'] at h1'
        rw [if_neg e] at h2; rw [if_neg e'] at h2'
        exact h.apart a a' q q' oa oa' hne h1 h1' h2 h2' h3 h3' he
  · rw [newObj_next, newObj_wmin]; have := h.wle; omega
  · refine h.x.move (by rw [newObj_x]) (by rw [newObj_next]; omega) (fun b hb _ => rfl) fun o q ob' h1 h2 h3 => ?_
    rw [hget] at h2
    have h1 : μ.add st.next p o = some q := h1
    by_cases e : o = st.next
    · rw [if_pos e] at h2; cases h2; cases h3
    · rw [Mu.add_ne _ _ e] at h1; rw [if_neg e] at h2; exact .inr ⟨o, q, ob', h1, h2, h3, rfl, rfl⟩
  · rw [newObj_next]; omega
  · rw [newObj_wmin]
  · intro o ho; rw [hget, if_neg (by have := h.wle; omega)]

theorem newCells_eq (st : St) (vs : List AV) (esz : Nat) : newCells st vs esz = newObj st (.cells (wr .e 0 vs) vs.length esz false 0) := by
  cases st; simp only [newCells, newObj, lenA_eq]

theorem run_newRow (P : Program) (w : World) (el : TypeId) (cs : Array Value) : (newRow el cs).run P w = .ok ⟨w.heap.size, 0, none⟩ (pushed w (.cells cs el)) := rfl

/-- a new row of cells, some of them perhaps behind what is known -/
theorem newCells_sound {n0 : Nat} {w0 : World} {μ : Mu} {st : St} {w : World} (h : RS n0 w0 μ st w) {vs : List AV} {esz : Nat} {cs : Array Value} {el : TypeId} {fr : Nat × Nat}
    (hfr : noFrz esz cs.size fr) (hle : vs.length ≤ cs.size) (hv : ∀ (i : Nat) (a : AV) (v : Value), vs[i]? = some a → cs[i]? = some v → vr μ a v) :
    Post n0 w0 μ st (μ.add st.next ⟨w.heap.size, 0, 0, esz, cs.size⟩) (newCells st vs esz) (pushed w (.cells cs el fr)) := by
  rw [newCells_eq]
  refine h.push (p := ⟨w.heap.size, 0, 0, esz, cs.size⟩) rfl fun μ' hext => ?_
  refine ⟨cs, el, fr, pushed_new _ _, rfl, rfl, fun _ => hfr, fun k _ hk => ?_⟩
  have e : (⟨w.heap.size, 0, 0, esz, cs.size⟩ : Place).at_ k = k := by simp [Place.at_]
  have hk' : k < cs.size := by omega
  refine ⟨cs[k], by rw [e]; simp [hk'], ?_⟩
  rw [wr_get, if_pos (by omega), Nat.sub_zero, List.getElem?_eq_getElem hk]
  exact vr_ext hext _ _ (hv k _ _ (List.getElem?_eq_getElem hk) (Array.getElem?_eq_getElem hk'))
theorem noFrz_none (esz size : Nat) : noFrz esz size (0, 0) := ⟨fun _ _ h => by omega, fun _ => Nat.le_refl _, Nat.le_refl _⟩

theorem newCells_sound' {n0 : Nat} {w0 : World} {μ : Mu} {st : St} {w : World} (h : RS n0 w0 μ st w) {vs : List AV} {esz : Nat} {xs : List Value} {el : TypeId} (hv : vrL μ vs xs) :
    Post n0 w0 μ st (μ.add st.next ⟨w.heap.size, 0, 0, esz, xs.length⟩) (newCells st vs esz) (pushed w (.cells ⟨xs⟩ el)) := by
  have hl := vrL_length _ _ hv
  exact newCells_sound (cs := ⟨xs⟩) h (noFrz_none _ _) (by simp [hl]) fun i a v ha hv' => by
    obtain ⟨v2, h1, h2⟩ := vrL_get _ _ hv i a ha
    simp at hv'
    rw [h1] at hv'; cases hv'; exact h2

end Go.Proofs.Ytkccnomdfkhfnaa.Ev
