/- What functions of the program compute, written down; read off their code. -/
import Derived.Test.YtkccnomdfkhfnaaEvApp
import Derived.Lib.ConvBytes
set_option linter.unusedSimpArgs false
set_option linter.unusedVariables false
namespace Go.Proofs.Ytkccnomdfkhfnaa.Ev
open Go.RowKit
section
variable {P : Program} {n0 : Nat} {w0 : World} {μ : Mu} {st st' : St} {w : World}

/-! ### states alike -/
structure StEq (a b : St) : Prop where
  heap : ∀ o, a.heap.get o = b.heap.get o
  next : a.next = b.next
  wmin : a.wmin = b.wmin
  rows : a.x.rows = b.x.rows
theorem RS.congr {a b : St} (h : RS n0 w0 μ a w) (e : StEq a b) : RS n0 w0 μ b w :=
  ⟨fun o ho => h.fresh o (by rw [e.next]; exact ho), h.blk, fun o p ob h1 h2 => h.obj o p ob h1 (by rw [e.heap]; exact h2), fun o p ob h1 h2 => h.own o p ob h1 (by rw [e.heap]; exact h2),
    fun o o' p p' ob ob' hne h1 h1' h2 h2' => h.apart o o' p p' ob ob' hne h1 h1' (by rw [e.heap]; exact h2) (by rw [e.heap]; exact h2'), h.below, h.pos, by rw [← e.wmin, ← e.next]; exact h.wle,
    h.x.move e.rows.symm (by rw [e.next]; exact Nat.le_refl _) (fun _ _ _ => rfl) fun o p ob h1 h2 h3 => .inr ⟨o, p, ob, h1, by rw [e.heap]; exact h2, h3, rfl, rfl⟩⟩
theorem Post.congr {μ' : Mu} {a b : St} {w' : World} (h : Post n0 w0 μ st μ' a w') (e : StEq a b) : Post n0 w0 μ st μ' b w' :=
  ⟨h.ext, h.old, h.rs.congr e, by rw [← e.next]; exact h.next, by rw [← e.wmin]; exact h.wm, fun o ho => by rw [← e.heap]; exact h.bar o ho⟩

theorem ORel_lim {p : Place} {c : Tr AV} {lim lim' esz : Nat} {ro : Bool} {tw tw' : Nat} {heap : Array Obj} (h : ORel μ p (.cells c lim esz ro tw) heap) (hl : lim' ≤ lim) : ORel μ p (.cells c lim' esz ro tw') heap := by
  obtain ⟨cs, el, fr, h1, h2, h3, h4, h5⟩ := h
  exact ⟨cs, el, fr, h1, h2, h3, h4, fun k a b => h5 k a (by omega)⟩

/-- another object in the block of one that has no twin -/
theorem RS.twin (h : RS n0 w0 μ st w) {o : Nat} {p q : Place} {c c2 : Tr AV} {lim lim2 esz esz2 : Nat} (hp : μ o = some p) (hob : st.heap.get o = some (.cells c lim esz false 0)) (hwm : st.wmin ≤ o)
    (hq : q.blk = p.blk) (hobj : ORel (μ.add st.next q) q (.cells c2 lim2 esz2 false (o + 1)) w.heap) :
    Post n0 w0 μ st (μ.add st.next q) (.mk ((st.heap.set o (.cells c lim esz false (st.next + 1))).set st.next (.cells c2 lim2 esz2 false (o + 1))) (st.next + 1) st.wmin st.x) w := by
  have hn : μ st.next = none := h.fresh _ (Nat.le_refl _)
  have hext : Ext μ (μ.add st.next q) := Mu.add_ext q hn
  have hon : o ≠ st.next := fun e => by subst e; rw [hp] at hn; cases hn
  have hget : ∀ o', ((st.heap.set o (.cells c lim esz false (st.next + 1))).set st.next (.cells c2 lim2 esz2 false (o + 1))).get o' =
      if o' = st.next then some (.cells c2 lim2 esz2 false (o + 1)) else if o' = o then some (.cells c lim esz false (st.next + 1)) else st.heap.get o' := fun o' => by
    rw [Tr.get_set, Tr.get_set]
  -- nothing else that lives lies in the block
  have halone : ∀ a r oa, a ≠ o → μ a = some r → st.heap.get a = some oa → oa.live = true → r.blk ≠ p.blk := fun a r oa h1 h2 h3 h4 e => by
    have := h.apart o a p r _ oa (Ne.symm h1) hp h2 hob h3 rfl h4 e.symm
    simp [AObj.twin] at this
  refine ⟨hext, fun o' ho => Mu.add_ne _ _ (by omega), ⟨?_, ?_, ?_, ?_, ?_, h.below, h.pos, ?_, ?_⟩, Nat.le_succ _, rfl, ?_⟩
  · intro o' ho
    show μ.add st.next q o' = none
    have ho : st.next + 1 ≤ o' := ho
    rw [Mu.add_ne _ _ (by omega)]; exact h.fresh o' (by omega)
  · intro a r hr
    by_cases e : a = st.next
    · subst e; rw [Mu.add_same] at hr; cases hr; rw [hq]; exact h.blk o p hp
    · rw [Mu.add_ne _ _ e] at hr; exact h.blk a r hr
  · intro a r oa hr ho
    have ho : _ = some oa := ho
    rw [hget] at ho
    by_cases e : a = st.next
    · subst e; rw [Mu.add_same] at hr; cases hr; rw [if_pos rfl] at ho; cases ho; exact hobj
    · rw [Mu.add_ne _ _ e] at hr; rw [if_neg e] at ho
      by_cases e2 : a = o
      · subst e2; rw [if_pos rfl] at ho; cases ho; rw [hp] at hr; cases hr
        exact ORel_ext hext (ORel_lim (h.obj _ _ _ hp hob) (Nat.le_refl _))
      · rw [if_neg e2] at ho; exact ORel_ext hext (h.obj a r oa hr ho)
  · intro a r oa hr ho hf
    have ho : _ = some oa := ho
    rw [hget] at ho
    by_cases e : a = st.next
    · subst e; rw [Mu.add_same] at hr; cases hr; rw [hq]; exact h.own o p _ hp hob rfl
    · rw [Mu.add_ne _ _ e] at hr; rw [if_neg e] at ho
      by_cases e2 : a = o
      · subst e2; rw [hp] at hr; cases hr; exact h.own _ _ _ hp hob rfl
      · rw [if_neg e2] at ho; exact h.own a r oa hr ho hf
  · intro a a' r r' oa oa' hne h1 h1' g2 g2' h3 h3' he
    have h2 : ((st.heap.set o (.cells c lim esz false (st.next + 1))).set st.next (.cells c2 lim2 esz2 false (o + 1))).get a = some oa := g2
    have h2' : ((st.heap.set o (.cells c lim esz false (st.next + 1))).set st.next (.cells c2 lim2 esz2 false (o + 1))).get a' = some oa' := g2'
    clear g2 g2'
    rw [hget] at h2 h2'
    by_cases e : a = st.next
    · subst e
      rw [Mu.add_same] at h1; cases h1
      rw [if_pos rfl] at h2; cases h2
      have e' : a' ≠ st.next := Ne.symm hne
      rw [Mu.add_ne _ _ e'] at h1'; rw [if_neg e'] at h2'
      by_cases e2 : a' = o
      · subst e2; rfl
      · rw [if_neg e2] at h2'; exact absurd (he.symm.trans hq) (halone a' r' oa' e2 h1' h2' h3')
    · rw [Mu.add_ne _ _ e] at h1; rw [if_neg e] at h2
      by_cases e' : a' = st.next
      · subst e'
        rw [Mu.add_same] at h1'; cases h1'
        by_cases e2 : a = o
        · subst e2; rw [if_pos rfl] at h2; cases h2; rfl
        · rw [if_neg e2] at h2; exact absurd (he.trans hq) (halone a r oa e2 h1 h2 h3)
      · rw [Mu.add_ne _ _ e'] at h1'; rw [if_neg e'] at h2'
        by_cases e2 : a = o
        · subst e2
          rw [hp] at h1; cases h1
          rw [if_neg (Ne.symm hne)] at h2'
          exact absurd he.symm (halone a' r' oa' (Ne.symm hne) h1' h2' h3')
        · rw [if_neg e2] at h2
          by_cases e3 : a' = o
          · subst e3; rw [hp] at h1'; cases h1'; exact absurd he (halone a r oa e2 h1 h2 h3)
          · rw [if_neg e3] at h2'
            exact h.apart a a' r r' oa oa' hne h1 h1' h2 h2' h3 h3' he
  · have := h.wle
    show st.wmin ≤ st.next + 1
    omega
  · refine h.x.move rfl (Nat.le_succ _) (fun _ _ _ => rfl) fun a r oa h1 h2 h3 => ?_
    have h1 : μ.add st.next q a = some r := h1
    have h2 : ((st.heap.set o (.cells c lim esz false (st.next + 1))).set st.next (.cells c2 lim2 esz2 false (o + 1))).get a = some oa := h2
    rw [hget] at h2
    by_cases e : a = st.next
    · subst e; rw [Mu.add_same] at h1; cases h1; rw [if_pos rfl] at h2; cases h2; exact .inr ⟨o, p, _, hp, hob, rfl, hq.symm, rfl⟩
    · rw [Mu.add_ne _ _ e] at h1; rw [if_neg e] at h2
      by_cases e2 : a = o
      · subst e2; rw [hp] at h1; cases h1; rw [if_pos rfl] at h2; cases h2; exact .inr ⟨_, p, _, hp, hob, rfl, rfl, rfl⟩
      · rw [if_neg e2] at h2; exact .inr ⟨a, r, oa, h1, h2, h3, rfl, rfl⟩
  · intro o' ho
    show ((st.heap.set o (.cells c lim esz false (st.next + 1))).set st.next (.cells c2 lim2 esz2 false (o + 1))).get o' = _
    rw [hget, if_neg (by have := h.wle; omega), if_neg (by omega)]

/-- one that has no twin is given one that lies elsewhere -/
theorem RS.retwin (h : RS n0 w0 μ st w) {o tw : Nat} {c : Tr AV} {lim esz : Nat} (hob : st.heap.get o = some (.cells c lim esz false 0)) (hwm : st.wmin ≤ o) :
    Post n0 w0 μ st μ (setHeap st (st.heap.set o (.cells c lim esz false tw))) w := by
  have hget : ∀ o', (st.heap.set o (.cells c lim esz false tw)).get o' = if o' = o then some (.cells c lim esz false tw) else st.heap.get o' := fun o' => Tr.get_set _ _ _ _
  refine ⟨Ext.refl _, fun _ _ => rfl, ⟨?_, h.blk, ?_, ?_, ?_, h.below, h.pos, ?_, ?_⟩, ?_, ?_, ?_⟩
  · rw [setHeap_next]; exact h.fresh
  · intro a r oa hr ho
    rw [setHeap_heap, hget] at ho
    split at ho
    · rename_i e; subst e; cases ho; exact ORel_lim (h.obj _ _ _ hr hob) (Nat.le_refl _)
    · exact h.obj a r oa hr ho
  · intro a r oa hr ho hf
    rw [setHeap_heap, hget] at ho
    split at ho
    · rename_i e; subst e; exact h.own _ _ _ hr hob rfl
    · exact h.own a r oa hr ho hf
  · intro a a' r r' oa oa' hne h1 h1' h2 h2' h3 h3' he
    rw [setHeap_heap, hget] at h2 h2'
    by_cases e2 : a = o
    · subst e2
      rw [if_neg (Ne.symm hne)] at h2'
      have := h.apart a a' r r' _ oa' hne h1 h1' hob h2' rfl h3' he
      simp [AObj.twin] at this
    · rw [if_neg e2] at h2
      by_cases e3 : a' = o
      · subst e3
        have := h.apart a' a r' r _ oa (Ne.symm hne) h1' h1 hob h2 rfl h3 he.symm
        simp [AObj.twin] at this
      · rw [if_neg e3] at h2'
        exact h.apart a a' r r' oa oa' hne h1 h1' h2 h2' h3 h3' he
  · rw [setHeap_next, setHeap_wmin]; exact h.wle
  · refine h.x.move (by rw [setHeap_x]) (by rw [setHeap_next]; exact Nat.le_refl _) (fun _ _ _ => rfl) fun a r oa h1 h2 h3 => ?_
    rw [setHeap_heap, hget] at h2
    split at h2
    · rename_i e; subst e; cases h2; exact .inr ⟨_, r, _, h1, hob, rfl, rfl, rfl⟩
    · exact .inr ⟨a, r, oa, h1, h2, h3, rfl, rfl⟩
  · rw [setHeap_next]; exact Nat.le_refl _
  · rw [setHeap_wmin]
  · intro o' ho; rw [setHeap_heap, hget, if_neg (by omega)]

/-- cells behind the known ones are written -/
theorem store_app (h : RS n0 w0 μ st w) {o k0 : Nat} {p : Place} {c : Tr AV} {lim esz tw : Nat} {new : List AV} {ys : List Value} (hp : μ o = some p) (hob : st.heap.get o = some (.cells c lim esz false tw))
    (hk : p.lo ≤ k0) (hlim : k0 ≤ lim) (hv : vrL μ new ys) (hok : allOk new = true) (hsz : p.at_ k0 + ys.length ≤ p.size) :
    ∃ b, (storeCells ⟨p.blk, p.at_ k0, none⟩ ys).run P w = .ok () (setBlk w p.blk b) ∧
      (∀ tw', ORel μ p (.cells (wr c k0 new) (Nat.max lim (k0 + new.length)) esz false tw') (setBlk w p.blk b).heap) ∧ (∀ tw', ORel μ p (.cells c k0 esz false tw') (setBlk w p.blk b).heap) := by
  obtain ⟨cs, el, fr, h1, h2, h3, h4, h5⟩ := h.obj o p _ hp hob
  have hlen := vrL_length _ _ hv
  have hfr := (h4 rfl).1
  have hone : ∀ x ∈ ys, oneC x = true := fun x hx => by
    obtain ⟨i, hi, rfl⟩ := List.mem_iff_getElem.1 hx
    have hi' : i < new.length := by omega
    obtain ⟨v, hv', hr⟩ := vrL_get _ _ hv i new[i] (by simp [hi'])
    rw [List.getElem?_eq_getElem hi] at hv'; cases hv'
    exact oneCell_of_vr hr ((allOk_iff new).1 hok _ (List.getElem_mem hi'))
  have hblk : p.blk < w.heap.size := h.blk o p hp
  have hsz' : p.at_ k0 + ys.length ≤ cs.size := by rw [h2]; exact hsz
  have hrun := run_storeCells (P := P) ys w p.blk (p.at_ k0) 0 cs el fr h1 (by omega) (fun j hj => hfr j hj) hone
  refine ⟨_, hrun, fun tw' => ?_, fun tw' => ?_⟩
  · refine ⟨wrC cs (p.at_ k0) ys, el, fr, by rw [setBlk_get hblk, if_pos rfl]; rfl, by rw [wrC_size]; exact h2, h3, fun _ => by rw [wrC_size]; exact h4 rfl, fun j hj1 hj2 => ?_⟩
    rw [wr_get]
    by_cases hin : k0 ≤ j ∧ j < k0 + new.length
    · rw [if_pos hin]
      have e1 : p.at_ j = p.at_ k0 + (j - k0) := by rw [← p.at_add hk]; congr 1; omega
      have hjl : j - k0 < new.length := by omega
      obtain ⟨v2, hv2, hr2⟩ := vrL_get _ _ hv (j - k0) new[j - k0] (by simp [hjl])
      refine ⟨v2, ?_, by rw [List.getElem?_eq_getElem hjl]; exact hr2⟩
      rw [wrC_get _ _ _ _ hsz', e1, if_pos (by omega), Nat.add_sub_cancel_left]
      exact hv2
    · rw [if_neg hin]
      have hj : j < lim := by
        have : j < max lim (k0 + new.length) := hj2
        omega
      obtain ⟨v, hv', hr⟩ := h5 j hj1 hj
      exact ⟨v, by rw [wrC_get _ _ _ _ hsz', if_neg (by unfold Place.at_; omega)]; exact hv', hr⟩
  · refine ⟨wrC cs (p.at_ k0) ys, el, fr, by rw [setBlk_get hblk, if_pos rfl]; rfl, by rw [wrC_size]; exact h2, h3, fun _ => by rw [wrC_size]; exact h4 rfl, fun j hj1 hj2 => ?_⟩
    obtain ⟨v, hv', hr⟩ := h5 j hj1 (by omega)
    exact ⟨v, by rw [wrC_get _ _ _ _ hsz', if_neg (by unfold Place.at_; omega)]; exact hv', hr⟩
end
end Go.Proofs.Ytkccnomdfkhfnaa.Ev
