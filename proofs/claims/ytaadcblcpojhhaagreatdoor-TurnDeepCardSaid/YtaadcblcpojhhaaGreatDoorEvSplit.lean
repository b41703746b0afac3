import Derived.Test.YtaadcblcpojhhaaGreatDoorEvBody
set_option linter.unusedVariables false
set_option linter.unusedSimpArgs false
namespace Go.Proofs.YtaadcblcpojhhaaGreatDoor.Ev
open Go.RowKit

/-! ## a value told twice alike -/

/-! ## values of elder objects -/
theorem vr_below {μ μ' : Mu} {n : Nat} (hm : ∀ o, o < n → μ' o = μ o) (a : AV) (v : Value) (hb : below n a = true) (h : vr μ' a v) : vr μ a v := by
  cases a <;> simp only [below] at hb <;> try (cases hb; done)
  all_goals simp only [vr] at h ⊢
  case ptr o k => rw [blt_iff] at hb; obtain ⟨p, h1, h2⟩ := h; exact ⟨p, by rw [← hm o hb]; exact h1, h2⟩
  case sl o k l c kn e => rw [blt_iff] at hb; obtain ⟨p, c, h1, h2⟩ := h; exact ⟨p, c, by rw [← hm o hb]; exact h1, h2⟩
  case loose o => rw [blt_iff] at hb; obtain ⟨p, c, off, h1, h2⟩ := h; exact ⟨p, c, off, by rw [← hm o hb]; exact h1, h2⟩
  case mp o => rw [blt_iff] at hb; obtain ⟨p, h1, h2⟩ := h; exact ⟨p, by rw [← hm o hb]; exact h1, h2⟩
  case ifc t x =>
    obtain ⟨u, h1, h2⟩ := h
    refine ⟨u, h1, ?_⟩
    cases x <;> simp only [below] at hb <;> try (cases hb; done)
    all_goals (simp only [vr] at h2 ⊢; exact h2)
  all_goals exact h
theorem allBelow_get {n : Nat} : ∀ (l : List AV), allBelow n l = true → ∀ (i : Nat) (a : AV), l[i]? = some a → below n a = true
  | [], _, i, a, h => by simp at h
  | x :: xs, hb, i, a, h => by
    simp only [allBelow, Bool.and_eq_true] at hb
    cases i with
    | zero => simp at h; subst h; exact hb.1
    | succ i => exact allBelow_get xs hb.2 i a (by simpa using h)

theorem entsRel_back {μ μ' : Mu} (h : Ext μ μ') : ∀ (es : List (AV × AV × Nat)) (ms ms' : List MapEntry), entsRel μ es ms → entsRel μ' es ms' → entsRel μ es ms'
  | [], ms, ms', _, e => e
  | x :: es, ms, ms', e0, e => by
    obtain ⟨m0, r0, _, ⟨a0, b0, c0⟩, h0⟩ := e0
    obtain ⟨m, r, h1, ⟨a, b, c⟩, h3⟩ := e
    exact ⟨m, r, h1, ⟨vr_back h _ _ _ a0 a, vr_back h _ _ _ b0 b, c⟩, entsRel_back h es r0 r h0 h3⟩
theorem ORel_back {μ μ' : Mu} (h : Ext μ μ') {p : Place} {ob : AObj} {heap heap' : Array Obj} (e0 : ORel μ p ob heap) (e : ORel μ' p ob heap') : ORel μ p ob heap' := by
  cases ob with
  | cells c lim esz ro tw =>
    obtain ⟨cs0, el0, fr0, _, _, _, _, g5⟩ := e0
    obtain ⟨cs, el, fr, h1, h2, h3, h4, h5⟩ := e
    refine ⟨cs, el, fr, h1, h2, h3, h4, fun k a b => ?_⟩
    obtain ⟨v, x, y⟩ := h5 k a b
    obtain ⟨v0, _, y0⟩ := g5 k a b
    exact ⟨v, x, vr_back h _ _ _ y0 y⟩
  | map es clock =>
    obtain ⟨ms0, _, g⟩ := e0
    obtain ⟨ms, h1, h2⟩ := e
    exact ⟨ms, h1, entsRel_back h _ _ _ g h2⟩
  | iter s pos => exact e
  | dead => trivial
  | miter m => cases m with
    | none => exact e
    | some r => cases r with
      | mk m since bs gs =>
        obtain ⟨_, _, q0, a0, g2, g3, g4, g5⟩ := e0
        obtain ⟨h0, h1, q, a, h2, h3, h4, h5⟩ := e
        have hq := h m q0 g2
        rw [h2] at hq
        cases hq
        exact ⟨h0, h1, _, a, g2, h3, h4, seenRel_back h _ _ _ g5 h5⟩

section
variable {P : Program} {n0 : Nat} {w0 : World} {μ : Mu} {st st' : St} {w : World}

theorem join_sound (h : RS n0 w0 μ st w) {o : Nat} (hwm : st.wmin ≤ o) {μ1 : Mu} {sX : St} {w' : World} (hrs : RS n0 w0 μ1 sX w') (hold : ∀ a, a < st.next → μ1 a = μ a)
    (hheap : ∀ a, a < st.next → a ≠ o → sX.heap.get a = st.heap.get a) (hext : Ext μ μ1) {oX m esz : Nat} {d : Tr AV} (hoX : st.next ≤ oX) (hget : sX.heap.get oX = some (.cells d m esz false 0))
    {L : List AV} (hm : L.length ≤ m) (hL : ∀ k, k < L.length → L[k]? = some ((d.get k).getD .top)) (hb : allBelow st.next L = true) {q : Place} (hq : μ1 oX = some q) (hlo : q.lo = 0) :
    Post n0 w0 μ st (μ.add st.next q) (newCells (setHeap st (st.heap.set o .dead)) L esz) w' := by
  have hn : μ st.next = none := h.fresh _ (Nat.le_refl _)
  have hx : Ext μ (μ.add st.next q) := Mu.add_ext q hn
  have hnext : (newCells (setHeap st (st.heap.set o .dead)) L esz).next = st.next + 1 := by rw [newCells_eq, newObj_next, setHeap_next]
  have hwmin : (newCells (setHeap st (st.heap.set o .dead)) L esz).wmin = st.wmin := by rw [newCells_eq, newObj_wmin, setHeap_wmin]
  have hgetF : ∀ a, (newCells (setHeap st (st.heap.set o .dead)) L esz).heap.get a = if a = st.next then some (.cells (wr .e 0 L) L.length esz false 0) else if a = o then some .dead else st.heap.get a := fun a => by
    rw [newCells_eq, newObj_heap, setHeap_heap, setHeap_next, Tr.get_set, Tr.get_set]
  have hlt : ∀ a p, μ a = some p → a < st.next := fun a p ha => by
    rcases Nat.lt_or_ge a st.next with g | g
    · exact g
    · rw [h.fresh a g] at ha; cases ha
  have hobX := hrs.obj oX q _ hq hget
  obtain ⟨cs, el, fr, x1, x2, x3, x4, x5⟩ := hobX
  refine ⟨hx, fun a ha => Mu.add_ne _ _ (by omega), ⟨?_, ?_, ?_, ?_, ?_, hrs.below, hrs.pos, ?_⟩, by rw [hnext]; omega, hwmin, ?_⟩
  · intro a ha; rw [hnext] at ha; rw [Mu.add_ne _ _ (by omega)]; exact h.fresh a (by omega)
  · intro a p ha
    by_cases e : a = st.next
    · subst e; rw [Mu.add_same] at ha; cases ha; exact hrs.blk oX q hq
    · rw [Mu.add_ne _ _ e] at ha; exact hrs.blk a p (hext a p ha)
  · intro a p ob ha ho
    rw [hgetF] at ho
    by_cases e : a = st.next
    · subst e; rw [Mu.add_same] at ha; cases ha; rw [if_pos rfl] at ho; cases ho
      refine ⟨cs, el, fr, x1, x2, x3, x4, fun k hk1 hk2 => ?_⟩
      obtain ⟨v, v1, v2⟩ := x5 k hk1 (by omega)
      refine ⟨v, v1, ?_⟩
      have hLk := hL k hk2
      rw [wr_get, if_pos (by omega), Nat.sub_zero, hLk]
      exact vr_ext hx _ _ (vr_below hold _ _ (allBelow_get L hb k _ hLk) v2)
    · rw [Mu.add_ne _ _ e] at ha; rw [if_neg e] at ho
      by_cases e2 : a = o
      · rw [if_pos e2] at ho; cases ho; trivial
      · rw [if_neg e2] at ho
        have h1 := hrs.obj a p ob (hext a p ha) (by rw [hheap a (hlt a p ha) e2]; exact ho)
        exact ORel_ext hx (ORel_back hext (h.obj a p ob ha ho) h1)
  · intro a p ob ha ho hf
    rw [hgetF] at ho
    by_cases e : a = st.next
    · subst e; rw [Mu.add_same] at ha; cases ha; exact hrs.own oX q _ hq hget rfl
    · rw [Mu.add_ne _ _ e] at ha; rw [if_neg e] at ho
      by_cases e2 : a = o
      · rw [if_pos e2] at ho; cases ho; simp [AObj.free] at hf
      · rw [if_neg e2] at ho; exact h.own a p ob ha ho hf
  · intro a a' p p' ob ob' hne ha ha' ho ho' hl hl' he
    rw [hgetF] at ho ho'
    by_cases e : a = st.next
    · subst e
      rw [Mu.add_same] at ha; cases ha
      have e' : a' ≠ st.next := Ne.symm hne
      rw [Mu.add_ne _ _ e'] at ha'; rw [if_neg e'] at ho'
      by_cases e2 : a' = o
      · rw [if_pos e2] at ho'; cases ho'; simp [AObj.live] at hl'
      · rw [if_neg e2] at ho'
        have hl2 := hlt a' p' ha'
        have := hrs.apart oX a' q p' _ ob' (by omega) hq (hext a' p' ha') hget (by rw [hheap a' hl2 e2]; exact ho') rfl hl' he
        simp [AObj.twin] at this
    · rw [Mu.add_ne _ _ e] at ha; rw [if_neg e] at ho
      by_cases e2 : a = o
      · rw [if_pos e2] at ho; cases ho; simp [AObj.live] at hl
      · rw [if_neg e2] at ho
        have hl1 := hlt a p ha
        by_cases e' : a' = st.next
        · subst e'
          rw [Mu.add_same] at ha'; cases ha'
          have := hrs.apart oX a q p _ ob (by omega) hq (hext a p ha) hget (by rw [hheap a hl1 e2]; exact ho) rfl hl he.symm
          simp [AObj.twin] at this
        · rw [Mu.add_ne _ _ e'] at ha'; rw [if_neg e'] at ho'
          by_cases e3 : a' = o
          · rw [if_pos e3] at ho'; cases ho'; simp [AObj.live] at hl'
          · rw [if_neg e3] at ho'
            exact h.apart a a' p p' ob ob' hne ha ha' ho ho' hl hl' he
  · rw [hnext, hwmin]; have := h.wle; omega
  · intro a ha
    rw [hgetF, if_neg (by have := h.wle; omega), if_neg (by omega)]

theorem RS.barred (h : RS n0 w0 μ st w) : RS n0 w0 μ (barred st) w := by
  cases st
  exact ⟨h.fresh, h.blk, h.obj, h.own, h.apart, h.below, h.pos, Nat.le_refl _⟩

/-- the row seen as an object of its own, with room for one more -/
theorem RS.splitB (h : RS n0 w0 μ st w) {o n esz lim cc : Nat} {c : Tr AV} {p : Place} (hp : μ o = some p) (hob : st.heap.get o = some (.cells c lim esz false 0)) (hlim : n * esz ≤ lim) (hlo : p.lo = 0)
    (hpe : p.esz = esz) (hcc : n + 1 ≤ cc) (hroom : p.at_ 0 + cc * esz ≤ p.size) : RS n0 w0 (μ.add st.next p) (splitB st o n esz c) w := by
  obtain ⟨hh, nx, wm⟩ := st
  have hn : μ nx = none := h.fresh _ (Nat.le_refl _)
  have hx : Ext μ (μ.add nx p) := Mu.add_ext p hn
  have hgetF : ∀ a, (splitB (.mk hh nx wm) o n esz c).heap.get a = if a = nx then some (.cells (wr .e 0 (rd c 0 (Nat.mul n esz))) (Nat.mul (Nat.succ n) esz) esz false 0) else if a = o then some .dead else hh.get a := fun a => by
    show ((hh.set o .dead).set nx _).get a = _
    rw [Tr.get_set, Tr.get_set]
  obtain ⟨cs, el, fr, x1, x2, x3, x4, x5⟩ := h.obj o p _ hp hob
  have halone : ∀ a r oa, a ≠ o → μ a = some r → hh.get a = some oa → oa.live = true → r.blk ≠ p.blk := fun a r oa h1 h2 h3 h4 e => by
    have := h.apart o a p r _ oa (Ne.symm h1) hp h2 hob h3 rfl h4 e.symm
    simp [AObj.twin] at this
  have hsz : (n + 1) * esz ≤ cc * esz := Nat.mul_le_mul_right _ hcc
  refine ⟨?_, ?_, ?_, ?_, ?_, h.below, h.pos, Nat.le_succ _⟩
  · intro a ha
    have ha : nx + 1 ≤ a := ha
    show μ.add nx p a = none
    rw [Mu.add_ne _ _ (by omega)]; exact h.fresh a (show nx ≤ a by omega)
  · intro a r hr
    have hr : μ.add nx p a = some r := hr
    by_cases e : a = nx
    · subst e; rw [Mu.add_same] at hr; cases hr; exact h.blk o p hp
    · rw [Mu.add_ne _ _ e] at hr; exact h.blk a r hr
  · intro a r ob hr ho
    have hr : μ.add nx p a = some r := hr
    rw [hgetF] at ho
    by_cases e : a = nx
    · subst e; rw [Mu.add_same] at hr; cases hr; rw [if_pos rfl] at ho; cases ho
      refine ⟨cs, el, fr, x1, x2, x3, x4, fun k hk1 hk2 => ?_⟩
      have hk2 : k < (n + 1) * esz := hk2
      have hat : p.at_ k = p.at_ 0 + k := by simp [Place.at_, hlo]
      have hlt : p.at_ k < cs.size := by rw [x2, hat]; omega
      by_cases g : k < n * esz
      · obtain ⟨v, v1, v2⟩ := x5 k hk1 (by omega)
        refine ⟨v, v1, ?_⟩
        rw [wr_get, if_pos (by rw [rd_length, mul_eq']; omega), Nat.sub_zero, rd_get _ _ _ _ (by rw [mul_eq']; exact g), Nat.zero_add]
        exact vr_ext hx _ _ v2
      · refine ⟨cs[p.at_ k], by simp [hlt], ?_⟩
        rw [wr_get, if_neg (by rw [rd_length, mul_eq']; omega), Tr.get_e]
        show vr _ .top _
        simp only [vr]
    · rw [Mu.add_ne _ _ e] at hr; rw [if_neg e] at ho
      by_cases e2 : a = o
      · rw [if_pos e2] at ho; cases ho; trivial
      · rw [if_neg e2] at ho; exact ORel_ext hx (h.obj a r ob hr ho)
  · intro a r ob hr ho hf
    have hr : μ.add nx p a = some r := hr
    rw [hgetF] at ho
    by_cases e : a = nx
    · subst e; rw [Mu.add_same] at hr; cases hr; exact h.own o p _ hp hob rfl
    · rw [Mu.add_ne _ _ e] at hr; rw [if_neg e] at ho
      by_cases e2 : a = o
      · rw [if_pos e2] at ho; cases ho; simp [AObj.free] at hf
      · rw [if_neg e2] at ho; exact h.own a r ob hr ho hf
  · intro a a' r r' ob ob' hne hr0 hr0' ho ho' hl hl' he
    have hr : μ.add nx p a = some r := hr0
    have hr' : μ.add nx p a' = some r' := hr0'
    clear hr0 hr0'
    rw [hgetF] at ho ho'
    by_cases e : a = nx
    · subst e
      rw [Mu.add_same] at hr; cases hr
      have e' : a' ≠ a := Ne.symm hne
      rw [Mu.add_ne _ _ e'] at hr'; rw [if_neg e'] at ho'
      by_cases e2 : a' = o
      · rw [if_pos e2] at ho'; cases ho'; simp [AObj.live] at hl'
      · rw [if_neg e2] at ho'; exact absurd he.symm (halone a' r' ob' e2 hr' ho' hl')
    · rw [Mu.add_ne _ _ e] at hr; rw [if_neg e] at ho
      by_cases e2 : a = o
      · rw [if_pos e2] at ho; cases ho; simp [AObj.live] at hl
      · rw [if_neg e2] at ho
        by_cases e' : a' = nx
        · subst e'
          rw [Mu.add_same] at hr'; cases hr'
          exact absurd he (halone a r ob e2 hr ho hl)
        · rw [Mu.add_ne _ _ e'] at hr'; rw [if_neg e'] at ho'
          by_cases e3 : a' = o
          · rw [if_pos e3] at ho'; cases ho'; simp [AObj.live] at hl'
          · rw [if_neg e3] at ho'
            exact h.apart a a' r r' ob ob' hne hr hr' ho ho' hl hl' he

def RunSound (P : Program) (f : FuncId) (run : List AV → St → Option (AV × St)) : Prop :=
  ∀ (args : List AV) (st : St) (r : AV) (st' : St), run args st = some (r, st') →
    ∀ (n0 : Nat) (w0 : World) (μ : Mu) (w : World) (vs : Array Value), RS n0 w0 μ st w → vrL μ args vs.toList → Calls P f vs w fun e w' => ∃ v, e = .returned v ∧ ∃ μ', Post n0 w0 μ st μ' st' w' ∧ vr μ' r v

theorem joinSplit_elim {o esz : Nat} {rA rB : Option (AV × St)} {r : AV × St} (h : joinSplit st o esz rA rB = some r) :
    ∃ oA oB lA cA cB knA knB sA sB dA mA dB mB, rA = some (.sl oA 0 lA cA knA esz, sA) ∧ rB = some (.sl oB 0 lA cB knB esz, sB) ∧ st.next ≤ oA ∧ st.next ≤ oB ∧
      sA.heap.get oA = some (.cells dA mA esz false 0) ∧ sB.heap.get oB = some (.cells dB mB esz false 0) ∧ lA * esz ≤ mA ∧ lA * esz ≤ mB ∧ allBelow st.next (rd dA 0 (lA * esz)) = true ∧
      rd dA 0 (lA * esz) = rd dB 0 (lA * esz) ∧ r = (.sl st.next 0 lA lA false esz, newCells (setHeap st (st.heap.set o .dead)) (rd dA 0 (lA * esz)) esz) := by
  unfold joinSplit at h
  split at h
  · rename_i oA lA cA knA eA' sA oB lB cB knB eB' sB
    cases hb : (Nat.beq eA' esz && Nat.beq eB' esz && Nat.beq lA lB && Nat.ble st.next oA && Nat.ble st.next oB && Nat.ble lA cA && Nat.ble lB cB) with
    | false => rw [hb] at h; cases h
    | true =>
      rw [hb, cond_true] at h
      simp only [Bool.and_eq_true, beq_iff', ble_iff] at hb
      obtain ⟨⟨⟨⟨⟨⟨rfl, rfl⟩, rfl⟩, h4⟩, h5⟩, h6⟩, h7⟩ := hb
      split at h
      · rename_i dA mA eA dB mB eB gA gB
        cases hb2 : (Nat.beq eA eB' && Nat.beq eB eB' && Nat.ble (Nat.mul lA eB') mA && Nat.ble (Nat.mul lA eB') mB
            && allBelow st.next (rd dA 0 (Nat.mul lA eB')) && allOk (rd dA 0 (Nat.mul lA eB')) && veqL 2 (rd dA 0 (Nat.mul lA eB')) (rd dB 0 (Nat.mul lA eB'))) with
        | false => rw [hb2] at h; cases h
        | true =>
          rw [hb2, cond_true] at h
          simp only [Bool.and_eq_true, beq_iff', ble_iff] at hb2
          obtain ⟨⟨⟨⟨⟨⟨rfl, rfl⟩, g3⟩, g4⟩, g5⟩, g6⟩, g7⟩ := hb2
          cases h
          exact ⟨oA, oB, lA, cA, cB, knA, knB, sA, sB, dA, mA, dB, mB, rfl, rfl, h4, h5, gA, gB, g3, g4, g5, veqL_eq _ _ _ g7, rfl⟩
      · cases h
  · cases h

theorem evSplit_sound {f : FuncId} {run : List AV → St → Option (AV × St)} (hrun : RunSound P f run) : RunSound P f (evSplit run) := by
  intro args st r st' hs n0 w0 μ w vs h ha
  unfold evSplit at hs
  split at hs
  · rename_i o n cap e rest
    cases hb : Nat.blt n cap with
    | true => rw [hb, cond_true] at hs; exact hrun _ _ _ _ hs n0 w0 μ w vs h ha
    | false =>
      rw [hb, cond_false] at hs
      cases hb2 : (!(Nat.beq cap n)) with
      | true => rw [hb2] at hs; cases hs
      | false =>
        rw [hb2, cond_false] at hs
        rw [Bool.not_eq_false', beq_iff'] at hb2
        subst hb2
        split at hs
        · rename_i c lim esz hob
          cases hb3 : (Nat.beq e esz && Nat.ble st.wmin o && Nat.ble (Nat.mul cap esz) lim && allBelow st.next rest) with
          | false => rw [hb3] at hs; cases hs
          | true =>
            rw [hb3, cond_true] at hs
            simp only [Bool.and_eq_true, beq_iff', ble_iff] at hb3
            obtain ⟨⟨⟨rfl, g2⟩, g3⟩, g4⟩ := hb3
            obtain ⟨oA, oB, lA, cA, cB, knA, knB, sA, sB, dA, mA, dB, mB, e1, e2, e3, e4, e5, e6, e7, e8, e9, e10, e11⟩ := joinSplit_elim hs
            cases e11
            obtain ⟨sv, rv, hvs, hsv, hrv⟩ := (show ∃ v r, vs.toList = v :: r ∧ vr μ (.sl o 0 cap cap false e) v ∧ vrL μ rest r from by simpa only [vrL] using ha)
            simp only [vr] at hsv
            obtain ⟨p, cc, hp, hlo, rfl, hpe, hcap, _, _, hroom⟩ := hsv
            have hlo0 : p.lo = 0 := by omega
            have hlen : (rd dA 0 (lA * e)).length = lA * e := rd_length _ _ _
            rcases Nat.lt_or_ge cap cc with hc | hc
            · -- there is room for one more
              have hB := h.splitB (n := cap) (cc := cc) hp hob g3 hlo0 hpe hc hroom
              have hon : μ st.next = none := h.fresh _ (Nat.le_refl _)
              have hext0 : Ext μ (μ.add st.next p) := Mu.add_ext p hon
              refine (hrun _ _ _ _ e2 n0 w0 _ w vs hB ?_).mono fun en w' ⟨v, hv, μ1, hp1, hr1⟩ => ⟨v, hv, ?_⟩
              · rw [hvs]
                refine vrL_cons.2 ⟨?_, vrL_ext hext0 _ _ hrv⟩
                simp only [vr]
                exact ⟨p, cc, Mu.add_same _ _ _, by omega, rfl, hpe, hc, (fun e => by cases e), hcap, hroom⟩
              · simp only [vr] at hr1
                obtain ⟨q, c2, hq, hqlo, rfl, hqe, _, _, hl2, hroom2⟩ := hr1
                have hwB : (splitB st o cap e c).wmin = st.next := by cases st; rfl
                have hnB : (splitB st o cap e c).next = st.next + 1 := by cases st; rfl
                have hgB : ∀ a, a < st.next → a ≠ o → (splitB st o cap e c).heap.get a = st.heap.get a := fun a h1 h2 => by
                  cases st
                  show ((_ : Tr AObj).set _ _ |>.set _ _).get a = _
                  rw [Tr.get_set, Tr.get_set, if_neg (by simp at h1; omega), if_neg h2]
                refine ⟨_, join_sound h g2 hp1.rs (fun a ha => ?_) (fun a h1 h2 => ?_) (hext0.trans hp1.ext) e4 e6 (L := rd dA 0 (lA * e)) (by rw [hlen]; exact e8) (fun k hk => ?_) e9 hq (by omega), ?_⟩
                · rw [hp1.old a (by rw [hnB]; omega), Mu.add_ne _ _ (by omega)]
                · rw [hp1.bar a (by rw [hwB]; exact h1), hgB a h1 h2]
                · rw [hlen] at hk; rw [e10, rd_get _ _ _ _ hk, Nat.zero_add]
                · simp only [vr]
                  exact ⟨q, c2, Mu.add_same _ _ _, hqlo, rfl, hqe, hl2, (fun e => by cases e), hl2, hroom2⟩
            · -- there is none
              have hcc : cc = cap := by omega
              subst hcc
              refine (hrun _ _ _ _ e1 n0 w0 μ w vs h.barred ?_).mono fun en w' ⟨v, hv, μ1, hp1, hr1⟩ => ⟨v, hv, ?_⟩
              · rw [hvs]
                refine vrL_cons.2 ⟨?_, hrv⟩
                simp only [vr]
                exact ⟨p, cc, hp, hlo, rfl, hpe, Nat.le_refl _, (fun _ => rfl), Nat.le_refl _, hroom⟩
              · simp only [vr] at hr1
                obtain ⟨q, c2, hq, hqlo, rfl, hqe, _, _, hl2, hroom2⟩ := hr1
                have hwB : (barred st).wmin = st.next := by cases st; rfl
                have hnB : (barred st).next = st.next := by cases st; rfl
                have hgB : ∀ a, (barred st).heap.get a = st.heap.get a := fun a => by cases st; rfl
                refine ⟨_, join_sound h g2 hp1.rs (fun a ha => ?_) (fun a h1 h2 => ?_) hp1.ext e3 e5 (L := rd dA 0 (lA * e)) (by rw [hlen]; exact e7) (fun k hk => ?_) e9 hq (by omega), ?_⟩
                · exact hp1.old a (by rw [hnB]; exact ha)
                · rw [hp1.bar a (by rw [hwB]; exact h1), hgB]
                · rw [hlen] at hk; rw [rd_get _ _ _ _ hk, Nat.zero_add]
                · simp only [vr]
                  exact ⟨q, c2, Mu.add_same _ _ _, hqlo, rfl, hqe, hl2, (fun e => by cases e), hl2, hroom2⟩
        · cases hs
  · exact hrun _ _ _ _ hs n0 w0 μ w vs h ha
end
end Go.Proofs.YtaadcblcpojhhaaGreatDoor.Ev
