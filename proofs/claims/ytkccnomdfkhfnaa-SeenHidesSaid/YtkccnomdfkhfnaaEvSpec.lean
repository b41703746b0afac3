/- What functions of the program compute, written down; read off their code. -/
import Derived.Test.YtkccnomdfkhfnaaEvData
set_option linter.unusedSimpArgs false
set_option linter.unusedVariables false
namespace Go.Proofs.Ytkccnomdfkhfnaa.Ev
open Go.RowKit

/-- a call is done: blocks of nobody may have changed, others came; more is never written again -/
theorem RS.called {n0 : Nat} {w0 : World} {μ : Mu} {st : St} {w w' : World} (h : RS n0 w0 μ st w) (hb : Below 0 w w') {S : List Nat} (hS : ∀ b ∈ S, FreeB n0 μ st b) (hsame : ∀ b ob, b ∉ S → w.heap[b]? = some ob → w'.heap[b]? = some ob)
    {f : Fz} (hx : FzExt μ.fz f) (hin : FzIn f w') (hnew : ∀ b cs, f b = some cs → μ.fz b = some cs ∨ w.heap.size ≤ b ∨ b ∈ S) : Post n0 w0 μ st ⟨μ.pl, f, μ.own, μ.f0, μ.kp⟩ st w' := by
  have hxt : Ext μ ⟨μ.pl, f, μ.own, μ.f0, μ.kp⟩ := ⟨fun _ _ e => e, hx, OwnExt.refl _, rfl, rfl⟩
  have hold : ∀ b, b < w.heap.size → b ∉ S → w'.heap[b]? = w.heap[b]? := fun b hlt hb => by
    have : w.heap[b]? = some w.heap[b] := by simp [hlt]
    rw [this]; exact hsame b _ hb this
  have hnone : ∀ b, b < w.heap.size → b ∉ S → μ.fz b = none → f b = none := fun b hlt hbS e => by
    cases q : f b with
    | none => rfl
    | some cs =>
      rcases hnew b cs q with g | g | g
      · rw [e] at g; cases g
      · omega
      · exact absurd g hbS
  have hobj : ∀ o p ob, μ o = some p → st.heap.get o = some ob → ob.live = true → p.blk ∉ S := fun o p ob h1 h2 h3 hm => (hS _ hm).2.2.2.1 o p ob h1 h2 h3 rfl
  have hrow : ∀ o r ro b off, μ.own o = some r → st.x.rows.get o = some ro → r.at_ = some (b, off) → b ∉ S ∧ b < w.heap.size := fun o r ro b off h1 h2 h3 => ⟨fun hm => FreeB.row h (hS _ hm) h1 h2 h3, by
    obtain ⟨_, _, _, _, _, g⟩ := h.x.row o r ro h1 h2
    obtain ⟨cs, el, fr, g1, _⟩ := g b off h3
    exact (Array.getElem?_eq_some_iff.1 g1).1⟩
  have hbelow : Below n0 w w' := ⟨hb.os, hb.tape, hb.output, hb.size, fun i hi => hold i (Nat.lt_of_lt_of_le hi h.pos) fun hm => absurd (hS i hm).1 (Nat.not_le_of_lt hi)⟩
  refine ⟨hxt, fun _ _ => rfl, ⟨h.fresh, fun o p hp => Nat.lt_of_lt_of_le (h.blk o p hp) hb.size, fun o p ob h1 h2 => ?_, h.own, h.apart, h.below.trans hbelow, Nat.le_trans h.pos hb.size, h.wle,
    ⟨h.x.fresh, hin, fun o p ob h1 h2 h3 => hnone _ (h.blk o p h1) (hobj o p ob h1 h2 (AObj.free_live h3)) (h.x.fzo o p ob h1 h2 h3), fun o r ro h1 h2 => ?_, fun o r ro b off h1 h2 h3 h4 => ?_, h.x.rap, h.x.rapo, fun b cs q => ?_, fun b ob q => ?_, h.x.kpo, h.x.kpr, fun o p ob h1 h2 h3 h4 => ?_⟩⟩, Nat.le_refl _, rfl, fun _ _ => rfl⟩
  · cases hl : ob.live with
    | true => exact ORel_ext hxt (ORel_heap (hold _ (h.blk o p h1) (hobj o p ob h1 h2 hl)) (h.obj o p ob h1 h2))
    | false =>
      cases ob <;> first | exact trivial | cases hl
  · obtain ⟨a1, a2, a3, a4, a5, a6⟩ := (h.x.row o r ro h1 h2).ext hx
    refine ⟨a1, a2, a3, a4, a5, fun b off h3 => ?_⟩
    obtain ⟨g1, g2⟩ := hrow o r ro b off h1 h2 h3
    rw [hold b g2 g1]; exact a6 b off h3
  · obtain ⟨q1, q2⟩ := h.x.rown o r ro b off h1 h2 h3 h4
    obtain ⟨g1, g2⟩ := hrow o r ro b off h1 h2 h4
    exact ⟨q1, hnone b g2 g1 q2⟩
  · rcases hnew b cs q with g | g | g
    · exact h.x.fzn b cs g
    · right
      cases e : μ.kp b with
      | none => rfl
      | some ob =>
        have := (Array.getElem?_eq_some_iff.1 (h.x.kph b ob e)).1
        omega
    · exact .inr (hS b g).2.2.1
  · exact hsame b ob (fun hm => by have q : μ.kp b = some ob := q; rw [(hS b hm).2.2.1] at q; cases q) (h.x.kph b ob q)
  · obtain ⟨c, g⟩ := h.x.fro o p ob h1 h2 h3 h4
    exact ⟨c, hx _ _ g⟩

/-! ## a call by its contract -/
noncomputable def specD (as : List AT) (rs : List AT) (pre : ATs as → Prop) (fn : ATs as → RTs rs) : FSpec := fun args st =>
  obind2 (toAs as args st) fun x st1 => some (ofRs rs (fn x) (addC st1 [pre x]))

theorem toVT_xp {t : VT} {a : AV} {st : St} : XP (toVT t a st) st := by
  cases t with
  | one l => exact toL_xp l a st
  | agg e => exact XP.obind fun l => toE_xp e l st
theorem ownPh_xp {e : ET} {a : AV} {st : St} : XP (ownPh e a st) st := by
  unfold ownPh
  split
  · exact XP.need (XP.some (Gr.refl _))
  · exact XP.some (addRow_gr _ _)
  · exact XP.bind slOwn_xp fun o st1 => XP.some (Gr.refl _)
  · exact XP.bad
theorem toBox_xp {e : ET} {a : AV} {st : St} : XP (toBox e a st) st := by
  unfold toBox
  split
  · split
    · exact XP.need fun x st' h => (setRo_gr _ _ _).trans (toE_xp e _ _ x st' h)
    · exact XP.bad
  · split
    · exact XP.some (Gr.refl _)
    · exact XP.bad
  · exact XP.bad
theorem toBoxes_xp : ∀ (es : List ET) (l : List AV) (st : St), XP (toBoxes es l st) st
  | [], [], st => XP.some (Gr.refl _)
  | [], _ :: _, st => XP.none
  | _ :: _, [], st => XP.none
  | e :: r, a :: l, st => XP.bind toBox_xp fun x st1 => XP.bind (toBoxes_xp r l st1) fun y st2 => XP.some (Gr.refl _)
theorem ph1As_xp : ∀ (ts : List AT) (l : List AV) (st : St), XP (ph1As ts l st) st
  | [], [], st => XP.some (Gr.refl _)
  | [], _ :: _, st => XP.none
  | _ :: _, [], st => XP.none
  | t :: r, a :: l, st => by
    refine XP.bind ?_ fun x st1 => XP.bind (ph1As_xp r l st1) fun y st2 => XP.some (Gr.refl _)
    cases t with
    | v t => exact toVT_xp
    | f g => exact XP.obind fun f => XP.need (XP.some (Gr.refl _))
    | own e => exact ownPh_xp
    | clo g es => exact (show XP (obind2 (cloOf a) fun f l => need (Nat.beq f g) 400 (toBoxes es l st)) st from XP.obind2 fun f l => XP.need (toBoxes_xp es l st))
theorem ph2As_xp : ∀ (ts : List AT) (m : AMs ts) (st : St), XP (ph2As ts m st) st
  | [], _, st => XP.some (Gr.refl _)
  | t :: r, m, st => by
    refine XP.bind ?_ fun x st1 => XP.bind (ph2As_xp r m.2 st1) fun y st2 => XP.some (Gr.refl _)
    cases t with
    | v t => exact XP.some (Gr.refl _)
    | f g => exact XP.some (Gr.refl _)
    | own e => exact XP.obind fun xs => XP.some (setRow_gr _ _ _)
    | clo g es => exact XP.some (Gr.refl _)
theorem ofA_gr {t : AT} {x : t.T} {st : St} : Gr st (ofA t x st).2 := by
  cases t with
  | own e => exact addRow_gr _ _
  | _ => exact Gr.refl _
theorem ofAs_gr : ∀ (ts : List AT) (x : ATs ts) (st : St), Gr st (ofAs ts x st).2
  | [], _, st => Gr.refl _
  | t :: r, x, st => ofA_gr.trans (ofAs_gr r x.2 _)
theorem ofRs_gr : ∀ (ts : List AT) (x : ATs ts) (st : St), Gr st (ofRs ts x st).2
  | [], _, st => Gr.refl _
  | [t], x, st => ofA_gr
  | t :: u :: r, x, st => ofAs_gr (t :: u :: r) x st
theorem specD_xp {as : List AT} {rs : List AT} {pre : ATs as → Prop} {fn : ATs as → RTs rs} (args : List AV) (st : St) : XP (specD as rs pre fn args st) st := by
  unfold specD toAs
  exact XP.bind (XP.bind (ph1As_xp as args st) fun m st1 => ph2As_xp as m st1) fun x st1 => fun a st' e => by
    have e : ofRs rs (fn x) (addC st1 [pre x]) = (a, st') := Option.some.inj e
    have := (Gr.addC st1 [pre x]).trans (ofRs_gr rs (fn x) _)
    rw [e] at this
    exact this

theorem specD_ok {P : Program} {f : FuncId} {as : List AT} {rs : List AT} {pre : ATs as → Prop} {fn : ATs as → RTs rs} (he : ∀ vs w, (callFunc f vs).run P w = .ok (.enter f vs) w) (hd : DataOk P f as rs pre fn) : SpecOk P f (specD as rs pre fn) := by
  refine ⟨he, specD_xp, ?_⟩
  intro args st st' r hs hC n0 w0 μ w vs h ha
  unfold specD at hs
  obtain ⟨x, st1, h1, h2⟩ := obind2_elim hs
  have h2 : ofRs rs (fn x) (addC st1 [pre x]) = (r, st') := Option.some.inj h2
  have hpre : pre x := by
    have hg := ofRs_gr rs (fn x) (addC st1 [pre x])
    rw [h2] at hg
    have := hg.all hC
    rw [addC_cs] at this
    exact this _ List.mem_cons_self
  obtain ⟨vs⟩ := vs
  obtain ⟨μ1, S, p1, hS, d1⟩ := toAs_ok h ha h1
  have hkp : ∀ b, (if b ∈ S then none else w.heap[b]?) = none → b ∈ S ∨ w.heap.size ≤ b := fun b q => by
    by_cases hb : b ∈ S
    · exact .inl hb
    · rw [if_neg hb] at q
      exact .inr (by simpa using q)
  refine (hd μ1.fz (fun b => if b ∈ S then none else w.heap[b]?) w vs x p1.rs.x.fzh (fun b ob e => by
    by_cases hb : b ∈ S
    · simp [hb] at e
    · simpa [hb] using e) hpre (d1 _ fun b hb => if_pos hb)).mono fun e w' ⟨v, fz', k1, k2, k3, k4, k5, k6, k7⟩ => ?_
  have hp := p1.rs.called k2 (fun b hb => (hS b hb).1) (fun b ob hb e => k6 b ob (by show (if b ∈ S then none else w.heap[b]?) = some ob; rw [if_neg hb]; exact e)) k3 k5 fun b cs q => (k4 b cs q).imp id fun g => (hkp b g).symm
  have hp2 := hp.addC [pre x]
  obtain ⟨μ3, p3, v3⟩ := ofRs_ok (kp := fun b => if b ∈ S then none else w.heap[b]?) (ts := rs) (x := fn x) hp2.rs (fun b q1 q2 => by
    rcases hkp b q2 with g | g
    · obtain ⟨g1, _, g3, g4, g5⟩ := (hS b g).1
      refine ⟨g1, q1, g3, fun o p ob k1 k2 k3 => g4 o p ob k1 (by rw [addC_heap] at k2; exact k2) k3, fun o r ro off k1 k2 => g5 o r ro off k1 (by rw [addC_rows] at k2; exact k2)⟩
    · refine ⟨Nat.le_trans p1.rs.pos g, q1, ?_, fun o p ob k1 _ _ e => ?_, fun o r ro off k1 k2 _ k4 => ?_⟩
      · show μ1.kp b = none
        cases q : μ1.kp b with
        | none => rfl
        | some ob => have := (Array.getElem?_eq_some_iff.1 (p1.rs.x.kph b ob q)).1; omega
      · have := p1.rs.blk o p k1; omega
      · rw [addC_rows] at k2
        obtain ⟨_, _, _, _, _, gg⟩ := p1.rs.x.row o r ro k1 k2
        obtain ⟨cs, el, fr, g1, _⟩ := gg b off k4
        have := (Array.getElem?_eq_some_iff.1 g1).1
        omega) (v := v) k7
  rw [h2] at p3 v3
  exact ⟨v, k1, μ3, (p1.trans hp2).trans p3, v3⟩

/-! ### a function that only looks: nothing that it is handed is kept from being written -/
def scalL : LT → Bool
  | .row _ => false
  | _ => true
def scalE : ET → Bool
  | .one l => scalL l
  | .cons l e => scalL l && scalE e
def scalA : AT → Bool
  | .v (.one l) => scalL l
  | .v (.agg e) => scalE e
  | _ => false
def scalAs : List AT → Bool
  | [] => true
  | t :: r => scalA t && scalAs r
def noOwn : List AT → Bool
  | [] => true
  | .own _ :: _ => false
  | _ :: r => noOwn r
theorem decL_scal {f g : Fz} {l : LT} {x : l.T} {v : Value} (h : scalL l = true) (d : decL f l x v) : decL g l x v := by
  cases l with
  | row e => cases h
  | _ => simpa only [decL] using d
theorem decE_scal {f g : Fz} : ∀ (e : ET) (x : e.T) (cs : Array Value) (p : Nat), scalE e = true → decE f e x cs p → decE g e x cs p
  | .one l, x, cs, p, h, d => by
    simp only [decE] at d ⊢
    obtain ⟨v, h1, h2⟩ := d
    exact ⟨v, h1, decL_scal h h2⟩
  | .cons l e, x, cs, p, h, d => by
    simp only [scalE, Bool.and_eq_true] at h
    simp only [decE] at d ⊢
    obtain ⟨⟨v, h1, h2⟩, h3⟩ := d
    exact ⟨⟨v, h1, decL_scal h.1 h2⟩, decE_scal e x.2 cs (p + 1) h.2 h3⟩
theorem decA_scal {f g : Fz} {kp : Nat → Option Obj} {w : World} {t : AT} {x : t.T} {v : Value} {bs bs' : List Nat} (h : scalA t = true) (d : decA f kp w t x v bs bs') : decA g kp w t x v bs bs' := by
  cases t with
  | v t =>
    obtain ⟨d, e⟩ := d
    refine ⟨?_, e⟩
    cases t with
    | one l => exact decL_scal h d
    | agg e => obtain ⟨cs, h1, h2, h3⟩ := d; exact ⟨cs, h1, h2, decE_scal e x _ _ h h3⟩
  | _ => cases h
theorem decAs_scal {f g : Fz} {kp : Nat → Option Obj} {w : World} : ∀ (ts : List AT) (x : ATs ts) (vs : List Value) (bs : List Nat), scalAs ts = true → decAs f kp w ts x vs bs → decAs g kp w ts x vs bs
  | [], _, _, _, _, d => d
  | t :: r, x, vs, bs, h, d => by
    simp only [scalAs, Bool.and_eq_true] at h
    obtain ⟨v, q, bs', e, d1, d2⟩ := d
    exact ⟨v, q, bs', e, decA_scal h.1 d1, decAs_scal r x.2 q bs' h.2 d2⟩
theorem decRs_scal {f g : Fz} {kp : Nat → Option Obj} {w : World} {ts : List AT} {x : RTs ts} {v : Value} (h : scalAs ts = true) (d : decRs f kp w ts x v) : decRs g kp w ts x v := by
  match ts, x, d with
  | [], x, d => exact d
  | [t], x, d =>
    obtain ⟨bs, d⟩ := d
    exact ⟨bs, decA_scal (by simpa [scalAs] using h) d⟩
  | t :: u :: r, x, d =>
    obtain ⟨vs, e, d⟩ := d
    exact ⟨vs, e, decAs_scal _ x vs [] h d⟩
noncomputable def specB (as : List AT) (rs : List AT) (pre : ATs as → Prop) (fn : ATs as → RTs rs) : FSpec := fun args st =>
  obind2 (toAs as args st) fun x _ => some (ofRs rs (fn x) (addC st [pre x]))
theorem specB_xp {as : List AT} {rs : List AT} {pre : ATs as → Prop} {fn : ATs as → RTs rs} (args : List AV) (st : St) : XP (specB as rs pre fn args st) st := by
  unfold specB
  refine XP.obind2 fun x st1 => fun a st' e => ?_
  have e : ofRs rs (fn x) (addC st [pre x]) = (a, st') := Option.some.inj e
  have := (Gr.addC st [pre x]).trans (ofRs_gr rs (fn x) _)
  rw [e] at this
  exact this
theorem specB_ok {P : Program} {f : FuncId} {as : List AT} {rs : List AT} {pre : ATs as → Prop} {fn : ATs as → RTs rs} (he : ∀ vs w, (callFunc f vs).run P w = .ok (.enter f vs) w) (hd : DataOk P f as rs pre fn) (hr : scalAs rs = true) (ha : noOwn as = true) : SpecOk P f (specB as rs pre fn) := by
  refine ⟨he, specB_xp, ?_⟩
  intro args st st' r hs hC n0 w0 μ w vs h hv
  unfold specB at hs
  obtain ⟨x, st1, h1, h2⟩ := obind2_elim hs
  have h2 : ofRs rs (fn x) (addC st [pre x]) = (r, st') := Option.some.inj h2
  have hpre : pre x := by
    have hg := ofRs_gr rs (fn x) (addC st [pre x])
    rw [h2] at hg
    have := hg.all hC
    rw [addC_cs] at this
    exact this _ List.mem_cons_self
  obtain ⟨vs⟩ := vs
  obtain ⟨m, st2, q1, q2⟩ := obind2_elim h1
  obtain ⟨μ1, p1, d1⟩ := ph1As_ok as args μ st m st2 vs h hv q1
  have hno : ∀ (ts : List AT) (m : AMs ts) (st2 st1 : St) (x : ATs ts) (vs : List Value), noOwn ts = true → M1As μ1 ts m vs → ph2As ts m st2 = some (x, st1) → ∀ kp bs, decAs μ1.fz kp w ts x vs bs := by
    intro ts
    induction ts with
    | nil => intro m st2 st1 x vs _ hm _ kp bs; exact hm
    | cons t r ih =>
      intro m st2 st1 x vs hn hm hs kp bs
      obtain ⟨y, st3, h1, hs⟩ := obind2_elim (show obind2 (ph2A t m.1 st2) _ = some (x, st1) from hs)
      obtain ⟨z, st4, h2, hs⟩ := obind2_elim hs
      cases hs
      obtain ⟨v, q, rfl, g1, g2⟩ := hm
      cases t with
      | own e => cases hn
      | v t => cases h1; exact ⟨v, q, bs, rfl, ⟨g1, rfl⟩, ih m.2 _ _ z q hn g2 h2 kp bs⟩
      | f g => cases h1; exact ⟨v, q, bs, rfl, ⟨g1, rfl⟩, ih m.2 _ _ z q hn g2 h2 kp bs⟩
      | clo g es => cases h1; exact ⟨v, q, bs, rfl, ⟨g1, rfl⟩, ih m.2 _ _ z q hn g2 h2 kp bs⟩
  refine (hd μ1.fz (fun b => w.heap[b]?) w vs x p1.rs.x.fzh (fun b ob e => e) hpre (hno as m st2 st1 x vs ha d1 q2 _ _)).mono fun e w' ⟨v, fz', k1, k2, k3, k4, k5, k6, k7⟩ => ?_
  have hin : FzIn μ.fz w' := fun b cs q => by
    obtain ⟨el, fr, g⟩ := h.x.fzh b cs q
    exact ⟨el, fr, k6 b _ g⟩
  have hp := h.called k2 (S := []) (fun b hb => nomatch hb) (fun b ob _ e => k6 b ob e) (FzExt.refl _) hin fun b cs q => .inl q
  have hp2 := hp.addC [pre x]
  obtain ⟨μ3, p3, v3⟩ := ofRs_ok (kp := fun _ => some (Obj.cells #[] 0 (0, 0))) (ts := rs) (x := fn x) hp2.rs (fun b _ q2 => by cases q2) (v := v) (scal_kp hr (decRs_scal (g := μ.fz) hr k7))
  rw [h2] at p3 v3
  exact ⟨v, k1, μ3, hp2.trans p3, v3⟩
  where
  scalA_kp {f : Fz} {kp kp' : Nat → Option Obj} {w w' : World} {t : AT} {x : t.T} {v : Value} {bs bs' : List Nat} (h : scalA t = true) (d : decA f kp w t x v bs bs') : decA f kp' w' t x v bs bs' := by
    cases t with
    | v t => exact d
    | _ => cases h
  scalAs_kp {f : Fz} {kp kp' : Nat → Option Obj} {w w' : World} : ∀ (ts : List AT) (x : ATs ts) (vs : List Value) (bs : List Nat), scalAs ts = true → decAs f kp w ts x vs bs → decAs f kp' w' ts x vs bs
    | [], _, _, _, _, d => d
    | t :: r, x, vs, bs, h, d => by
      simp only [scalAs, Bool.and_eq_true] at h
      obtain ⟨v, q, bs', e, d1, d2⟩ := d
      exact ⟨v, q, bs', e, scalA_kp h.1 d1, scalAs_kp r x.2 q bs' h.2 d2⟩
  scal_kp {f : Fz} {kp kp' : Nat → Option Obj} {w w' : World} {ts : List AT} {x : RTs ts} {v : Value} (h : scalAs ts = true) (d : decRs f kp w ts x v) : decRs f kp' w' ts x v := by
    match ts, x, d with
    | [], x, d => exact d
    | [t], x, d =>
      obtain ⟨bs, d⟩ := d
      exact ⟨bs, scalA_kp (by simpa [scalAs] using h) d⟩
    | t :: u :: r, x, d =>
      obtain ⟨vs, e, d⟩ := d
      exact ⟨vs, e, scalAs_kp _ x vs [] h d⟩

/-- one contract, or another one of the same function -/
noncomputable def orS (a b : FSpec) : FSpec := fun args st => match a args st with
  | some r => some r
  | none => b args st
theorem orS_ok {P : Program} {f : FuncId} {a b : FSpec} (ha : SpecOk P f a) (hb : SpecOk P f b) : SpecOk P f (orS a b) := by
  have key : ∀ args st r, orS a b args st = some r → a args st = some r ∨ b args st = some r := fun args st r h => by
    unfold orS at h
    split at h
    · rename_i q; cases h; exact .inl q
    · exact .inr h
  refine ⟨ha.enter, fun args st r st' h => ?_, fun {args st st' r} hs hC => ?_⟩
  · rcases key args st _ h with h | h
    · exact ha.grow args st r st' h
    · exact hb.grow args st r st' h
  · intro n0 w0 μ w vs h hv
    rcases key args st _ hs with q | q
    · exact ha.told q hC h hv
    · exact hb.told q hC h hv

/-- the table of contracts -/
def hasBody (P : Program) (f : FuncId) : Bool := match P.funcs.toList[f]? with
  | some fn => fn.body.isSome
  | none => false
structure Con (P : Program) where
  f : FuncId
  sp : FSpec
  ok : SpecOk P f sp
  body : hasBody P f = true
/-- its name is none that the machine knows -/
def callable (P : Program) (f : FuncId) : Bool := match P.funcs.toList[f]? with
  | some fn => fn.body.isSome && fn.name != "runtime.NumGoroutine"
  | none => false
theorem callable_enter {P : Program} {f : FuncId} (h : callable P f = true) (vs : Array Value) (w : World) : (callFunc f vs).run P w = .ok (.enter f vs) w := by
  unfold callable at h
  cases hf : P.funcs.toList[f]? with
  | none => rw [hf] at h; cases h
  | some fn =>
    rw [hf] at h
    rw [Bool.and_eq_true] at h
    obtain ⟨b, hb⟩ := Option.isSome_iff_exists.1 h.1
    exact run_callFunc_enter (by simpa using hf) hb (by simpa using h.2) vs w
theorem callable_body {P : Program} {f : FuncId} (h : callable P f = true) : hasBody P f = true := by
  unfold callable at h
  unfold hasBody
  cases hf : P.funcs.toList[f]? with
  | none => rw [hf] at h; cases h
  | some fn => rw [hf] at h; rw [Bool.and_eq_true] at h; exact h.1
/-- a contract over data -/
noncomputable def conD {P : Program} (f : FuncId) (as rs : List AT) (pre : ATs as → Prop) (fn : ATs as → RTs rs) (ok : DataOk P f as rs pre fn) (c : callable P f = true) : Con P :=
  ⟨f, bif scalAs rs && noOwn as then specB as rs pre fn else specD as rs pre fn, by
    cases q : scalAs rs && noOwn as with
    | true => rw [Bool.and_eq_true] at q; exact specB_ok (callable_enter c) ok q.1 q.2
    | false => exact specD_ok (callable_enter c) ok, callable_body c⟩

/-! ### a row that is changed where it lies -/
def IoOk (P : Program) (f : FuncId) (e : ET) (pre : List e.T → Prop) (fn : List e.T → List e.T) : Prop :=
  ∀ (fz : Fz) (w : World) (r : RowAt) (xs : List e.T), FzIn fz w → pre xs → RowRel fz r ⟨e, xs, 0, false⟩ w.heap → (∀ b off, r.at_ = some (b, off) → fz b = none) →
    Calls P f ⟨[r.val e.sz 0 (List.length xs)]⟩ w fun ev w' => ev = .returned (.tuple ⟨[]⟩) ∧ Below 0 w w' ∧ (∀ b ob, b ∉ rBlk r → w.heap[b]? = some ob → w'.heap[b]? = some ob) ∧ RowRel fz r ⟨e, fn xs, 0, false⟩ w'.heap
noncomputable def ioS (e : ET) (pre : List e.T → Prop) (fn : List e.T → List e.T) : FSpec := fun args st => match args with
  | [a] => obind2 (ownPh e a st) fun p st1 => obind (ownAt e p st1) fun xs => some (.tup [], addC (setRow st1 p.1 ⟨e, fn xs, p.2, false⟩) [pre xs])
  | _ => none
theorem ioS_xp {e : ET} {pre : List e.T → Prop} {fn : List e.T → List e.T} (args : List AV) (st : St) : XP (ioS e pre fn args st) st := by
  unfold ioS
  split
  · exact XP.bind ownPh_xp fun p st1 => XP.obind fun xs => XP.some ((setRow_gr _ _ _).trans (Gr.addC _ _))
  · exact XP.none
theorem ioS_ok {P : Program} {f : FuncId} {e : ET} {pre : List e.T → Prop} {fn : List e.T → List e.T} (he : ∀ vs w, (callFunc f vs).run P w = .ok (.enter f vs) w) (hd : IoOk P f e pre fn) : SpecOk P f (ioS e pre fn) := by
  refine ⟨he, ioS_xp, ?_⟩
  intro args st st' r hs hC n0 w0 μ w vs h ha
  unfold ioS at hs
  split at hs
  · rename_i a
    obtain ⟨p, st1, h1, hs⟩ := obind2_elim hs
    obtain ⟨xs, h2, hs⟩ := obind_elim hs
    cases hs
    rw [addC_cs] at hC
    have hpre : pre xs := hC _ List.mem_cons_self
    obtain ⟨vs⟩ := vs
    obtain ⟨v, rfl, hv⟩ := args1 ha
    obtain ⟨μ1, p1, lo, n, hv1⟩ := ownPh_ok h hv h1
    have hro := ownAt_ok h2
    obtain ⟨ra, hra, hver, hform, hby, hcur⟩ := vr_x.1 hv1
    have hR := p1.rs.x.row _ ra _ hra hro
    obtain ⟨k1, k2, k3⟩ := hcur hR.1.symm
    obtain ⟨k4, k5⟩ := k3 rfl
    have hlen : ra.len = List.length xs := hR.2.1
    have hval : v = RowAt.val ⟨0, ra.len, ra.cap, ra.at_⟩ e.sz 0 (List.length xs) := by
      have := k1 (.inl k4)
      rw [k4, k5, hlen] at this
      exact this
    rw [hval]
    have hown := fun b off (hat : ra.at_ = some (b, off)) => p1.rs.x.rown _ ra _ b off hra hro rfl hat
    refine (hd μ1.fz w ⟨0, ra.len, ra.cap, ra.at_⟩ xs p1.rs.x.fzh hpre ⟨rfl, hR.2.1, hR.2.2.1, hR.2.2.2.1, hR.2.2.2.2.1, hR.2.2.2.2.2⟩ fun b off hat => (hown b off hat).2).mono fun ev w' ⟨g1, g2, g3, g4⟩ => ?_
    subst g1
    have hlt : p.1 < st1.next := by
      rcases Nat.lt_or_ge p.1 st1.next with g | g
      · exact g
      · have := p1.rs.x.fresh _ g; rw [hra] at this; cases this
    have same : ∀ b, b < w.heap.size → b ∉ rBlk ra → w'.heap[b]? = w.heap[b]? := fun b hb hn => by
      have : w.heap[b]? = some w.heap[b] := by simp [hb]
      rw [this]; exact g3 b _ hn this
    have hbelow : Below n0 w w' := ⟨g2.os, g2.tape, g2.output, g2.size, fun i hi => same i (Nat.lt_of_lt_of_le hi p1.rs.pos) fun hm => by
      cases hat : ra.at_ with
      | none => unfold rBlk at hm; rw [hat] at hm; cases hm
      | some ad =>
        unfold rBlk at hm; rw [hat] at hm
        have := List.mem_singleton.1 hm
        have := (hown ad.1 ad.2 hat).1
        omega⟩
    have put : ∀ bc, (∀ b off, ra.at_ = some (b, off) → b = bc) → (∀ b, b < w.heap.size → b ≠ bc → b ∉ rBlk ra) → (bc < w.heap.size → ∃ off, ra.at_ = some (bc, off)) → Post n0 w0 μ1 st1 (μ1.setOwn p.1 ra) (setRow st1 p.1 ⟨e, fn xs, p.2, false⟩) w' := fun bc hbc hne hin =>
      p1.rs.putRow (o := p.1) (bc := bc) (r' := ra) (ro' := ⟨e, fn xs, p.2, false⟩) (w' := w') (fun r q => by rw [hra] at q; cases q; exact ⟨Nat.le_refl _, fun _ => rfl⟩) (setRow_heap _ _ _) (setRow_wmin _ _ _) (by rw [setRow_next]; exact Nat.le_refl _) (by rw [setRow_next]; exact hlt) (setRow_rows _ _ _)
        (p1.rs.below.trans hbelow) g2.size (fun b hb hn => same b hb (hne b hb hn)) (fun g => by
          obtain ⟨off, hat⟩ := hin g
          obtain ⟨q1, q2⟩ := hown bc off hat
          exact ⟨q1, q2, p1.rs.x.kpr _ ra _ bc off hra hro rfl hat, fun o' p' ob k1 k2 k3 => p1.rs.x.rapo _ ra _ bc off o' p' ob hra hro rfl hat k1 k2 k3, fun o' r1 ro1 off' hne k1 k2 k3 k4 => p1.rs.x.rap o' _ r1 ra ro1 _ bc off' off hne k1 hra k2 hro k3 rfl k4 hat⟩) hbc
        ⟨hR.1, g4.2.1, g4.2.2.1, g4.2.2.2.1, g4.2.2.2.2.1, g4.2.2.2.2.2⟩
    have hp : Post n0 w0 μ1 st1 (μ1.setOwn p.1 ra) (setRow st1 p.1 ⟨e, fn xs, p.2, false⟩) w' := by
      cases hat : ra.at_ with
      | none => exact put w.heap.size (fun b off q => by rw [hat] at q; cases q) (fun b _ _ hm => by unfold rBlk at hm; rw [hat] at hm; cases hm) fun g => absurd g (Nat.lt_irrefl _)
      | some ad => exact put ad.1 (fun b off q => by rw [hat] at q; cases q; rfl) (fun b _ hn hm => by unfold rBlk at hm; rw [hat] at hm; exact hn (List.mem_singleton.1 hm)) fun _ => ⟨ad.2, hat⟩
    refine ⟨_, rfl, _, (p1.trans hp).addC _, ?_⟩
    simp only [vr]
    exact ⟨[], rfl, vrL_nil.2 rfl⟩
  · cases hs
noncomputable def conIo {P : Program} (f : FuncId) (e : ET) (pre : List e.T → Prop) (fn : List e.T → List e.T) (ok : IoOk P f e pre fn) (c : callable P f = true) : Con P :=
  ⟨f, ioS e pre fn, ioS_ok (callable_enter c) ok, callable_body c⟩
noncomputable def specsOf {P : Program} : List (Con P) → List (FuncId × FSpec)
  | [] => []
  | c :: r => (c.f, match specOf c.f (specsOf r) with
    | some h => orS c.sp h
    | none => c.sp) :: specsOf r
noncomputable def cfgOf {P : Program} (l : List (Con P)) : Cfg := { lf := 60, specs := specsOf l }
def namedOk (P : Program) : Bool := P.funcs.toList.all fun fn => fn.name != "runtime.NumGoroutine"
theorem cfgOf_ok {P : Program} (hn : namedOk P = true) (hm : P.follows .mixedOrders = true) (l : List (Con P)) : CfgOk P (cfgOf l) := by
  have ng : ∀ (f : FuncId) (fn : Func) (c : Code), P.funcs[f]? = some fn → fn.body = some c → fn.name ≠ "runtime.NumGoroutine" := fun f fn c h _ => by
    unfold namedOk at hn
    rw [List.all_eq_true] at hn
    have := hn fn (by
      have : P.funcs.toList[f]? = some fn := by simpa using h
      exact List.mem_of_getElem? this)
    simpa using this
  refine ⟨ng, hm, ?_⟩
  have key : ∀ (l : List (Con P)) f h, specOf f (specsOf l) = some h → SpecOk P f h := by
    intro l
    induction l with
    | nil => intro f h e; cases e
    | cons c r ih =>
      intro f h e
      have hc : SpecOk P c.f c.sp := c.ok
      have e : (bif Nat.beq c.f f then some (match specOf c.f (specsOf r) with | some h => orS c.sp h | none => c.sp) else specOf f (specsOf r)) = some h := e
      cases q : Nat.beq c.f f with
      | true =>
        rw [q] at e
        rw [beq_iff'] at q
        subst q
        cases hr : specOf c.f (specsOf r) with
        | none => rw [hr] at e; cases e; exact hc
        | some h2 => rw [hr] at e; cases e; exact orS_ok hc (ih _ _ hr)
      | false => rw [q] at e; exact ih f h e
  exact key l
end Go.Proofs.Ytkccnomdfkhfnaa.Ev
