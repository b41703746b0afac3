/- What functions of the program compute, written down; read off their code. -/
import Derived.Test.YtkccnomdfkhfnaaEvMain
import Derived.Test.YtkccnomdfkhfnaaEvDraw3
set_option linter.unusedSimpArgs false
set_option linter.unusedVariables false
namespace Go.Proofs.Ytkccnomdfkhfnaa.Ev
open Go.RowKit

/-! ## contracts over data -/
noncomputable section
inductive VT where
  | one (t : LT)
  | agg (e : ET)
def VT.T : VT → Type
  | .one t => t.T
  | .agg e => e.T
def decV (fz : Fz) : (t : VT) → t.T → Value → Prop
  | .one l, x, v => decL fz l x v
  | .agg e, x, v => ∃ cs : List Value, v = .agg ⟨cs⟩ ∧ cs.length = e.sz ∧ decE fz e x ⟨cs⟩ 0
def ofVT : (t : VT) → t.T → AV
  | .one l, x => ofL l x
  | .agg e, x => .agg (ofE e x)
def tupOf : AV → Option (List AV)
  | .tup l => some l
  | _ => none
def aggOf : AV → Option (List AV)
  | .agg l => some l
  | _ => none
def fnOfA : AV → Option FuncId
  | .fn f [] [] => some f
  | _ => none
def toVT : (t : VT) → AV → St → Option (t.T × St)
  | .one l, a, st => toL l a st
  | .agg e, a, st => obind (aggOf a) fun l => toE e l st

/-- an argument: data, a function by its name, a row of one's own that is handed over, a closure over boxes of data -/
inductive AT where
  | v (t : VT)
  | f (f : FuncId)
  | own (e : ET)
  | clo (f : FuncId) (es : List ET)
def ETs : List ET → Type
  | [] => Unit
  | e :: r => e.T × ETs r
def AT.T : AT → Type
  | .v t => t.T
  | .f _ => Unit
  | .own e => List e.T
  | .clo _ es => ETs es
/-- how far it is told at first -/
def AT.M : AT → Type
  | .v t => t.T
  | .f _ => Unit
  | .own _ => Nat × Nat
  | .clo _ es => ETs es
def ATs : List AT → Type
  | [] => Unit
  | a :: r => a.T × ATs r
def AMs : List AT → Type
  | [] => Unit
  | a :: r => a.M × AMs r
abbrev RTs := ATs
def cloOf : AV → Option (FuncId × List AV)
  | .fn f [] l => some (f, l)
  | _ => none
def ofBoxes : (es : List ET) → ETs es → List AV
  | [], _ => []
  | e :: r, x => .x (.rp e (r1 x.1) 0 0) :: ofBoxes r x.2
def toBox (e : ET) (a : AV) (st : St) : Option (El e × St) := match a with
  | .ptr o k => (match st.heap.get o with
    | some (.cells c lim esz _ 0) => need (Nat.ble (Nat.add k e.sz) lim && Nat.ble st.wmin o) 420 (toE e (rd c k e.sz) (setRo st o (.cells c lim esz true 0)))
    | _ => bad 421)
  | .x (.rp e' xs i 0) => (match eqET e' e with
    | some h => some (xsAt e (rCast h.down xs) i, st)
    | none => bad 422)
  | _ => bad 423
def toBoxes : (es : List ET) → List AV → St → Option (ETs es × St)
  | [], [], st => some ((), st)
  | e :: r, a :: l, st => obind2 (toBox e a st) fun x st1 => obind2 (toBoxes r l st1) fun y st2 => some ((x, y), st2)
  | _, _, _ => none
def ownPh (e : ET) (a : AV) (st : St) : Option ((Nat × Nat) × St) := match a with
  | .x (.own o ver e' true _ _) => need (eqET e' e).isSome 410 (some ((o, ver), st))
  | .nils => some ((st.next, 0), addRow st ⟨e, lNil e, 0, false⟩)
  | .sl o k len _ _ esz => obind2 (slOwn e o k len esz st) fun o' st1 => some ((o', 0), st1)
  | _ => bad 411
def ownAt (e : ET) (p : Nat × Nat) (st : St) : Option (List e.T) := obind (getRow st p.1) fun ro => need (Nat.beq p.2 ro.ver && !ro.fr) 413 (match eqET ro.e e with
  | some h => some (rCast h.down ro.xs)
  | none => bad 414)
def ph1A : (t : AT) → AV → St → Option (t.M × St)
  | .v t, a, st => toVT t a st
  | .f g, a, st => obind (fnOfA a) fun f => need (Nat.beq f g) 400 (some ((), st))
  | .own e, a, st => ownPh e a st
  | .clo g es, a, st => obind2 (cloOf a) fun f l => need (Nat.beq f g) 400 (toBoxes es l st)
def ph1As : (ts : List AT) → List AV → St → Option (AMs ts × St)
  | [], [], st => some ((), st)
  | t :: r, a :: l, st => obind2 (ph1A t a st) fun x st1 => obind2 (ph1As r l st1) fun y st2 => some ((x, y), st2)
  | _, _, _ => none
/-- a row of one's own is handed over: its elements are told, its names are dead -/
def ph2A : (t : AT) → t.M → St → Option (t.T × St)
  | .v _, x, st => some (x, st)
  | .f _, _, st => some ((), st)
  | .own e, p, st => obind (ownAt e p st) fun xs => some (xs, setRow st p.1 ⟨e, lNil e, Nat.succ p.2, false⟩)
  | .clo _ _, x, st => some (x, st)
def ph2As : (ts : List AT) → AMs ts → St → Option (ATs ts × St)
  | [], _, st => some ((), st)
  | t :: r, m, st => obind2 (ph2A t m.1 st) fun x st1 => obind2 (ph2As r m.2 st1) fun y st2 => some ((x, y), st2)
def toAs (ts : List AT) (l : List AV) (st : St) : Option (ATs ts × St) := obind2 (ph1As ts l st) fun m st1 => ph2As ts m st1
def toRs : (ts : List AT) → AV → St → Option (RTs ts × St)
  | [], a, st => obind (tupOf a) fun l => toAs [] l st
  | [t], a, st => toAs [t] [a] st
  | t :: u :: r, a, st => obind (tupOf a) fun l => toAs (t :: u :: r) l st
def ofA : (t : AT) → t.T → St → AV × St
  | .v t, x, st => (ofVT t x, st)
  | .f g, _, st => (.fn g [] [], st)
  | .own e, xs, st => (.x (.own st.next 0 e true lo0 (nLen (xs : List e.T))), addRow st ⟨e, xs, 0, false⟩)
  | .clo g es, x, st => (.fn g [] (ofBoxes es x), st)
def ofAs : (ts : List AT) → ATs ts → St → List AV × St
  | [], _, st => ([], st)
  | t :: r, x, st => ((ofA t x.1 st).1 :: (ofAs r x.2 (ofA t x.1 st).2).1, (ofAs r x.2 (ofA t x.1 st).2).2)
def ofRs : (ts : List AT) → RTs ts → St → AV × St
  | [], _, st => (.tup [], st)
  | [t], x, st => ofA t x.1 st
  | t :: u :: r, x, st => (.tup (ofAs (t :: u :: r) x st).1, (ofAs (t :: u :: r) x st).2)

/-! ### what stands in memory -/
def BoxIn (fz : Fz) (e : ET) (x : e.T) (v : Value) : Prop := ∃ b off cs, v = .pointer (some ⟨b, off, none⟩) ∧ fz b = some cs ∧ decE fz e x cs off
def BoxesIn (fz : Fz) : (es : List ET) → ETs es → List Value → Prop
  | [], _, vs => vs = []
  | e :: r, x, vs => ∃ v q, vs = v :: q ∧ BoxIn fz e x.1 v ∧ BoxesIn fz r x.2 q
def rBlk (r : RowAt) : List Nat := match r.at_ with
  | some a => [a.1]
  | none => []
/-- an argument, with the blocks that are handed over ahead of it, and with it -/
def decA (fz : Fz) (kp : Nat → Option Obj) (w : World) : (t : AT) → t.T → Value → List Nat → List Nat → Prop
  | .v t, x, v, bs, bs' => decV fz t x v ∧ bs' = bs
  | .f g, _, v, bs, bs' => v = .func (.func g) ⟨[]⟩ ⟨[]⟩ ∧ bs' = bs
  | .own e, xs, v, bs, bs' => ∃ r : RowAt, r.ver = 0 ∧ v = r.val e.sz 0 (List.length xs) ∧ RowRel fz r ⟨e, xs, 0, false⟩ w.heap ∧ (∀ b off, r.at_ = some (b, off) → fz b = none ∧ kp b = none ∧ b ∉ bs) ∧ bs' = rBlk r ++ bs
  | .clo g es, x, v, bs, bs' => (∃ ps, v = .func (.func g) ⟨[]⟩ ⟨ps⟩ ∧ BoxesIn fz es x ps) ∧ bs' = bs
def decAs (fz : Fz) (kp : Nat → Option Obj) (w : World) : (ts : List AT) → ATs ts → List Value → List Nat → Prop
  | [], _, vs, _ => vs = []
  | t :: r, x, vs, bs => ∃ v q bs', vs = v :: q ∧ decA fz kp w t x.1 v bs bs' ∧ decAs fz kp w r x.2 q bs'
def decRs (fz : Fz) (kp : Nat → Option Obj) (w : World) : (ts : List AT) → RTs ts → Value → Prop
  | [], _, v => v = .tuple ⟨[]⟩
  | [t], x, v => ∃ bs, decA fz kp w t x.1 v [] bs
  | t :: u :: r, x, v => ∃ vs : List Value, v = .tuple ⟨vs⟩ ∧ decAs fz kp w (t :: u :: r) x vs []

end
def FzIn (f : Fz) (w : World) : Prop := ∀ b cs, f b = some cs → ∃ el fr, w.heap[b]? = some (.cells cs el fr)
def KpIn (k : Nat → Option Obj) (w : World) : Prop := ∀ b ob, k b = some ob → w.heap[b]? = some ob

/-- of arguments that are such the function answers so; what it is to leave it leaves -/
def DataOk (P : Program) (f : FuncId) (as : List AT) (rs : List AT) (pre : ATs as → Prop) (fn : ATs as → RTs rs) : Prop :=
  ∀ (fz : Fz) (kp : Nat → Option Obj) (w : World) (vs : List Value) (x : ATs as), FzIn fz w → KpIn kp w → pre x → decAs fz kp w as x vs [] →
    Calls P f ⟨vs⟩ w fun e w' => ∃ v fz', e = .returned v ∧ Below 0 w w' ∧ FzExt fz fz' ∧ (∀ b cs, fz' b = some cs → fz b = some cs ∨ kp b = none) ∧ FzIn fz' w' ∧ KpIn kp w' ∧ decRs fz' kp w' rs (fn x) v

/-! ### what data are within -/
mutual
def WfL : (l : LT) → l.T → Prop
  | .int k, x => InR k x
  | .bool, _ => True
  | .str, x => List.length x ≤ Room
  | .row e, xs => List.length xs * e.by ≤ Room ∧ ∀ (i : Nat) (x : e.T), (show List e.T from xs)[i]? = some x → WfE e x
def WfE : (e : ET) → e.T → Prop
  | .one l, x => WfL l x
  | .cons l e, x => WfL l x.1 ∧ WfE e x.2
end
mutual
theorem decL_wf {fz : Fz} : ∀ (l : LT) (x : l.T) (v : Value), decL fz l x v → WfL l x
  | .int k, x, v, h => by simp only [decL] at h; simp only [WfL]; exact h.2
  | .bool, x, v, h => by simp only [WfL]
  | .str, x, v, h => by simp only [decL] at h; simp only [WfL]; exact h.2
  | .row e, xs, v, h => by
    simp only [decL] at h
    simp only [WfL]
    obtain ⟨a, c, h1, h2, h3, h4⟩ := h
    refine ⟨h3, fun i x hx => ?_⟩
    rcases h4 with h4 | ⟨b, off, cs, g1, g2, g3, g4⟩
    · have : xs = [] := List.eq_nil_of_length_eq_zero h4
      subst this
      simp at hx
    · exact decE_wf e x cs _ (g4 i x hx)
theorem decE_wf {fz : Fz} : ∀ (e : ET) (x : e.T) (cs : Array Value) (p : Nat), decE fz e x cs p → WfE e x
  | .one l, x, cs, p, h => by
    simp only [decE] at h
    simp only [WfE]
    obtain ⟨v, _, h2⟩ := h
    exact decL_wf l x v h2
  | .cons l e, x, cs, p, h => by
    simp only [decE] at h
    simp only [WfE]
    obtain ⟨⟨v, _, h2⟩, h3⟩ := h
    exact ⟨decL_wf l x.1 v h2, decE_wf e x.2 cs _ h3⟩
end
def WfV : (t : VT) → t.T → Prop
  | .one l, x => WfL l x
  | .agg e, x => WfE e x
def WfEs : (es : List ET) → ETs es → Prop
  | [], _ => True
  | e :: r, x => WfE e x.1 ∧ WfEs r x.2
def WfA : (t : AT) → t.T → Prop
  | .v t, x => WfV t x
  | .f _, _ => True
  | .own e, x => WfL (.row e) x
  | .clo _ es, x => WfEs es x
def WfAs : (ts : List AT) → ATs ts → Prop
  | [], _ => True
  | t :: r, x => WfA t x.1 ∧ WfAs r x.2
theorem decV_wf {fz : Fz} (t : VT) (x : t.T) (v : Value) (h : decV fz t x v) : WfV t x := by
  cases t with
  | one l => exact decL_wf l x v h
  | agg e => obtain ⟨cs, _, _, h⟩ := h; exact decE_wf e x _ _ h
theorem boxes_wf {fz : Fz} : ∀ (es : List ET) (x : ETs es) (vs : List Value), BoxesIn fz es x vs → WfEs es x
  | [], _, _, _ => trivial
  | e :: r, x, vs, ⟨v, q, _, ⟨b, off, cs, _, _, h⟩, h2⟩ => ⟨decE_wf e x.1 cs off h, boxes_wf r x.2 q h2⟩
theorem row_wf {fz : Fz} {r : RowAt} {e : ET} {xs : List e.T} {hp : Array Obj} (h : RowRel fz r ⟨e, xs, 0, false⟩ hp) : WfL (.row e) xs := by
  obtain ⟨_, h2, h3, h4, h5, h6⟩ := h
  have h2 : r.len = List.length xs := h2
  simp only [WfL]
  refine ⟨by rw [← h2]; exact h4, fun i x hx => ?_⟩
  have hx : xs[i]? = some x := hx
  cases hat : r.at_ with
  | none =>
    have := h5 hat
    have hi := (List.getElem?_eq_some_iff.1 hx).1
    omega
  | some a =>
    obtain ⟨cs, el, fr, _, _, g, _⟩ := h6 a.1 a.2 hat
    exact decE_wf e x cs _ (g i x hx)
theorem decAs_wf {fz : Fz} {kp : Nat → Option Obj} {w : World} : ∀ (ts : List AT) (x : ATs ts) (vs : List Value) (bs : List Nat), decAs fz kp w ts x vs bs → WfAs ts x
  | [], x, vs, bs, h => trivial
  | t :: r, x, vs, bs, h => by
    obtain ⟨v, q, bs', h1, h2, h3⟩ := h
    refine ⟨?_, decAs_wf r x.2 q bs' h3⟩
    cases t with
    | v t => exact decV_wf t x.1 v h2.1
    | f g => trivial
    | own e => obtain ⟨r, _, _, h, _⟩ := h2; exact row_wf h
    | clo g es => obtain ⟨⟨ps, _, h⟩, _⟩ := h2; exact boxes_wf es x.1 ps h

/-! ### there and back -/
theorem ofVT_vr {μ : Mu} (t : VT) (x : t.T) (v : Value) (h : decV μ.fz t x v) : vr μ (ofVT t x) v := by
  cases t with
  | one l => exact ofL_vr l x v h
  | agg e =>
    obtain ⟨cs, rfl, h1, h2⟩ := h
    obtain ⟨vs, g1, g2, g3, _⟩ := decE_cells e x _ _ h2
    have : vs = cs := by
      apply List.ext_getElem?
      intro i
      by_cases hi : i < vs.length
      · have := g3 i vs[i] (List.getElem?_eq_getElem hi)
        rw [Nat.zero_add] at this
        rw [List.getElem?_eq_getElem hi, ← this]; simp
      · rw [List.getElem?_eq_none (by omega), List.getElem?_eq_none (by omega)]
    subst this
    show vr μ (.agg (ofE e x)) _
    simp only [vr]
    exact ⟨vs, rfl, g1⟩
section
variable {n0 : Nat} {w0 w : World}
theorem tupOf_ok {μ : Mu} {a : AV} {l : List AV} {v : Value} (h : tupOf a = some l) (hv : vr μ a v) : ∃ xs, v = .tuple ⟨xs⟩ ∧ vrL μ l xs := by
  cases a <;> simp only [tupOf] at h <;> try (cases h; done)
  cases h
  simpa only [vr] using hv
theorem aggOf_ok {μ : Mu} {a : AV} {l : List AV} {v : Value} (h : aggOf a = some l) (hv : vr μ a v) : ∃ xs, v = .agg ⟨xs⟩ ∧ vrL μ l xs := by
  cases a <;> simp only [aggOf] at h <;> try (cases h; done)
  cases h
  simpa only [vr] using hv
theorem fnOfA_ok {μ : Mu} {a : AV} {f : FuncId} {v : Value} (h : fnOfA a = some f) (hv : vr μ a v) : v = .func (.func f) ⟨[]⟩ ⟨[]⟩ := by
  unfold fnOfA at h
  split at h
  · cases h
    simp only [vr] at hv
    obtain ⟨xs, ys, rfl, h1, h2⟩ := hv
    rw [vrL_nil.1 h1, vrL_nil.1 h2]
  · cases h
theorem toVT_ok (t : VT) (a : AV) (μ : Mu) (st : St) (x : t.T) (st' : St) (v : Value) (h : RS n0 w0 μ st w) (hv : vr μ a v) (hs : toVT t a st = some (x, st')) : ∃ μ', Post n0 w0 μ st μ' st' w ∧ decV μ'.fz t x v := by
  cases t with
  | one l => exact toL_ok l a μ st x st' v h hv hs
  | agg e =>
    obtain ⟨l, h0, hs⟩ := obind_elim (show obind (aggOf a) (fun l => toE e l st) = some (x, st') from hs)
    · obtain ⟨xs, rfl, hl⟩ := aggOf_ok h0 hv
      obtain ⟨μ', p1, d1⟩ := toE_ok e l μ st x st' xs h hl hs
      have hlen := toE_len e l st x st' hs
      exact ⟨μ', p1, xs, rfl, by rw [vrL_length _ _ hl]; exact hlen, d1 ⟨xs⟩ 0 fun j u hj => by rw [Nat.zero_add]; simpa using hj⟩
  where
  toE_len : ∀ (e : ET) (l : List AV) (st : St) (x : e.T) (st' : St), toE e l st = some (x, st') → l.length = e.sz
  | .one l, a, st, x, st', hs => by
    simp only [toE] at hs
    split at hs
    · rfl
    · cases hs
  | .cons l e, a, st, x, st', hs => by
    simp only [toE] at hs
    split at hs
    · obtain ⟨y, st1, h1, hs⟩ := obind2_elim hs
      obtain ⟨z, st2, h2, hs⟩ := obind2_elim hs
      rw [List.length_cons, toE_len e _ _ _ _ h2]; rfl
    · cases hs
theorem decV_ext {f g : Fz} (h : FzExt f g) (t : VT) (x : t.T) (v : Value) (k : decV f t x v) : decV g t x v := by
  cases t with
  | one l => exact decL_ext h l x v k
  | agg e => obtain ⟨cs, h1, h2, h3⟩ := k; exact ⟨cs, h1, h2, decE_ext h e x _ _ h3⟩
theorem BoxIn.ext {f g : Fz} (h : FzExt f g) {e : ET} {x : e.T} {v : Value} : BoxIn f e x v → BoxIn g e x v := fun ⟨b, off, cs, h1, h2, h3⟩ => ⟨b, off, cs, h1, h b cs h2, decE_ext h e x cs off h3⟩
theorem BoxesIn.ext {f g : Fz} (h : FzExt f g) : ∀ (es : List ET) (x : ETs es) (vs : List Value), BoxesIn f es x vs → BoxesIn g es x vs
  | [], _, _, q => q
  | e :: r, x, vs, ⟨v, q, h1, h2, h3⟩ => ⟨v, q, h1, h2.ext h, BoxesIn.ext h r x.2 q h3⟩

/-! ### phase one -/
theorem ownPh_ok {e : ET} {a : AV} {μ : Mu} {st st' : St} {p : Nat × Nat} {v : Value} (h : RS n0 w0 μ st w) (hv : vr μ a v) (hs : ownPh e a st = some (p, st')) : ∃ μ', Post n0 w0 μ st μ' st' w ∧ ∃ lo n, vr μ' (.x (.own p.1 p.2 e true lo n)) v := by
  unfold ownPh at hs
  split at hs
  · rename_i o ver e' lo n
    obtain ⟨he, h2⟩ := need_some hs
    cases h2
    have : e' = e := by
      cases q : eqET e' e with
      | none => rw [q] at he; cases he
      | some z => exact z.down
    subst this
    exact ⟨μ, Post.refl h, lo, n, hv⟩
  · cases hs
    simp only [vr] at hv
    subst hv
    obtain ⟨f1, f2, f3, f4, f5⟩ := addRow_eq st ⟨e, lNil e, 0, false⟩
    have hput := h.putRow (o := st.next) (bc := w.heap.size) (r' := ⟨0, 0, 0, none⟩) (ro' := ⟨e, lNil e, 0, false⟩) (st' := addRow st ⟨e, lNil e, 0, false⟩) (w' := w) (fun r q => by rw [h.x.fresh _ (Nat.le_refl _)] at q; cases q) f1 f3 (by rw [f2]; omega) (by rw [f2]; omega) f4 h.below (Nat.le_refl _) (fun _ _ _ => rfl) (fun g => absurd g (Nat.lt_irrefl _)) (fun b off q => by cases q)
      ⟨rfl, rfl, Nat.le_refl _, by simp, fun _ => rfl, fun b off q => by cases q⟩
    exact ⟨_, hput, 0, 0, vr_x.2 ⟨_, Mu.setOwn_same _ _ _, Nat.le_refl _, ⟨_, _, rfl, Nat.le_refl _, .inl rfl⟩, by show 0 * _ ≤ _; simp, fun _ => ⟨fun _ => rfl, Nat.le_refl _, fun _ => ⟨rfl, rfl⟩⟩⟩⟩
  · obtain ⟨o', st1, h1, h2⟩ := obind2_elim hs
    cases h2
    obtain ⟨μ1, xs, p1, q1, q2⟩ := slOwn_ok h h1 hv
    exact ⟨μ1, p1, _, _, q2⟩
  · cases hs
theorem ownAt_ok {e : ET} {p : Nat × Nat} {st : St} {xs : List e.T} (h : ownAt e p st = some xs) : st.x.rows.get p.1 = some ⟨e, xs, p.2, false⟩ := by
  unfold ownAt at h
  obtain ⟨ro, hro, h1⟩ := obind_elim h
  obtain ⟨hb, h2⟩ := need_some h1
  rw [Bool.and_eq_true, beq_iff', Bool.not_eq_true'] at hb
  split at h2
  · rename_i hh _
    obtain ⟨hE⟩ := hh
    cases h2
    obtain ⟨re, rxs, rv, rf⟩ := ro
    dsimp only at hE hb
    subst hE
    obtain ⟨rfl, rfl⟩ := hb
    exact hro
  · cases h2
theorem toBox_ok {e : ET} {a : AV} {μ : Mu} {st st' : St} {x : e.T} {v : Value} (h : RS n0 w0 μ st w) (hv : vr μ a v) (hs : toBox e a st = some (x, st')) : ∃ μ', Post n0 w0 μ st μ' st' w ∧ BoxIn μ'.fz e x v := by
  unfold toBox at hs
  split at hs
  · rename_i o k
    split at hs
    · rename_i c lim esz rdo hob
      obtain ⟨hin, h1⟩ := need_some hs
      rw [Bool.and_eq_true, ble_iff, ble_iff, add_eq'] at hin
      simp only [vr] at hv
      obtain ⟨p, hp, hk, rfl⟩ := hv
      obtain ⟨f, cs, hpost, hfz, el, fr, q1, q2, q3, q4⟩ := h.freezeObj hp hob hin.2
      have hvl : ∀ (m : Nat) (k' : Nat), p.lo ≤ k' → k' + m ≤ lim → ∃ vs, vrL ⟨μ.pl, f, μ.own, μ.f0, μ.kp⟩ (rd c k' m) vs ∧ ∀ (j : Nat) u, vs[j]? = some u → cs[p.at_ k' + j]? = some u := by
        intro m
        induction m with
        | zero => intro k' _ _; exact ⟨[], vrL_nil.2 rfl, fun j u hj => by simp at hj⟩
        | succ m ih =>
          intro k' h1 h2
          obtain ⟨vs, g1, g2⟩ := ih (k' + 1) (by omega) (by omega)
          obtain ⟨u, g3, g4⟩ := q4 k' h1 (by omega)
          rw [rd_succ]
          refine ⟨u :: vs, vrL_cons.2 ⟨vr_ext hpost.ext _ _ g4, g1⟩, fun j u' hj => ?_⟩
          cases j with
          | zero => simp at hj; subst hj; exact g3
          | succ j =>
            have := g2 j u' (by simpa using hj)
            rw [p.at_add h1] at this
            rw [show p.at_ k' + (j + 1) = p.at_ k' + 1 + j from by omega]; exact this
      obtain ⟨vs, g1, g2⟩ := hvl e.sz k hk hin.1
      obtain ⟨μ', p2, d2⟩ := toE_ok e _ _ _ x st' vs hpost.rs g1 h1
      exact ⟨μ', hpost.trans p2, p.blk, p.at_ k, cs, rfl, p2.ext.fz _ _ hfz, d2 cs _ g2⟩
    · cases hs
  · rename_i e' xs i
    split at hs
    · rename_i hh _
      obtain ⟨hE⟩ := hh
      subst hE
      cases hs
      obtain ⟨b, off, cs, y, h1, h2, h3, h4⟩ := vr_x.1 hv
      refine ⟨μ, Post.refl h, b, off, cs, h1, h2, ?_⟩
      have e : xsAt e' (rCast rfl xs) i = y := xsAt_get h3
      rw [e]; exact h4
    · cases hs
  · cases hs
theorem toBoxes_ok : ∀ (es : List ET) (l : List AV) (μ : Mu) (st : St) (x : ETs es) (st' : St) (vs : List Value), RS n0 w0 μ st w → vrL μ l vs → toBoxes es l st = some (x, st') → ∃ μ', Post n0 w0 μ st μ' st' w ∧ BoxesIn μ'.fz es x vs
  | [], [], μ, st, x, st', vs, h, hv, hs => by cases hs; simp only [vrL] at hv; exact ⟨μ, Post.refl h, hv⟩
  | [], _ :: _, μ, st, x, st', vs, h, hv, hs => by cases hs
  | _ :: _, [], μ, st, x, st', vs, h, hv, hs => by cases hs
  | e :: r, a :: l, μ, st, x, st', vs, h, hv, hs => by
    obtain ⟨y, st1, h1, hs⟩ := obind2_elim (show obind2 (toBox e a st) _ = some (x, st') from hs)
    obtain ⟨z, st2, h2, hs⟩ := obind2_elim hs
    cases hs
    simp only [vrL] at hv
    obtain ⟨v, q, rfl, g1, g2⟩ := hv
    obtain ⟨μ1, p1, d1⟩ := toBox_ok h g1 h1
    obtain ⟨μ2, p2, d2⟩ := toBoxes_ok r l μ1 st1 z _ q p1.rs (vrL_ext p1.ext _ _ g2) h2
    exact ⟨μ2, p1.trans p2, v, q, rfl, d1.ext p2.ext.fz, d2⟩
theorem cloOf_ok {μ : Mu} {a : AV} {f : FuncId} {l : List AV} {v : Value} (h : cloOf a = some (f, l)) (hv : vr μ a v) : ∃ ps, v = .func (.func f) ⟨[]⟩ ⟨ps⟩ ∧ vrL μ l ps := by
  unfold cloOf at h
  split at h
  · cases h
    simp only [vr] at hv
    obtain ⟨xs, ys, rfl, h1, h2⟩ := hv
    rw [vrL_nil.1 h1]
    exact ⟨ys, rfl, h2⟩
  · cases h
def M1A (μ : Mu) : (t : AT) → t.M → Value → Prop
  | .v t, x, v => decV μ.fz t x v
  | .f g, _, v => v = .func (.func g) ⟨[]⟩ ⟨[]⟩
  | .own e, p, v => ∃ lo n, vr μ (.x (.own p.1 p.2 e true lo n)) v
  | .clo g es, x, v => ∃ ps, v = .func (.func g) ⟨[]⟩ ⟨ps⟩ ∧ BoxesIn μ.fz es x ps
def M1As (μ : Mu) : (ts : List AT) → AMs ts → List Value → Prop
  | [], _, vs => vs = []
  | t :: r, x, vs => ∃ v q, vs = v :: q ∧ M1A μ t x.1 v ∧ M1As μ r x.2 q
theorem M1A.ext {μ μ' : Mu} (h : Ext μ μ') : ∀ (t : AT) (x : t.M) (v : Value), M1A μ t x v → M1A μ' t x v
  | .v t, x, v, q => decV_ext h.fz t x v q
  | .f g, _, v, q => q
  | .own e, p, v, ⟨lo, n, q⟩ => ⟨lo, n, vr_ext h _ _ q⟩
  | .clo g es, x, v, ⟨ps, q1, q2⟩ => ⟨ps, q1, q2.ext h.fz⟩
theorem M1As.ext {μ μ' : Mu} (h : Ext μ μ') : ∀ (ts : List AT) (x : AMs ts) (vs : List Value), M1As μ ts x vs → M1As μ' ts x vs
  | [], x, vs, q => q
  | t :: r, x, vs, ⟨v, q, h1, h2, h3⟩ => ⟨v, q, h1, M1A.ext h t x.1 v h2, M1As.ext h r x.2 q h3⟩
theorem ph1As_ok : ∀ (ts : List AT) (l : List AV) (μ : Mu) (st : St) (m : AMs ts) (st' : St) (vs : List Value), RS n0 w0 μ st w → vrL μ l vs → ph1As ts l st = some (m, st') → ∃ μ', Post n0 w0 μ st μ' st' w ∧ M1As μ' ts m vs
  | [], [], μ, st, x, st', vs, h, hv, hs => by cases hs; simp only [vrL] at hv; exact ⟨μ, Post.refl h, hv⟩
  | [], _ :: _, μ, st, x, st', vs, h, hv, hs => by cases hs
  | _ :: _, [], μ, st, x, st', vs, h, hv, hs => by cases hs
  | t :: r, a :: l, μ, st, x, st', vs, h, hv, hs => by
    obtain ⟨y, st1, h1, hs⟩ := obind2_elim (show obind2 (ph1A t a st) _ = some (x, st') from hs)
    obtain ⟨z, st2, h2, hs⟩ := obind2_elim hs
    cases hs
    simp only [vrL] at hv
    obtain ⟨v, q, rfl, g1, g2⟩ := hv
    have key : ∃ μ1, Post n0 w0 μ st μ1 st1 w ∧ M1A μ1 t y v := by
      cases t with
      | v t => exact toVT_ok t a μ st y st1 v h g1 h1
      | f g =>
        obtain ⟨f, h0, h1⟩ := obind_elim (show obind (fnOfA a) (fun f => need (Nat.beq f g) 400 (some ((), st))) = some (y, st1) from h1)
        obtain ⟨hb, h3⟩ := need_some h1
        cases h3
        rw [beq_iff'] at hb
        subst hb
        exact ⟨μ, Post.refl h, fnOfA_ok h0 g1⟩
      | own e => exact ownPh_ok h g1 h1
      | clo g es =>
        obtain ⟨f, l0, h0, h1⟩ := obind2_elim (show obind2 (cloOf a) (fun f l => need (Nat.beq f g) 400 (toBoxes es l st)) = some (y, st1) from h1)
        obtain ⟨hb, h3⟩ := need_some h1
        rw [beq_iff'] at hb
        subst hb
        obtain ⟨ps, rfl, hl⟩ := cloOf_ok h0 g1
        obtain ⟨μ1, p1, d1⟩ := toBoxes_ok es l0 μ st y st1 ps h hl h3
        exact ⟨μ1, p1, ps, rfl, d1⟩
    obtain ⟨μ1, p1, d1⟩ := key
    obtain ⟨μ2, p2, d2⟩ := ph1As_ok r l μ1 st1 z _ q p1.rs (vrL_ext p1.ext _ _ g2) h2
    exact ⟨μ2, p1.trans p2, v, q, rfl, M1A.ext p2.ext t y v d1, d2⟩

/-! ### rows handed over, and back -/
/-- a block that is nobody's -/
def FreeB (n0 : Nat) (μ : Mu) (st : St) (b : Nat) : Prop := n0 ≤ b ∧ μ.fz b = none ∧ μ.kp b = none ∧ (∀ o p ob, μ o = some p → st.heap.get o = some ob → ob.live = true → p.blk ≠ b) ∧
  ∀ o r ro off, μ.own o = some r → st.x.rows.get o = some ro → ro.fr = false → r.at_ = some (b, off) → False
theorem FreeB.new {μ : Mu} {st : St} (h : RS n0 w0 μ st w) {b : Nat} (hb : w.heap.size ≤ b) (hf : μ.fz b = none) : FreeB n0 μ st b := by
  refine ⟨Nat.le_trans h.pos hb, hf, ?_, fun o p ob h1 _ _ e => ?_, fun o r ro off h1 h2 _ h4 => ?_⟩
  · cases q : μ.kp b with
    | none => rfl
    | some ob => have := (Array.getElem?_eq_some_iff.1 (h.x.kph b ob q)).1; omega
  · have := h.blk o p h1; omega
  · obtain ⟨_, _, _, _, _, g⟩ := h.x.row o r ro h1 h2
    obtain ⟨cs, el, fr, g1, _⟩ := g b off h4
    have := (Array.getElem?_eq_some_iff.1 g1).1
    omega
theorem FreeB.row {μ : Mu} {st : St} (h : RS n0 w0 μ st w) {b : Nat} (hb : FreeB n0 μ st b) {o : Nat} {r : RowAt} {ro : RowO} {off : Nat} (h1 : μ.own o = some r) (h2 : st.x.rows.get o = some ro) (h3 : r.at_ = some (b, off)) : False := by
  cases q : ro.fr with
  | false => exact hb.2.2.2.2 o r ro off h1 h2 q h3
  | true =>
    obtain ⟨_, _, _, _, _, g⟩ := h.x.row o r ro h1 h2
    obtain ⟨cs, el, fr, _, _, _, _, g5⟩ := g b off h3
    have := g5 q
    rw [hb.2.1] at this; cases this
theorem RS.takeRow {μ : Mu} {st : St} (h : RS n0 w0 μ st w) {o : Nat} {r : RowAt} {e : ET} {xs : List e.T} {ver : Nat} (hr : μ.own o = some r) (hro : st.x.rows.get o = some ⟨e, xs, ver, false⟩) :
    Post n0 w0 μ st (μ.setOwn o ⟨r.ver + 1, 0, 0, none⟩) (setRow st o ⟨e, lNil e, Nat.succ ver, false⟩) w ∧
      (∀ b, FreeB n0 μ st b → FreeB n0 (μ.setOwn o ⟨r.ver + 1, 0, 0, none⟩) (setRow st o ⟨e, lNil e, Nat.succ ver, false⟩) b) ∧
      (∀ b off, r.at_ = some (b, off) → FreeB n0 (μ.setOwn o ⟨r.ver + 1, 0, 0, none⟩) (setRow st o ⟨e, lNil e, Nat.succ ver, false⟩) b) := by
  have hR := h.x.row o r _ hr hro
  have hlt : o < st.next := by
    rcases Nat.lt_or_ge o st.next with g | g
    · exact g
    · have := h.x.fresh o g; rw [hr] at this; cases this
  have hput := h.putRow (o := o) (bc := w.heap.size) (r' := ⟨r.ver + 1, 0, 0, none⟩) (ro' := ⟨e, lNil e, Nat.succ ver, false⟩) (st' := setRow st o ⟨e, lNil e, Nat.succ ver, false⟩) (w' := w)
    (fun r0 q => by rw [hr] at q; cases q; exact ⟨Nat.le_succ _, fun e => absurd e (by show ¬ r.ver = r.ver + 1; omega)⟩) (setRow_heap _ _ _) (setRow_wmin _ _ _) (by rw [setRow_next]; exact Nat.le_refl _) (by rw [setRow_next]; exact hlt) (setRow_rows _ _ _) h.below (Nat.le_refl _) (fun _ _ _ => rfl) (fun g => absurd g (Nat.lt_irrefl _)) (fun b off q => by cases q)
    ⟨by show r.ver + 1 = Nat.succ ver; rw [hR.1], rfl, Nat.le_refl _, by simp, fun _ => rfl, fun b off q => by cases q⟩
  have hget : ∀ o', (st.x.rows.set o ⟨e, lNil e, Nat.succ ver, false⟩).get o' = if o' = o then some ⟨e, lNil e, Nat.succ ver, false⟩ else st.x.rows.get o' := fun o' => Tr.get_set _ _ _ _
  have rest : ∀ b, n0 ≤ b → μ.fz b = none → μ.kp b = none → (∀ o p ob, μ o = some p → st.heap.get o = some ob → ob.live = true → p.blk ≠ b) → (∀ o' r' ro off, o' ≠ o → μ.own o' = some r' → st.x.rows.get o' = some ro → ro.fr = false → r'.at_ = some (b, off) → False) →
      FreeB n0 (μ.setOwn o ⟨r.ver + 1, 0, 0, none⟩) (setRow st o ⟨e, lNil e, Nat.succ ver, false⟩) b := by
    intro b h1 h2 h3 h4 h5
    refine ⟨h1, h2, h3, fun o' p ob k1 k2 k3 => h4 o' p ob k1 (by rw [setRow_heap] at k2; exact k2) k3, fun o' r' ro off k1 k2 k3 k4 => ?_⟩
    rw [setRow_rows, hget] at k2
    by_cases q : o' = o
    · subst q
      rw [Mu.setOwn_same] at k1
      cases k1; cases k4
    · rw [Mu.setOwn_ne _ _ q] at k1
      rw [if_neg q] at k2
      exact h5 o' r' ro off q k1 k2 k3 k4
  refine ⟨hput, fun b ⟨h1, h2, h3, h4, h5⟩ => rest b h1 h2 h3 h4 fun o' r' ro off _ => h5 o' r' ro off, fun b off hat => ?_⟩
  obtain ⟨g1, g2⟩ := h.x.rown o r _ b off hr hro rfl hat
  exact rest b g1 g2 (h.x.kpr o r _ b off hr hro rfl hat) (fun o' p ob k1 k2 k3 => h.x.rapo o r _ b off o' p ob hr hro rfl hat k1 k2 k3) fun o' r' ro off' hne k1 k2 k3 k4 => h.x.rap o' o r' r ro _ b off' off hne k1 hr k2 hro k3 rfl k4 hat
def RowAtB (μ : Mu) (st : St) (b : Nat) : Prop := ∃ o r ro off, μ.own o = some r ∧ st.x.rows.get o = some ro ∧ ro.fr = false ∧ r.at_ = some (b, off)
/-- the arguments as they are handed over -/
theorem ph2As_ok : ∀ (ts : List AT) (m : AMs ts) (μ : Mu) (st : St) (x : ATs ts) (st' : St) (vs : List Value), RS n0 w0 μ st w → M1As μ ts m vs → ph2As ts m st = some (x, st') →
    ∃ (μ' : Mu) (S : List Nat), Post n0 w0 μ st μ' st' w ∧ μ'.fz = μ.fz ∧ μ'.kp = μ.kp ∧ (∀ b ∈ S, FreeB n0 μ' st' b ∧ RowAtB μ st b) ∧ (∀ b, FreeB n0 μ st b → FreeB n0 μ' st' b) ∧
      ∀ (kp : Nat → Option Obj) (bs : List Nat), (∀ b ∈ S, kp b = none ∧ b ∉ bs) → decAs μ.fz kp w ts x vs bs
  | [], m, μ, st, x, st', vs, h, hm, hs => by cases hs; exact ⟨μ, [], Post.refl h, rfl, rfl, (fun b hb => nomatch hb), (fun b hb => hb), fun kp bs _ => hm⟩
  | t :: r, m, μ, st, x, st', vs, h, hm, hs => by
    obtain ⟨y, st1, h1, hs⟩ := obind2_elim (show obind2 (ph2A t m.1 st) _ = some (x, st') from hs)
    obtain ⟨z, st2, h2, hs⟩ := obind2_elim hs
    cases hs
    obtain ⟨v, q, rfl, g1, g2⟩ := hm
    have still : st1 = st → (∀ kp bs, decA μ.fz kp w t y v bs bs) → ∃ (μ' : Mu) (S : List Nat), Post n0 w0 μ st μ' st' w ∧ μ'.fz = μ.fz ∧ μ'.kp = μ.kp ∧ (∀ b ∈ S, FreeB n0 μ' st' b ∧ RowAtB μ st b) ∧ (∀ b, FreeB n0 μ st b → FreeB n0 μ' st' b) ∧
        ∀ (kp : Nat → Option Obj) (bs : List Nat), (∀ b ∈ S, kp b = none ∧ b ∉ bs) → decAs μ.fz kp w (t :: r) (y, z) (v :: q) bs := by
      intro e hd
      subst e
      obtain ⟨μ', S, p, f1, f2, f3, f4, f5⟩ := ph2As_ok r m.2 μ st1 z _ q h g2 h2
      exact ⟨μ', S, p, f1, f2, f3, f4, fun kp bs hb => ⟨v, q, bs, rfl, hd kp bs, f5 kp bs hb⟩⟩
    cases t with
    | v t => cases h1; exact still rfl fun kp bs => ⟨g1, rfl⟩
    | f g => cases h1; exact still rfl fun kp bs => ⟨g1, rfl⟩
    | clo g es => cases h1; exact still rfl fun kp bs => ⟨g1, rfl⟩
    | own e =>
      obtain ⟨xs, h0, h1⟩ := obind_elim (show obind (ownAt e m.1 st) (fun xs => some (xs, setRow st m.1.1 ⟨e, lNil e, Nat.succ m.1.2, false⟩)) = some (y, st1) from h1)
      cases h1
      have hro := ownAt_ok h0
      obtain ⟨lo, n, hv⟩ := g1
      obtain ⟨ra, hra, hver, ⟨a, c, hform, hnc, hna⟩, hby, hcur⟩ := vr_x.1 hv
      have hR := h.x.row _ ra _ hra hro
      obtain ⟨k1, k2, k3⟩ := hcur hR.1.symm
      obtain ⟨k4, k5⟩ := k3 rfl
      obtain ⟨hpost, hkeep, hfree⟩ := h.takeRow hra hro
      obtain ⟨μ', S, p, f1, f2, f3, f4, f5⟩ := ph2As_ok r m.2 _ _ z _ q hpost.rs (M1As.ext hpost.ext r m.2 q g2) h2
      have hlen : ra.len = List.length y := hR.2.1
      have hval : v = ra.val e.sz 0 (List.length y) := by
        have := k1 (.inl k4)
        rw [k4, k5, hlen] at this
        exact this
      have hold : ∀ b, RowAtB (μ.setOwn m.1.1 ⟨ra.ver + 1, 0, 0, none⟩) (setRow st m.1.1 ⟨e, lNil e, Nat.succ m.1.2, false⟩) b → RowAtB μ st b := by
        rintro b ⟨o, r0, ro, off, q1, q2, q3, q4⟩
        by_cases qq : o = m.1.1
        · subst qq; rw [Mu.setOwn_same] at q1; cases q1; cases q4
        · rw [Mu.setOwn_ne _ _ qq] at q1
          rw [setRow_rows, Tr.get_set, if_neg qq] at q2
          exact ⟨o, r0, ro, off, q1, q2, q3, q4⟩
      refine ⟨μ', rBlk ra ++ S, hpost.trans p, f1, f2, fun b hb => ?_, fun b hb => f4 b (hkeep b hb), fun kp bs hb => ?_⟩
      · rcases List.mem_append.1 hb with hb | hb
        · cases hat : ra.at_ with
          | none => unfold rBlk at hb; rw [hat] at hb; cases hb
          | some ad =>
            unfold rBlk at hb; rw [hat] at hb
            have hb := List.mem_singleton.1 hb
            subst hb
            exact ⟨f4 _ (hfree _ ad.2 hat), _, ra, _, ad.2, hra, hro, rfl, hat⟩
        · exact ⟨(f3 b hb).1, hold b (f3 b hb).2⟩
      · refine ⟨v, q, rBlk ra ++ bs, rfl, ⟨⟨0, ra.len, ra.cap, ra.at_⟩, rfl, hval, ⟨rfl, hR.2.1, hR.2.2.1, hR.2.2.2.1, hR.2.2.2.2.1, hR.2.2.2.2.2⟩, fun b off hat => ?_, rfl⟩, ?_⟩
        · have hmem : b ∈ rBlk ra := by
            have hat : ra.at_ = some (b, off) := hat
            unfold rBlk; rw [hat]; exact List.mem_singleton.2 rfl
          have := hb b (List.mem_append_left _ hmem)
          exact ⟨(hfree b off hat).2.1, this.1, this.2⟩
        · refine f5 kp _ fun b hbS => ⟨(hb b (List.mem_append_right _ hbS)).1, fun hm => ?_⟩
          rcases List.mem_append.1 hm with hm | hm
          · cases hat : ra.at_ with
            | none => unfold rBlk at hm; rw [hat] at hm; cases hm
            | some ad =>
              unfold rBlk at hm; rw [hat] at hm
              have hm := List.mem_singleton.1 hm
              obtain ⟨o, r0, ro, off, q1, q2, q3, q4⟩ := (f3 b hbS).2
              subst hm
              exact (hfree _ ad.2 hat).2.2.2.2 o r0 ro off q1 q2 q3 q4
          · exact (hb b (List.mem_append_right _ hbS)).2 hm
theorem toAs_ok {ts : List AT} {l : List AV} {μ : Mu} {st : St} {x : ATs ts} {st' : St} {vs : List Value} (h : RS n0 w0 μ st w) (hv : vrL μ l vs) (hs : toAs ts l st = some (x, st')) :
    ∃ (μ' : Mu) (S : List Nat), Post n0 w0 μ st μ' st' w ∧ (∀ b ∈ S, FreeB n0 μ' st' b ∧ b < w.heap.size) ∧ ∀ (kp : Nat → Option Obj), (∀ b ∈ S, kp b = none) → decAs μ'.fz kp w ts x vs [] := by
  obtain ⟨m, st1, h1, h2⟩ := obind2_elim hs
  obtain ⟨μ1, p1, d1⟩ := ph1As_ok ts l μ st m st1 vs h hv h1
  obtain ⟨μ2, S, p2, f1, f2, f3, f4, f5⟩ := ph2As_ok ts m μ1 st1 x st' vs p1.rs d1 h2
  refine ⟨μ2, S, p1.trans p2, fun b hb => ⟨(f3 b hb).1, ?_⟩, fun kp hb => by rw [f1]; exact f5 kp [] fun b q => ⟨hb b q, by simp⟩⟩
  obtain ⟨o, r, ro, off, q1, q2, q3, q4⟩ := (f3 b hb).2
  obtain ⟨_, _, _, _, _, g⟩ := p1.rs.x.row o r ro q1 q2
  obtain ⟨cs, el, fr, g1, _⟩ := g b off q4
  exact (Array.getElem?_eq_some_iff.1 g1).1
theorem toRs_ok {ts : List AT} {a : AV} {μ : Mu} {st : St} {x : RTs ts} {st' : St} {v : Value} (h : RS n0 w0 μ st w) (hv : vr μ a v) (hs : toRs ts a st = some (x, st')) :
    ∃ μ' : Mu, Post n0 w0 μ st μ' st' w ∧ decRs μ'.fz μ'.kp w ts x v := by
  match ts, x, hs with
  | [], x, hs =>
    obtain ⟨l, h0, hs⟩ := obind_elim (show obind (tupOf a) (fun l => toAs [] l st) = some (x, st') from hs)
    obtain ⟨xs, rfl, hl⟩ := tupOf_ok h0 hv
    obtain ⟨μ', S, p, hS, d⟩ := toAs_ok h hl hs
    have := d μ'.kp fun b hb => (hS b hb).1.2.2.1
    have this : xs = [] := this
    exact ⟨μ', p, by rw [this]; rfl⟩
  | [t], x, hs =>
    obtain ⟨μ', S, p, hS, d⟩ := toAs_ok (l := [a]) (vs := [v]) h (vrL_cons.2 ⟨hv, vrL_nil.2 rfl⟩) hs
    obtain ⟨v', q, bs', e, d1, _⟩ := d μ'.kp fun b hb => (hS b hb).1.2.2.1
    cases e
    exact ⟨μ', p, bs', d1⟩
  | t :: u :: r, x, hs =>
    obtain ⟨l, h0, hs⟩ := obind_elim (show obind (tupOf a) (fun l => toAs (t :: u :: r) l st) = some (x, st') from hs)
    obtain ⟨xs, rfl, hl⟩ := tupOf_ok h0 hv
    obtain ⟨μ', S, p, hS, d⟩ := toAs_ok h hl hs
    exact ⟨μ', p, xs, rfl, d μ'.kp fun b hb => (hS b hb).1.2.2.1⟩
theorem RS.giveRow {μ : Mu} {st : St} (h : RS n0 w0 μ st w) {r : RowAt} {e : ET} {xs : List e.T} (hv : r.ver = 0) (hR : RowRel μ.fz r ⟨e, xs, 0, false⟩ w.heap) (hF : ∀ b off, r.at_ = some (b, off) → FreeB n0 μ st b) :
    Post n0 w0 μ st (μ.setOwn st.next r) (addRow st ⟨e, xs, 0, false⟩) w ∧ vr (μ.setOwn st.next r) (.x (.own st.next 0 e true lo0 (nLen xs))) (r.val e.sz 0 (List.length xs)) := by
  obtain ⟨f1, f2, f3, f4, f5⟩ := addRow_eq st ⟨e, xs, 0, false⟩
  have hno := h.x.fresh _ (Nat.le_refl st.next)
  have hlen : r.len = List.length xs := hR.2.1
  have put : ∀ bc, (∀ b off, r.at_ = some (b, off) → b = bc) → (bc < w.heap.size → FreeB n0 μ st bc) → Post n0 w0 μ st (μ.setOwn st.next r) (addRow st ⟨e, xs, 0, false⟩) w := fun bc hbc hfr =>
    h.putRow (o := st.next) (bc := bc) (r' := r) (ro' := ⟨e, xs, 0, false⟩) (w' := w) (fun r q => by rw [hno] at q; cases q) f1 f3 (by rw [f2]; omega) (by rw [f2]; omega) f4 h.below (Nat.le_refl _) (fun _ _ _ => rfl)
      (fun g => by obtain ⟨a, b, c, d, e⟩ := hfr g; exact ⟨a, b, c, d, fun o' r1 ro1 off _ => e o' r1 ro1 off⟩) hbc hR
  refine ⟨?_, vr_x.2 ⟨r, Mu.setOwn_same _ _ _, Nat.zero_le _, ⟨_, _, rfl, ?_, ?_⟩, ?_, fun _ => ⟨fun _ => rfl, ?_, fun _ => ⟨rfl, ?_⟩⟩⟩⟩
  · cases hat : r.at_ with
    | none => exact put w.heap.size (fun b off q => by rw [hat] at q; cases q) fun g => absurd g (Nat.lt_irrefl _)
    | some a => exact put a.1 (fun b off q => by rw [hat] at q; cases q; rfl) fun _ => hF a.1 a.2 hat
  · have := hR.2.2.1
    show List.length xs ≤ r.cap - 0
    omega
  · cases hat : r.at_ with
    | none =>
      have := hR.2.2.2.2.1 hat
      have := hR.2.2.1
      exact .inl (by show List.length xs = 0; omega)
    | some a => exact .inr ⟨_, _, rfl⟩
  · have := hR.2.2.2.1
    rw [hlen] at this
    exact this
  · show 0 + List.length xs ≤ r.len
    omega
  · show List.length xs = r.len
    omega
theorem ofBoxes_vr {μ : Mu} : ∀ (es : List ET) (x : ETs es) (vs : List Value), BoxesIn μ.fz es x vs → vrL μ (ofBoxes es x) vs
  | [], _, vs, h => by simp only [ofBoxes, vrL]; exact h
  | e :: r, x, vs, h => by
    obtain ⟨v, q, rfl, ⟨b, off, cs, h1, h2, h3⟩, h4⟩ := h
    simp only [ofBoxes]
    exact vrL_cons.2 ⟨vr_x.2 ⟨b, off, cs, x.1, h1, h2, rfl, h3⟩, ofBoxes_vr r x.2 q h4⟩
/-- what is handed over is there -/
theorem ofA_ok {kp : Nat → Option Obj} {t : AT} {x : t.T} {μ : Mu} {st : St} {v : Value} {bs bs' : List Nat} (h : RS n0 w0 μ st w) (hF : ∀ b, μ.fz b = none → kp b = none → b ∉ bs → FreeB n0 μ st b) (hd : decA μ.fz kp w t x v bs bs') :
    ∃ μ' : Mu, Post n0 w0 μ st μ' (ofA t x st).2 w ∧ μ'.fz = μ.fz ∧ vr μ' (ofA t x st).1 v ∧ ∀ b, μ.fz b = none → kp b = none → b ∉ bs' → FreeB n0 μ' (ofA t x st).2 b := by
  cases t with
  | v t => obtain ⟨d, rfl⟩ := hd; exact ⟨μ, Post.refl h, rfl, ofVT_vr t x v d, hF⟩
  | f g =>
    obtain ⟨rfl, rfl⟩ := hd
    refine ⟨μ, Post.refl h, rfl, ?_, hF⟩
    show vr μ (.fn g [] []) _
    simp only [vr]
    exact ⟨[], [], rfl, vrL_nil.2 rfl, vrL_nil.2 rfl⟩
  | clo g es =>
    obtain ⟨⟨ps, rfl, d⟩, rfl⟩ := hd
    refine ⟨μ, Post.refl h, rfl, ?_, hF⟩
    show vr μ (.fn g [] (ofBoxes es x)) _
    simp only [vr]
    exact ⟨[], ps, rfl, vrL_nil.2 rfl, ofBoxes_vr es x ps d⟩
  | own e =>
    obtain ⟨r, hv, rfl, hR, hB, rfl⟩ := hd
    obtain ⟨p, q⟩ := h.giveRow hv hR fun b off hat => by
      obtain ⟨a1, a2, a3⟩ := hB b off hat
      exact hF b a1 a2 a3
    refine ⟨_, p, rfl, q, fun b h1 h2 h3 => ?_⟩
    obtain ⟨g1, g2, g3, g4, g5⟩ := hF b h1 h2 fun hm => h3 (List.mem_append_right _ hm)
    obtain ⟨f1, f2, f3, f4, f5⟩ := addRow_eq st ⟨e, x, 0, false⟩
    refine ⟨g1, g2, g3, fun o p ob k1 k2 k3 => g4 o p ob k1 (by rw [← f1]; exact k2) k3, fun o r' ro off k1 k2 k3 k4 => ?_⟩
    have k2 : (addRow st ⟨e, x, 0, false⟩).x.rows.get o = some ro := k2
    rw [f4, Tr.get_set] at k2
    by_cases qq : o = st.next
    · subst qq
      rw [Mu.setOwn_same] at k1
      cases k1
      refine h3 (List.mem_append_left _ ?_)
      unfold rBlk; rw [k4]; exact List.mem_singleton.2 rfl
    · rw [Mu.setOwn_ne _ _ qq] at k1
      rw [if_neg qq] at k2
      exact g5 o r' ro off k1 k2 k3 k4
theorem ofAs_ok {kp : Nat → Option Obj} : ∀ (ts : List AT) (x : ATs ts) (μ : Mu) (st : St) (vs : List Value) (bs : List Nat), RS n0 w0 μ st w → (∀ b, μ.fz b = none → kp b = none → b ∉ bs → FreeB n0 μ st b) → decAs μ.fz kp w ts x vs bs →
    ∃ μ' : Mu, Post n0 w0 μ st μ' (ofAs ts x st).2 w ∧ μ'.fz = μ.fz ∧ vrL μ' (ofAs ts x st).1 vs
  | [], x, μ, st, vs, bs, h, hF, hd => ⟨μ, Post.refl h, rfl, vrL_nil.2 hd⟩
  | t :: r, x, μ, st, vs, bs, h, hF, hd => by
    obtain ⟨v, q, bs', rfl, d1, d2⟩ := hd
    obtain ⟨μ1, p1, f1, v1, hF1⟩ := ofA_ok h hF d1
    obtain ⟨μ2, p2, f2, v2⟩ := ofAs_ok r x.2 μ1 (ofA t x.1 st).2 q bs' p1.rs (by rw [f1]; exact hF1) (by rw [f1]; exact d2)
    exact ⟨μ2, p1.trans p2, f2.trans f1, vrL_cons.2 ⟨vr_ext p2.ext _ _ v1, v2⟩⟩
theorem ofRs_ok {kp : Nat → Option Obj} {ts : List AT} {x : RTs ts} {μ : Mu} {st : St} {v : Value} (h : RS n0 w0 μ st w) (hF : ∀ b, μ.fz b = none → kp b = none → FreeB n0 μ st b) (hd : decRs μ.fz kp w ts x v) :
    ∃ μ' : Mu, Post n0 w0 μ st μ' (ofRs ts x st).2 w ∧ vr μ' (ofRs ts x st).1 v := by
  match ts, x, hd with
  | [], x, hd =>
    subst hd
    refine ⟨μ, Post.refl h, ?_⟩
    show vr μ (.tup []) _
    simp only [vr]
    exact ⟨[], rfl, vrL_nil.2 rfl⟩
  | [t], x, ⟨bs, hd⟩ =>
    obtain ⟨μ', p, _, q, _⟩ := ofA_ok h (fun b h1 h2 _ => hF b h1 h2) hd
    exact ⟨μ', p, q⟩
  | t :: u :: r, x, hd0 =>
    obtain ⟨vs, rfl, hd1⟩ := (show ∃ vs : List Value, v = .tuple ⟨vs⟩ ∧ decAs μ.fz kp w (t :: u :: r) x vs [] from hd0)
    obtain ⟨μ', p, _, q⟩ := ofAs_ok (t :: u :: r) x μ st vs [] h (fun b h1 h2 _ => hF b h1 h2) hd1
    refine ⟨μ', p, ?_⟩
    show vr μ' (.tup (ofAs (t :: u :: r) x st).1) _
    simp only [vr]
    exact ⟨vs, rfl, q⟩
end

/-! ### a contract by a run -/
def st0 (orc : List Bool) : St := .mk .e 0 0 ⟨.e, [], orc⟩
def mu0 (fz : Fz) (kp : Nat → Option Obj) : Mu := ⟨fun _ => none, fz, fun _ => none, fz, kp⟩
theorem RS.start {fz : Fz} {kp : Nat → Option Obj} {w : World} (hf : FzIn fz w) (hk : KpIn kp w) (orc : List Bool) : RS 0 w (mu0 fz kp) (st0 orc) w :=
  ⟨fun _ _ => rfl, (fun _ _ h => nomatch h), (fun _ _ _ h => nomatch h), (fun _ _ _ h => nomatch h), (fun _ _ _ _ _ _ _ h => nomatch h),
    ⟨rfl, rfl, rfl, Nat.le_refl _, fun _ h => absurd h (Nat.not_lt_zero _)⟩, Nat.zero_le _, Nat.le_refl _,
    ⟨fun _ _ => rfl, hf, (fun _ _ _ h => nomatch h), (fun _ _ _ h => nomatch h), (fun _ _ _ _ _ h => nomatch h), (fun _ _ _ _ _ _ _ _ _ _ h => nomatch h), (fun _ _ _ _ _ _ _ _ h => nomatch h), (fun _ _ h => .inl h), hk, (fun _ _ _ h => nomatch h), (fun _ _ _ _ _ h => nomatch h), (fun _ _ _ h => nomatch h)⟩⟩

/-- the loops of a function, of which it is told what they do -/
def FnLoops (P : Program) (f : FuncId) (ls : Nat → Option LSpec) : Prop :=
  ∀ fn c, P.funcs[f]? = some fn → fn.body = some c → LoopsOk P true (needs P c (needRes fn.results.toList (Nat.sub (Nat.shiftLeft 1 (Nat.add fn.params.size fn.nfree)) 1))) fn.ntmps ls 0 c
theorem FnLoops.none {P : Program} {f : FuncId} : FnLoops P f noL := fun _ _ _ _ => noL_ok

theorem data_of_run {P : Program} {g : Cfg} {n : Nat} {ls : Nat → Option LSpec} {f : FuncId} {as : List AT} {rs : List AT} {pre : ATs as → Prop} {fn : ATs as → RTs rs} (hg : CfgOk P g) (hl : FnLoops P f ls)
    (hrun : ∀ x, WfAs as x → pre x → ∃ orc r st' st'', evTop P g n ls f (ofAs as x (st0 orc)).1 (ofAs as x (st0 orc)).2 = some (r, st') ∧ AllP st'.x.cs ∧ toRs rs r st' = some (fn x, st'')) : DataOk P f as rs pre fn := by
  intro fz kp w vs x hf hk hp hd
  obtain ⟨orc, r, st', st'', h1, h2, h3⟩ := hrun x (decAs_wf _ _ _ _ hd) hp
  obtain ⟨μ1, p1, e1, v1⟩ := ofAs_ok (kp := kp) as x (mu0 fz kp) (st0 orc) vs [] (RS.start hf hk orc) (fun b h1 h2 _ => ⟨Nat.zero_le _, h1, h2, (fun _ _ _ h => nomatch h), (fun _ _ _ _ h => nomatch h)⟩) hd
  refine (evTop_sound hg (fun cf hc => evDraw_sound hg.mixed hc) h1 h2 hl p1.rs v1).mono fun e w' ⟨v, k1, μ', k2, k3⟩ => ?_
  obtain ⟨μ2, p2, d2⟩ := toRs_ok k2.rs k3 h3
  have hfz : FzExt fz μ'.fz := p1.ext.fz.trans k2.fz
  have hf0 : μ2.f0 = fz := p2.ext.f0.trans (k2.f0.trans p1.ext.f0)
  have hkp : μ2.kp = kp := p2.ext.kp.trans (k2.kp.trans p1.ext.kp)
  refine ⟨v, μ2.fz, k1, p2.rs.below, hfz.trans p2.ext.fz, fun b cs hb => ?_, p2.rs.x.fzh, fun b ob hb => p2.rs.x.kph b ob ?_, ?_⟩
  · have := p2.rs.x.fzn b cs hb
    rw [hf0, hkp] at this
    exact this
  · rw [hkp]; exact hb
  · rw [hkp] at d2; exact d2
end Go.Proofs.Ytkccnomdfkhfnaa.Ev
