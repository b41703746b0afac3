/- What functions of the program compute, written down; read off their code. -/
import Derived.Test.YtkccnomdfkhfnaaEvSpec
set_option linter.unusedSimpArgs false
set_option linter.unusedVariables false
namespace Go.Proofs.Ytkccnomdfkhfnaa.Ev
open Go.RowKit

/-! ## the state at a loop's head as data -/
inductive SK where
  | v (t : VT)
  | own (e : ET)
  | val (a : AV)
  | clo (f : FuncId) (es : List ET)
def SK.T : SK → Type
  | .v t => t.T
  | .own e => List e.T
  | .val _ => Unit
  | .clo _ es => ETs es
def KsT : List SK → Type
  | [] => Unit
  | k :: r => k.T × KsT r
/-- how far a slot's value is told at first -/
def SK.M : SK → Type
  | .v t => t.T
  | .own _ => Nat × Nat
  | .val _ => Unit
  | .clo _ es => ETs es
def KsM : List SK → Type
  | [] => Unit
  | k :: r => k.M × KsM r
noncomputable section
def ph1 : (k : SK) → AV → St → Option (k.M × St)
  | .v t, a, st => toVT t a st
  | .own e, a, st => ownPh e a st
  | .val b, a, st => need (veq 8 a b) 412 (some ((), st))
  | .clo g es, a, st => obind2 (cloOf a) fun f l => need (Nat.beq f g) 400 (toBoxes es l st)
def ph1s : (ks : List SK) → List AV → St → Option (KsM ks × St)
  | [], [], st => some ((), st)
  | k :: r, a :: l, st => obind2 (ph1 k a st) fun x st1 => obind2 (ph1s r l st1) fun y st2 => some ((x, y), st2)
  | _, _, _ => none
def ph2 : (k : SK) → k.M → St → Option k.T
  | .v _, x, _ => some x
  | .own e, p, st => ownAt e p st
  | .val _, _, _ => some ()
  | .clo _ _, x, _ => some x
def ph2s : (ks : List SK) → KsM ks → St → Option (KsT ks)
  | [], _, _ => some ()
  | k :: r, x, st => obind (ph2 k x.1 st) fun a => obind (ph2s r x.2 st) fun b => some (a, b)
def osK : (k : SK) → k.M → List Nat
  | .v _, _ => []
  | .own _, p => [p.1]
  | .val _, _ => []
  | .clo _ _, _ => []
def osKs : (ks : List SK) → KsM ks → List Nat
  | [], _ => []
  | k :: r, x => osK k x.1 ++ osKs r x.2
/-- its value again -/
def bk : (k : SK) → k.T → Nat → AV
  | .v t, x, _ => ofVT t x
  | .own e, xs, j => .x (.own j 0 e true lo0 (nLen (xs : List e.T)))
  | .val a, _, _ => a
  | .clo g es, x, _ => .fn g [] (ofBoxes es x)
def bnx : SK → Nat → Nat
  | .own _, j => Nat.succ j
  | _, j => j
def bnxs : List SK → Nat → Nat
  | [], j => j
  | k :: r, j => bnxs r (bnx k j)
def bks : (ks : List SK) → KsT ks → Nat → List AV
  | [], _, _ => []
  | k :: r, x, j => bk k x.1 j :: bks r x.2 (bnx k j)
def brow : (k : SK) → k.T → Nat → Tr RowO → Tr RowO
  | .v _, _, _, t => t
  | .own e, xs, j, t => t.set j ⟨e, xs, 0, false⟩
  | .val _, _, _, t => t
  | .clo _ _, _, _, t => t
def brows : (ks : List SK) → KsT ks → Nat → Tr RowO → Tr RowO
  | [], _, _, t => t
  | k :: r, x, j, t => brows r x.2 (bnx k j) (brow k x.1 j t)

/-- objects: their number, the cells of an element, their cells -/
structure Shape where
  slots : List (Nat × SK)
  objs : List (Nat × Nat × List SK)
  base : Nat
def objKs : List (Nat × Nat × List SK) → List SK
  | [] => []
  | o :: r => o.2.2 ++ objKs r
def Shape.ks (s : Shape) : List SK := s.slots.map (·.2) ++ objKs s.objs
def Shape.T (s : Shape) : Type := KsT s.ks
def getSlots (tm : Tr AV) : List (Nat × SK) → Option (List AV)
  | [] => some []
  | p :: r => obind (tm.get p.1) fun a => obind (getSlots tm r) fun l => some (a :: l)
def getObjs (st : St) (base : Nat) : List (Nat × Nat × List SK) → Option (List AV)
  | [] => some []
  | p :: r => match st.heap.get p.1 with
    | some (.cells c lim esz false 0) => need (Nat.beq lim p.2.2.length && Nat.beq esz p.2.1 && Nat.blt p.1 base && Nat.ble st.wmin p.1) 415 (obind (getObjs st base r) fun l => some (rd c 0 lim ++ l))
    | _ => bad 416
/-- a value that names these objects alone -/
def memL : Nat → List Nat → Bool
  | _, [] => false
  | a, b :: r => Nat.beq a b || memL a r
mutual
def valOk : Nat → List Nat → AV → Bool
  | 0, _, _ => false
  | n + 1, os, a => match a with
    | .b _ | .i _ _ | .s _ _ | .nilp | .nils | .nilm | .nilf | .nili => true
    | .ptr o _ => memL o os
    | .fn _ l m => valOkL n os l && valOkL n os m
    | _ => false
def valOkL : Nat → List Nat → List AV → Bool
  | _, _, [] => true
  | 0, _, _ => false
  | n + 1, os, a :: r => valOk n os a && valOkL n os r
end
def valsOk (os : List Nat) : List SK → Bool
  | [] => true
  | .val a :: r => valOk 9 os a && valsOk os r
  | _ :: r => valsOk os r
/-- does a slot hold the object's address? -/
def hasPtr (o : Nat) : List (Nat × SK) → Bool
  | [] => false
  | (_, .val (.ptr o' 0)) :: r => Nat.beq o o' || hasPtr o r
  | _ :: r => hasPtr o r
def hasPtrs (sl : List (Nat × SK)) : List (Nat × Nat × List SK) → Bool
  | [] => true
  | p :: r => hasPtr p.1 sl && hasPtrs sl r
def uniq (sl : List (Nat × SK)) : Bool := distN (sl.map (·.1))
/-- are the objects still there, as they were? -/
def objsOk (st : St) : List (Nat × Nat × List SK) → Bool
  | [] => true
  | p :: r => (match st.heap.get p.1 with | some (.cells _ _ _ false 0) => true | _ => false) && objsOk st r
def Shape.norm (s : Shape) (tm : Tr AV) (st : St) : Option s.T :=
  obind (getSlots tm s.slots) fun a => obind (getObjs st s.base s.objs) fun b => obind2 (ph1s s.ks (a ++ b) st) fun m st1 =>
    need (objsOk st1 s.objs && distN (osKs s.ks m) && distN (s.objs.map (·.1)) && valsOk (s.objs.map (·.1)) s.ks && hasPtrs s.slots s.objs && uniq s.slots) 417 (ph2s s.ks m st1)
def setSlots : List (Nat × SK) → List AV → Tr AV → Tr AV
  | p :: r, a :: l, t => setSlots r l (t.set p.1 a)
  | _, _, t => t
def setObjs : List (Nat × Nat × List SK) → List AV → Tr AObj → Tr AObj
  | [], _, t => t
  | p :: r, l, t => setObjs r (l.drop p.2.2.length) (t.set p.1 (.cells (wr .e 0 (l.take p.2.2.length)) p.2.2.length p.2.1 false 0))
def Shape.avs (s : Shape) (x : s.T) : List AV := bks s.ks x s.base
def Shape.tm (s : Shape) (x : s.T) : Tr AV := setSlots s.slots (s.avs x) .e
def Shape.st (s : Shape) (x : s.T) (cs : List Prop) (orc : List Bool) : St :=
  .mk (setObjs s.objs ((s.avs x).drop s.slots.length) .e) (bnxs s.ks s.base) 0 ⟨brows s.ks x s.base .e, cs, orc⟩
end

/-! ## the normal form is so -/
section
variable {n0 : Nat} {w0 w : World}
/-- what is told at first -/
def M1 (μ : Mu) : (k : SK) → k.M → Value → Prop
  | .v t, x, v => decV μ.fz t x v
  | .own e, p, v => ∃ lo n, vr μ (.x (.own p.1 p.2 e true lo n)) v
  | .val a, _, v => vr μ a v
  | .clo g es, x, v => ∃ ps, v = .func (.func g) ⟨[]⟩ ⟨ps⟩ ∧ BoxesIn μ.fz es x ps
def M1s (μ : Mu) : (ks : List SK) → KsM ks → List Value → Prop
  | [], _, vs => vs = []
  | k :: r, x, vs => ∃ v q, vs = v :: q ∧ M1 μ k x.1 v ∧ M1s μ r x.2 q
theorem M1.ext {μ μ' : Mu} (h : Ext μ μ') : ∀ (k : SK) (x : k.M) (v : Value), M1 μ k x v → M1 μ' k x v
  | .v t, x, v, q => decV_ext h.fz t x v q
  | .own e, p, v, ⟨lo, n, q⟩ => ⟨lo, n, vr_ext h _ _ q⟩
  | .val a, _, v, q => vr_ext h _ _ q
  | .clo g es, x, v, ⟨ps, q1, q2⟩ => ⟨ps, q1, q2.ext h.fz⟩
theorem M1s.ext {μ μ' : Mu} (h : Ext μ μ') : ∀ (ks : List SK) (x : KsM ks) (vs : List Value), M1s μ ks x vs → M1s μ' ks x vs
  | [], x, vs, q => q
  | k :: r, x, vs, ⟨v, q, h1, h2, h3⟩ => ⟨v, q, h1, M1.ext h k x.1 v h2, M1s.ext h r x.2 q h3⟩

theorem ph1s_ok : ∀ (ks : List SK) (l : List AV) (μ : Mu) (st : St) (m : KsM ks) (st' : St) (vs : List Value), RS n0 w0 μ st w → vrL μ l vs → ph1s ks l st = some (m, st') → ∃ μ', Post n0 w0 μ st μ' st' w ∧ M1s μ' ks m vs
  | [], [], μ, st, x, st', vs, h, hv, hs => by cases hs; simp only [vrL] at hv; exact ⟨μ, Post.refl h, hv⟩
  | [], _ :: _, μ, st, x, st', vs, h, hv, hs => by cases hs
  | _ :: _, [], μ, st, x, st', vs, h, hv, hs => by cases hs
  | k :: r, a :: l, μ, st, x, st', vs, h, hv, hs => by
    simp only [ph1s] at hs
    obtain ⟨y, st1, h1, hs⟩ := obind2_elim hs
    obtain ⟨z, st2, h2, hs⟩ := obind2_elim hs
    cases hs
    simp only [vrL] at hv
    obtain ⟨v, q, rfl, g1, g2⟩ := hv
    have key : ∃ μ1, Post n0 w0 μ st μ1 st1 w ∧ M1 μ1 k y v := by
      cases k with
      | v t => exact toVT_ok t a μ st y st1 v h g1 h1
      | own e => exact ownPh_ok h g1 h1
      | val b =>
        obtain ⟨hb, h3⟩ := need_some (show need (veq 8 a b) 412 (some ((), st)) = some (y, st1) from h1)
        cases h3
        have := veq_eq _ _ _ hb
        subst this
        exact ⟨μ, Post.refl h, g1⟩
      | clo g es =>
        obtain ⟨f, l0, h0, h1⟩ := obind2_elim (show obind2 (cloOf a) (fun f l => need (Nat.beq f g) 400 (toBoxes es l st)) = some (y, st1) from h1)
        obtain ⟨hb, h3⟩ := need_some h1
        rw [beq_iff'] at hb
        subst hb
        obtain ⟨ps, rfl, hl⟩ := cloOf_ok h0 g1
        obtain ⟨μ1, p1, d1⟩ := toBoxes_ok es l0 μ st y st1 ps h hl h3
        exact ⟨μ1, p1, ps, rfl, d1⟩
    obtain ⟨μ1, p1, d1⟩ := key
    obtain ⟨μ2, p2, d2⟩ := ph1s_ok r l μ1 st1 z _ q p1.rs (vrL_ext p1.ext _ _ g2) h2
    exact ⟨μ2, p1.trans p2, v, q, rfl, M1.ext p2.ext k y v d1, d2⟩

theorem memL_mem {a : Nat} : ∀ {l : List Nat}, memL a l = true ↔ a ∈ l
  | [] => by simp [memL]
  | b :: r => by simp only [memL, Bool.or_eq_true, beq_iff', memL_mem, List.mem_cons]
mutual
theorem valOk_vr {μ μ' : Mu} {os : List Nat} (h : ∀ o ∈ os, μ' o = μ o) : ∀ (n : Nat) (a : AV) (v : Value), valOk n os a = true → vr μ a v → vr μ' a v
  | 0, a, v, e, _ => by cases e
  | n + 1, a, v, e, hv => by
    cases a <;> simp only [valOk] at e <;> try (cases e; done)
    case ptr o k =>
      simp only [vr] at hv ⊢
      obtain ⟨p, h1, h2⟩ := hv
      exact ⟨p, by rw [h o (memL_mem.1 e)]; exact h1, h2⟩
    case fn f l m =>
      rw [Bool.and_eq_true] at e
      simp only [vr] at hv ⊢
      obtain ⟨xs, ys, h1, h2, h3⟩ := hv
      exact ⟨xs, ys, h1, valOkL_vr h n l xs e.1 h2, valOkL_vr h n m ys e.2 h3⟩
    all_goals (simp only [vr] at hv ⊢; exact hv)
theorem valOkL_vr {μ μ' : Mu} {os : List Nat} (h : ∀ o ∈ os, μ' o = μ o) : ∀ (n : Nat) (l : List AV) (vs : List Value), valOkL n os l = true → vrL μ l vs → vrL μ' l vs
  | n, [], vs, e, hv => by simp only [vrL] at hv ⊢; exact hv
  | 0, a :: r, vs, e, hv => by cases e
  | n + 1, a :: r, vs, e, hv => by
    simp only [valOkL, Bool.and_eq_true] at e
    simp only [vrL] at hv
    obtain ⟨v, q, rfl, h1, h2⟩ := hv
    exact vrL_cons.2 ⟨valOk_vr h n a v e.1 h1, valOkL_vr h n r q e.2 h2⟩
end

def RowAt.reset (r : RowAt) : RowAt := { r with ver := 0 }
def RowO.reset (r : RowO) : RowO := ⟨r.e, r.xs, 0, false⟩
/-- the rows of one's own, in their order -/
theorem brows_get {st : St} : ∀ (ks : List SK) (m : KsM ks) (x : KsT ks) (j : Nat) (t : Tr RowO), ph2s ks m st = some x → ∀ i,
    (brows ks x j t).get i = if j ≤ i ∧ i < j + (osKs ks m).length then ((osKs ks m)[i - j]?).bind fun o => (st.x.rows.get o).map RowO.reset else t.get i
  | [], m, x, j, t, h, i => by simp [brows, osKs]; intro h1 h2; omega
  | k :: r, m, x, j, t, h, i => by
    obtain ⟨ma, mb⟩ := m
    simp only [ph2s] at h
    obtain ⟨a, h1, h⟩ := obind_elim h
    obtain ⟨b, h2, h⟩ := obind_elim h
    cases h
    simp only [brows, osKs]
    rw [brows_get r mb b _ _ h2 i]
    cases k with
    | v t' => rfl
    | val a' => rfl
    | clo g es => rfl
    | own e =>
      have hrow := ownAt_ok (show ownAt e ma st = some a from h1)
      show (if Nat.succ j ≤ i ∧ i < Nat.succ j + (osKs r mb).length then ((osKs r mb)[i - Nat.succ j]?).bind fun o => (st.x.rows.get o).map RowO.reset else (t.set j ⟨e, a, 0, false⟩).get i) =
        if j ≤ i ∧ i < j + ((osKs r mb).length + 1) then ((ma.1 :: osKs r mb)[i - j]?).bind fun o => (st.x.rows.get o).map RowO.reset else t.get i
      by_cases h3 : Nat.succ j ≤ i ∧ i < Nat.succ j + (osKs r mb).length
      · rw [if_pos h3, if_pos (by omega), show i - j = (i - Nat.succ j) + 1 from by omega, List.getElem?_cons_succ]
      · rw [if_neg h3, Tr.get_set]
        by_cases h4 : i = j
        · subst h4
          rw [if_pos rfl, if_pos (by omega), Nat.sub_self, List.getElem?_cons_zero]
          show _ = (st.x.rows.get ma.1).map RowO.reset
          rw [hrow]; rfl
        · rw [if_neg h4, if_neg (by omega)]
theorem ph2s_own {st : St} : ∀ (ks : List SK) (m : KsM ks) (x : KsT ks), ph2s ks m st = some x → ∀ o ∈ osKs ks m, ∃ ro, st.x.rows.get o = some ro ∧ ro.fr = false
  | [], m, x, h, o, ho => by simp [osKs] at ho
  | k :: r, m, x, h, o, ho => by
    simp only [ph2s] at h
    obtain ⟨a, h1, h⟩ := obind_elim h
    obtain ⟨b, h2, h⟩ := obind_elim h
    simp only [osKs, List.mem_append] at ho
    rcases ho with ho | ho
    · cases k with
      | v t => simp [osK] at ho
      | val a' => simp [osK] at ho
      | clo g es => simp [osK] at ho
      | own e =>
        simp only [osK, List.mem_singleton] at ho
        subst ho
        exact ⟨_, ownAt_ok (show ownAt e m.1 st = some a from h1), rfl⟩
    · exact ph2s_own r m.2 b h2 o ho
theorem bnxs_eq {st : St} : ∀ (ks : List SK) (m : KsM ks) (j : Nat), bnxs ks j = j + (osKs ks m).length
  | [], m, j => by simp [bnxs, osKs]
  | k :: r, m, j => by
    simp only [bnxs, osKs, List.length_append]
    rw [bnxs_eq (st := st) r m.2]
    cases k <;> simp [bnx, osK] <;> omega
theorem bks_len : ∀ (ks : List SK) (x : KsT ks) (j : Nat), (bks ks x j).length = ks.length
  | [], x, j => rfl
  | k :: r, x, j => by simp only [bks, List.length_cons, bks_len r]

/-- the values are what is laid anew -/
theorem bks_vr {μ μ' : Mu} {st : St} {os : List Nat} (h : RS n0 w0 μ st w) (hfz : μ'.fz = μ.fz) (hos : ∀ o ∈ os, μ' o = μ o) : ∀ (ks : List SK) (m : KsM ks) (x : KsT ks) (j : Nat) (vs : List Value), ph2s ks m st = some x → M1s μ ks m vs → valsOk os ks = true →
    (∀ (t o : Nat), (osKs ks m)[t]? = some o → μ'.own (j + t) = (μ.own o).map RowAt.reset) → vrL μ' (bks ks x j) vs
  | [], m, x, j, vs, h2, hM, hv, ho => by simp only [bks, vrL]; exact hM
  | k :: r, m, x, j, vs, h2, hM, hv, ho => by
    simp only [ph2s] at h2
    obtain ⟨a, q1, h2⟩ := obind_elim h2
    obtain ⟨b, q2, h2⟩ := obind_elim h2
    cases h2
    obtain ⟨v, q, rfl, m1, m2⟩ := hM
    simp only [bks]
    refine vrL_cons.2 ⟨?_, bks_vr h hfz hos r m.2 b _ q q2 m2 (by cases k <;> simp only [valsOk, Bool.and_eq_true] at hv <;> first | exact hv | exact hv.2) fun t o e => ?_⟩
    · cases k with
      | v t =>
        cases q1
        exact ofVT_vr t _ v (by rw [hfz]; exact m1)
      | val a' =>
        simp only [valsOk, Bool.and_eq_true] at hv
        exact valOk_vr hos _ a' v hv.1 m1
      | clo g es =>
        cases q1
        obtain ⟨ps, rfl, m1⟩ := m1
        show vr μ' (.fn g [] (ofBoxes es _)) _
        simp only [vr]
        exact ⟨[], ps, rfl, vrL_nil.2 rfl, ofBoxes_vr es _ ps (by rw [hfz]; exact m1)⟩
      | own e =>
        have hrow := ownAt_ok (show ownAt e m.1 st = some a from q1)
        obtain ⟨lo, n, m1⟩ := m1
        obtain ⟨r', k1, k2, k3, k4, k5⟩ := vr_x.1 m1
        obtain ⟨a1, a2, a3, a4, a5, a6⟩ := h.x.row _ _ _ k1 hrow
        obtain ⟨z1, z2, z3⟩ := k5 a1.symm
        obtain ⟨z4, z5⟩ := z3 rfl
        subst z4
        have hown := ho 0 m.1.1 (by simp [osKs, osK])
        rw [Nat.add_zero, k1] at hown
        have hval := z1 (.inl rfl)
        have hlen : nLen (a : List e.T) = r'.len := by rw [a2]; rfl
        refine vr_x.2 ⟨r'.reset, hown, Nat.le_refl _, ?_, by rw [hlen, ← z5]; exact k4, fun _ => ⟨fun _ => ?_, by rw [hlen]; show 0 + _ ≤ _; rw [Nat.zero_add]; exact Nat.le_refl _, fun _ => ⟨rfl, hlen⟩⟩⟩
        · rw [hlen, ← z5]; exact k3
        · rw [hlen, ← z5, hval]; rfl
    · cases k with
      | v t' => exact ho t o (by simpa [osKs, osK] using e)
      | val a' => exact ho t o (by simpa [osKs, osK] using e)
      | clo g es => exact ho t o (by simpa [osKs, osK] using e)
      | own e' =>
        have := ho (t + 1) o (by simpa [osKs, osK] using e)
        simp only [bnx]
        rw [show Nat.succ j + t = j + (t + 1) from by omega]; exact this

/-! ### slots and objects -/
theorem getSlots_ok {X nt : Nat} {μ : Mu} {tm : Tr AV} {tmps : Array Value} (ht : TmRel X nt μ tm tmps) : ∀ (sl : List (Nat × SK)) (a : List AV), getSlots tm sl = some a → vrL μ a (sl.map fun p => tmps.getD p.1 undef) ∧ ∀ p ∈ sl, bit X p.1 = true
  | [], a, h => by cases h; exact ⟨vrL_nil.2 rfl, fun p hp => by cases hp⟩
  | p :: r, a, h => by
    simp only [getSlots] at h
    obtain ⟨b, h1, h⟩ := obind_elim h
    obtain ⟨l, h2, h⟩ := obind_elim h
    cases h
    obtain ⟨g1, g2⟩ := getSlots_ok ht r l h2
    obtain ⟨k1, k2⟩ := ht.rel p.1 b h1
    refine ⟨vrL_cons.2 ⟨k2, g1⟩, fun q hq => ?_⟩
    rcases List.mem_cons.1 hq with e | e
    · subst e; exact k1
    · exact g2 q e
theorem setSlots_get : ∀ (sl : List (Nat × SK)) (l : List AV) (tm : Tr AV) (t : Nat) (av : AV), (setSlots sl l tm).get t = some av → (∃ (i : Nat) (p : Nat × SK), sl[i]? = some p ∧ p.1 = t ∧ l[i]? = some av) ∨ tm.get t = some av
  | [], l, tm, t, av, h => .inr h
  | _ :: _, [], tm, t, av, h => .inr h
  | p :: r, a :: l, tm, t, av, h => by
    rcases setSlots_get r l (tm.set p.1 a) t av h with ⟨i, q, h1, h2, h3⟩ | h1
    · exact .inl ⟨i + 1, q, by simpa using h1, h2, by simpa using h3⟩
    · rw [Tr.get_set] at h1
      split at h1
      · rename_i e; cases h1; exact .inl ⟨0, p, rfl, e.symm, rfl⟩
      · exact .inr h1

/-- what lies in the memory of objects -/
def ObjsRel (μ : Mu) (w : World) : List (Nat × Nat × List SK) → List Value → Prop
  | [], vs => vs = []
  | p :: r, vs => ∃ a b q cs el fr, vs = a ++ b ∧ a.length = p.2.2.length ∧ μ p.1 = some q ∧ w.heap[q.blk]? = some (.cells cs el fr) ∧ cs.size = q.size ∧ p.2.1 = q.esz ∧ noFrz q.esz cs.size fr ∧
      (∀ (k : Nat) v, a[k]? = some v → cs[q.at_ k]? = some v) ∧ ObjsRel μ w r b
theorem hasPtr_lo {μ : Mu} {o : Nat} : ∀ (sl : List (Nat × SK)) (a : List AV) (vs : List Value), hasPtr o sl = true → (∀ (i : Nat) (p : Nat × SK) (v : Value), sl[i]? = some p → vs[i]? = some v → ∀ b, p.2 = .val b → vr μ b v) → vs.length = sl.length → ∃ q, μ o = some q ∧ q.lo = 0
  | [], a, vs, h, _, _ => by cases h
  | (t, k) :: r, a, vs, h, hv, hl => by
    have key : hasPtr o r = true → ∃ q, μ o = some q ∧ q.lo = 0 := fun h' => by
      cases vs with
      | nil => simp at hl
      | cons v vs => exact hasPtr_lo r a vs h' (fun i p u h1 h2 => hv (i + 1) p u (by simpa using h1) (by simpa using h2)) (by simpa using hl)
    cases k with
    | v t => exact key h
    | own e => exact key h
    | clo g es => exact key h
    | val b =>
      unfold hasPtr at h
      split at h
      · cases h
      · rename_i o' q he
        cases he
        rw [Bool.or_eq_true, beq_iff'] at h
        rcases h with h | h
        · subst h
          cases vs with
          | nil => simp at hl
          | cons v vs =>
            have := hv 0 _ v rfl rfl _ rfl
            simp only [vr] at this
            obtain ⟨q, h1, h2, _⟩ := this
            exact ⟨q, h1, by omega⟩
        · exact key h
      · rename_i he
        cases he
        exact key h
theorem getObjs_ok {μ : Mu} {st : St} (h : RS n0 w0 μ st w) {base : Nat} : ∀ (os : List (Nat × Nat × List SK)) (b : List AV), getObjs st base os = some b → (∀ p ∈ os, ∃ q, μ p.1 = some q ∧ q.lo = 0) →
    (∃ vs, vrL μ b vs ∧ ObjsRel μ w os vs) ∧ ∀ p ∈ os, p.1 < base ∧ st.wmin ≤ p.1
  | [], b, hs, _ => by cases hs; exact ⟨⟨[], vrL_nil.2 rfl, rfl⟩, fun p hp => by cases hp⟩
  | p :: r, b, hs, hp => by
    simp only [getObjs] at hs
    split at hs
    · rename_i c lim esz hob
      obtain ⟨hb, h1⟩ := need_some hs
      obtain ⟨l, h2, h3⟩ := obind_elim h1
      cases h3
      rw [Bool.and_eq_true, Bool.and_eq_true, Bool.and_eq_true, beq_iff', beq_iff', blt_iff, ble_iff] at hb
      obtain ⟨⟨⟨e1, e2⟩, e3⟩, e4⟩ := hb
      obtain ⟨⟨vs, g1, g2⟩, g3⟩ := getObjs_ok h r l h2 fun q hq => hp q (List.mem_cons_of_mem _ hq)
      obtain ⟨q, q1, q2⟩ := hp p List.mem_cons_self
      obtain ⟨cs, el, fr, va, m1, m2, m3, m4, m5, m6⟩ := h.rdCells (k := 0) (n := lim) q1 hob (by omega) (by omega)
      obtain ⟨cs', el', fr', z1, z2, z3, z4, _⟩ := h.obj _ _ _ q1 hob
      rw [m1] at z1; cases z1
      have hat : ∀ k, q.at_ 0 + k = q.at_ k := fun k => by rw [← q.at_add (by omega)]; simp
      refine ⟨⟨va ++ vs, vrL_app _ _ _ _ m5 g1, va, vs, q, cs, el, fr, rfl, by rw [vrL_length _ _ m5, rd_length, e1], q1, m1, m2, e2.symm.trans m3, m3 ▸ (z4 rfl), fun k v hk => by rw [← hat]; exact m6 k v hk, g2⟩, fun p' hp' => ?_⟩
      rcases List.mem_cons.1 hp' with e | e
      · subst e; exact ⟨e3, e4⟩
      · exact g3 p' e
    · cases hs
theorem setObjs_get {μ μ' : Mu} : ∀ (os : List (Nat × Nat × List SK)) (l : List AV) (vs : List Value) (t : Tr AObj), ObjsRel μ w os vs → vrL μ' l vs → ∀ o ob, (setObjs os l t).get o = some ob →
    t.get o = some ob ∨ ∃ q p, p ∈ os ∧ p.1 = o ∧ μ o = some q ∧ ORel μ' q ob w.heap ∧ ob.free = true ∧ ob.twin = 0
  | [], l, vs, t, hr, hv, o, ob, h => .inl h
  | p :: r, l, vs, t, hr, hv, o, ob, h => by
    obtain ⟨a, b, q, cs, el, fr, rfl, h1, h2, h3, h4, h5, h6, h7, h8⟩ := hr
    have hb : vrL μ' (l.drop p.2.2.length) b := by
      have := vrL_drop p.2.2.length _ _ hv
      rw [← h1] at this ⊢
      rw [List.drop_left' rfl] at this
      exact this
    have ha : vrL μ' (l.take p.2.2.length) a := by
      have := vrL_take p.2.2.length _ _ hv
      rw [← h1] at this ⊢
      rw [List.take_left' rfl] at this
      exact this
    rcases setObjs_get r _ b _ h8 hb o ob h with g | ⟨q', p', g1, g2⟩
    · rw [Tr.get_set] at g
      split at g
      · rename_i e
        cases g
        refine .inr ⟨q, p, List.mem_cons_self, e.symm, by rw [e]; exact h2, ⟨cs, el, fr, h3, h4, h5, fun _ => h5 ▸ h6, fun k _ hk => ?_⟩, rfl, rfl⟩
        have hlen : (l.take p.2.2.length).length = p.2.2.length := by rw [← vrL_length _ _ ha, h1]
        obtain ⟨v, v1, v2⟩ := vrL_get _ _ ha k _ (List.getElem?_eq_getElem (by rw [hlen]; exact hk))
        refine ⟨v, h7 k v v1, ?_⟩
        rw [wr_get, if_pos ⟨Nat.zero_le _, by rw [hlen]; omega⟩, Nat.sub_zero, List.getElem?_eq_getElem (by rw [hlen]; exact hk)]
        exact v2
      · exact .inl g
    · exact .inr ⟨q', p', List.mem_cons_of_mem _ g1, g2⟩
theorem objsOk_get {st : St} : ∀ (os : List (Nat × Nat × List SK)), objsOk st os = true → ∀ p ∈ os, ∃ c lim esz, st.heap.get p.1 = some (.cells c lim esz false 0)
  | [], _, p, hp => by cases hp
  | x :: r, h, p, hp => by
    simp only [objsOk, Bool.and_eq_true] at h
    rcases List.mem_cons.1 hp with e | e
    · subst e
      have h1 := h.1
      split at h1
      · rename_i c lim esz hob; exact ⟨_, _, _, hob⟩
      · cases h1
    · exact objsOk_get r h.2 p e
theorem ph1s_val : ∀ (ks : List SK) (l : List AV) (st : St) (m : KsM ks) (st' : St), ph1s ks l st = some (m, st') → l.length = ks.length ∧ ∀ (i : Nat) (b : AV), ks[i]? = some (.val b) → l[i]? = some b
  | [], [], st, m, st', h => ⟨rfl, fun i b hi => by simp at hi⟩
  | [], _ :: _, st, m, st', h => by cases h
  | _ :: _, [], st, m, st', h => by cases h
  | k :: r, a :: l, st, m, st', h => by
    simp only [ph1s] at h
    obtain ⟨y, st1, h1, h⟩ := obind2_elim h
    obtain ⟨z, st2, h2, h⟩ := obind2_elim h
    obtain ⟨g1, g2⟩ := ph1s_val r l st1 z st2 h2
    refine ⟨by rw [List.length_cons, List.length_cons, g1], fun i b hi => ?_⟩
    cases i with
    | zero =>
      simp at hi
      subst hi
      obtain ⟨hb, _⟩ := need_some (show need (veq 8 a b) 412 (some ((), st)) = some (y, st1) from h1)
      rw [veq_eq _ _ _ hb]; rfl
    | succ i => simpa using g2 i b (by simpa using hi)

theorem Shape.norm_ok {X nt : Nat} {μ : Mu} {st : St} {tm : Tr AV} {tmps : Array Value} (s : Shape) {x : s.T} (h : RS n0 w0 μ st w) (ht : TmRel X nt μ tm tmps) (hs : s.norm tm st = some x) (cs : List Prop) (orc : List Bool) :
    ∃ μ', RS n0 w0 μ' (s.st x cs orc) w ∧ TmRel X nt μ' (s.tm x) tmps ∧ FzExt μ.fz μ'.fz ∧ μ'.f0 = μ.f0 ∧ μ'.kp = μ.kp := by
  unfold Shape.norm at hs
  obtain ⟨a, ha, hs⟩ := obind_elim hs
  obtain ⟨b, hb, hs⟩ := obind_elim hs
  obtain ⟨m, st1, hm, hs⟩ := obind2_elim hs
  obtain ⟨hchk, hx⟩ := need_some hs
  simp only [Bool.and_eq_true] at hchk
  obtain ⟨⟨⟨⟨⟨c1, c2⟩, c3⟩, c4⟩, c5⟩, c6⟩ := hchk
  obtain ⟨va, vX⟩ := getSlots_ok ht _ _ ha
  obtain ⟨pl, pv⟩ := ph1s_val _ _ _ _ _ hm
  have hal : a.length = s.slots.length := by rw [← vrL_length _ _ va]; simp
  -- the objects' addresses
  have hptr : ∀ p ∈ s.objs, ∃ q, μ p.1 = some q ∧ q.lo = 0 := fun p hp => by
    have key : ∀ (os : List (Nat × Nat × List SK)), hasPtrs s.slots os = true → ∀ p ∈ os, hasPtr p.1 s.slots = true := by
      intro os
      induction os with
      | nil => intro _ p hp; cases hp
      | cons o r ih =>
        intro h p hp
        simp only [hasPtrs, Bool.and_eq_true] at h
        rcases List.mem_cons.1 hp with e | e
        · subst e; exact h.1
        · exact ih h.2 p e
    refine hasPtr_lo s.slots a (s.slots.map fun p => tmps.getD p.1 undef) (key _ c5 p hp) (fun i q v hi hv bb hbb => ?_) (by simp)
    have hk : s.ks[i]? = some (.val bb) := by
      unfold Shape.ks
      rw [List.getElem?_append_left (by have := (List.getElem?_eq_some_iff.1 hi).1; simpa using this), List.getElem?_map, hi]
      simp [hbb]
    have hl := pv i bb hk
    rw [List.getElem?_append_left (by rw [hal]; exact (List.getElem?_eq_some_iff.1 hi).1)] at hl
    obtain ⟨v', g1, g2⟩ := vrL_get _ _ va i bb hl
    rw [hv] at g1; cases g1; exact g2
  obtain ⟨⟨vb, vb1, vb2⟩, hos⟩ := getObjs_ok h _ _ hb hptr
  obtain ⟨μ1, p1, hM⟩ := ph1s_ok s.ks (a ++ b) μ st m st1 _ h (vrL_app _ _ _ _ va vb1) hm
  -- the places anew
  let os := s.objs.map (·.1)
  let own : Nat → Option RowAt := fun k => if s.base ≤ k then ((osKs s.ks m)[k - s.base]?).bind fun o => (μ1.own o).map RowAt.reset else none
  let μ' : Mu := ⟨fun o => if o ∈ os then μ1 o else none, μ1.fz, own, μ1.f0, μ1.kp⟩
  have hpl : ∀ o ∈ os, μ' o = μ1 o := fun o ho => if_pos ho
  have hpl' : ∀ o p, μ' o = some p → o ∈ os ∧ μ1 o = some p := fun o p e => by
    have e : (if o ∈ os then μ1 o else none) = some p := e
    split at e
    · exact ⟨by assumption, e⟩
    · cases e
  have hown : ∀ (t o : Nat), (osKs s.ks m)[t]? = some o → μ'.own (s.base + t) = (μ1.own o).map RowAt.reset := fun t o e => by
    show (if s.base ≤ s.base + t then _ else none) = _
    rw [if_pos (by omega), Nat.add_sub_cancel_left, e]; rfl
  have hown' : ∀ k r, μ'.own k = some r → s.base ≤ k ∧ ∃ o r0, (osKs s.ks m)[k - s.base]? = some o ∧ μ1.own o = some r0 ∧ r = r0.reset := fun k r e => by
    have e : (if s.base ≤ k then ((osKs s.ks m)[k - s.base]?).bind fun o => (μ1.own o).map RowAt.reset else none) = some r := e
    split at e
    · rename_i hk
      cases q : (osKs s.ks m)[k - s.base]? with
      | none => rw [q] at e; cases e
      | some o =>
        rw [q] at e
        cases q2 : μ1.own o with
        | none => simp [q2] at e
        | some r0 => simp [q2] at e; exact ⟨hk, o, r0, rfl, q2, e.symm⟩
    · cases e
  have hvals := bks_vr (μ' := μ') p1.rs rfl hpl s.ks m x s.base _ hx hM c4 hown
  have hrows := brows_get (st := st1) s.ks m x s.base .e hx
  have hrows' : ∀ k ro, (brows s.ks x s.base .e).get k = some ro → ∃ o ro0, (osKs s.ks m)[k - s.base]? = some o ∧ st1.x.rows.get o = some ro0 ∧ ro0.fr = false ∧ ro = ro0.reset := fun k ro e => by
    rw [hrows] at e
    split at e
    · cases q : (osKs s.ks m)[k - s.base]? with
      | none => rw [q] at e; cases e
      | some o =>
        rw [q] at e
        obtain ⟨ro0, g1, g2⟩ := ph2s_own _ _ _ hx o (List.mem_of_getElem? q)
        simp [g1] at e
        exact ⟨o, ro0, rfl, g1, g2, e.symm⟩
    · rw [Tr.get_e] at e; cases e
  have hdist : ∀ (i j o : Nat), (osKs s.ks m)[i]? = some o → (osKs s.ks m)[j]? = some o → i = j := fun i j o h1 h2 => by
    have hn := distN_nodup c2
    obtain ⟨l1, e1⟩ := List.getElem?_eq_some_iff.1 h1
    obtain ⟨l2, e2⟩ := List.getElem?_eq_some_iff.1 h2
    exact (List.getElem_inj hn).1 (e1.trans e2.symm)
  -- the objects
  have hob1 : ∀ p ∈ s.objs, ∃ c lim esz, st1.heap.get p.1 = some (.cells c lim esz false 0) := objsOk_get _ c1
  have hrel1 : ObjsRel μ1 w s.objs vb := by
    have key : ∀ (os : List (Nat × Nat × List SK)) (vs : List Value), ObjsRel μ w os vs → ObjsRel μ1 w os vs := by
      intro os
      induction os with
      | nil => intro vs h; exact h
      | cons o r ih =>
        rintro vs ⟨a, b, q, cs, el, fr, h0, h1, h2, h3⟩
        obtain ⟨k1, k2, k3, k4, k5, k6⟩ := h3
        exact ⟨a, b, q, cs, el, fr, h0, h1, p1.ext _ _ h2, k1, k2, k3, k4, k5, ih _ k6⟩
    exact key _ _ vb2
  have hvl : vrL μ' ((s.avs x).drop s.slots.length) vb := by
    have := vrL_drop s.slots.length _ _ hvals
    rw [List.drop_left' (by simp)] at this
    exact this
  have hva : vrL μ' ((s.avs x).take s.slots.length) (s.slots.map fun p => tmps.getD p.1 undef) := by
    have := vrL_take s.slots.length _ _ hvals
    rw [List.take_left' (by simp)] at this
    exact this
  have hheap : ∀ o ob, (setObjs s.objs ((s.avs x).drop s.slots.length) .e).get o = some ob → ∃ q, o ∈ os ∧ μ1 o = some q ∧ ORel μ' q ob w.heap ∧ ob.free = true ∧ ob.twin = 0 := fun o ob e => by
    rcases setObjs_get s.objs _ vb .e hrel1 hvl o ob e with g | ⟨q, p, g1, g2, g3, g4⟩
    · rw [Tr.get_e] at g; cases g
    · exact ⟨q, List.mem_map.2 ⟨p, g1, g2⟩, g3, g4⟩
  have hlive : ∀ o ∈ os, ∃ c lim esz, st1.heap.get o = some (.cells c lim esz false 0) := fun o ho => by
    obtain ⟨p, hp, rfl⟩ := List.mem_map.1 ho
    exact hob1 p hp
  have hnx : bnxs s.ks s.base = s.base + (osKs s.ks m).length := bnxs_eq (st := st1) _ _ _
  have hosb : ∀ o ∈ os, o < s.base := fun o ho => by
    obtain ⟨p, hp, rfl⟩ := List.mem_map.1 ho
    exact (hos p hp).1
  refine ⟨μ', ⟨fun o ho => ?_, fun o p e => ?_, fun o p ob e1 e2 => ?_, fun o p ob e1 e2 e3 => ?_, fun o o' p p' ob ob' hne e1 e1' e2 e2' e3 e3' he => ?_, p1.rs.below, p1.rs.pos, Nat.zero_le _,
    ⟨fun o ho => ?_, p1.rs.x.fzh, fun o p ob e1 e2 e3 => ?_, fun o r ro e1 e2 => ?_, fun o r ro bb off e1 e2 e3 e4 => ?_, fun o o' r r' ro ro' bb off off' hne e1 e1' e2 e2' e3 e3' e4 e4' => ?_, fun o r ro bb off o' p ob e1 e2 e3 e4 e5 e6 e7 => ?_, p1.rs.x.fzn, p1.rs.x.kph, fun o p ob e1 e2 e3 => ?_, fun o r ro bb off e1 e2 e3 e4 => ?_, fun o p ob e1 e2 e3 e4 => ?_⟩⟩, ⟨ht.size, fun t av e => ?_⟩, p1.ext.fz, p1.ext.f0, p1.ext.kp⟩
  · show (if o ∈ os then μ1 o else none) = none
    rw [if_neg]
    intro hc
    have := hosb o hc
    have ho : bnxs s.ks s.base ≤ o := ho
    omega
  · exact p1.rs.blk o p (hpl' o p e).2
  · obtain ⟨q, g1, g2, g3, g4⟩ := hheap o ob e2
    have := (hpl' o p e1).2
    rw [g2] at this; cases this
    exact g3
  · obtain ⟨g1, g2⟩ := hpl' o p e1
    obtain ⟨c, lim, esz, g3⟩ := hlive o g1
    exact p1.rs.own o p _ g2 g3 rfl
  · obtain ⟨g1, g2⟩ := hpl' o p e1
    obtain ⟨g1', g2'⟩ := hpl' o' p' e1'
    obtain ⟨c, lim, esz, g3⟩ := hlive o g1
    obtain ⟨c', lim', esz', g3'⟩ := hlive o' g1'
    have := p1.rs.apart o o' p p' _ _ hne g2 g2' g3 g3' rfl rfl he
    simp [AObj.twin] at this
  · show own o = none
    have ho : bnxs s.ks s.base ≤ o := ho
    show (if s.base ≤ o then _ else none) = none
    rw [if_pos (by omega), List.getElem?_eq_none (by omega)]; rfl
  · obtain ⟨g1, g2⟩ := hpl' o p e1
    obtain ⟨c, lim, esz, g3⟩ := hlive o g1
    exact p1.rs.x.fzo o p _ g2 g3 rfl
  · obtain ⟨_, a1, r0, k1, k2, rfl⟩ := hown' o r e1
    obtain ⟨a2, ro0, k3, k4, k5, rfl⟩ := hrows' o ro e2
    rw [k1] at k3; cases k3
    obtain ⟨z1, z2, z3, z4, z5, z6⟩ := p1.rs.x.row a1 r0 ro0 k2 k4
    refine ⟨rfl, z2, z3, z4, z5, fun bb off hb => ?_⟩
    obtain ⟨cs', el, fr, y1, y2, y3, y4, y5⟩ := z6 bb off hb
    exact ⟨cs', el, fr, y1, y2, y3, fun _ => y4 k5, fun q => by cases q⟩
  · obtain ⟨_, a1, r0, k1, k2, rfl⟩ := hown' o r e1
    obtain ⟨a2, ro0, k3, k4, k5, rfl⟩ := hrows' o ro e2
    rw [k1] at k3; cases k3
    exact p1.rs.x.rown a1 r0 ro0 bb off k2 k4 k5 e4
  · obtain ⟨b1, a1, r0, k1, k2, rfl⟩ := hown' o r e1
    obtain ⟨a2, ro0, k3, k4, k5, rfl⟩ := hrows' o ro e2
    rw [k1] at k3; cases k3
    obtain ⟨b1', a1', r0', k1', k2', rfl⟩ := hown' o' r' e1'
    obtain ⟨a2', ro0', k3', k4', k5', rfl⟩ := hrows' o' ro' e2'
    rw [k1'] at k3'; cases k3'
    have hne' : a1 ≠ a1' := fun q => by
      subst q
      have := hdist _ _ _ k1 k1'
      omega
    exact p1.rs.x.rap a1 a1' r0 r0' ro0 ro0' bb off off' hne' k2 k2' k4 k4' k5 k5' e4 e4'
  · obtain ⟨_, a1, r0, k1, k2, rfl⟩ := hown' o r e1
    obtain ⟨a2, ro0, k3, k4, k5, rfl⟩ := hrows' o ro e2
    rw [k1] at k3; cases k3
    obtain ⟨g1, g2⟩ := hpl' o' p e5
    obtain ⟨c, lim, esz, g3⟩ := hlive o' g1
    exact p1.rs.x.rapo a1 r0 ro0 bb off o' p _ k2 k4 k5 e4 g2 g3 rfl
  · obtain ⟨g1, g2⟩ := hpl' o p e1
    obtain ⟨c, lim, esz, g3⟩ := hlive o g1
    exact p1.rs.x.kpo o p _ g2 g3 rfl
  · obtain ⟨_, a1, r0, k1, k2, rfl⟩ := hown' o r e1
    obtain ⟨a2, ro0, k3, k4, k5, rfl⟩ := hrows' o ro e2
    rw [k1] at k3; cases k3
    exact p1.rs.x.kpr a1 r0 ro0 bb off k2 k4 k5 e4
  · obtain ⟨q, g1, g2, g3, g4, g5⟩ := hheap o ob e2
    rw [e4] at g4; cases g4
  · rcases setSlots_get s.slots (s.avs x) .e t av e with ⟨i, p, g1, g2, g3⟩ | g
    · subst g2
      have hi := (List.getElem?_eq_some_iff.1 g1).1
      refine ⟨vX p (List.mem_of_getElem? g1), ?_⟩
      obtain ⟨v, k1, k2⟩ := vrL_get _ _ hva i av (by rw [List.getElem?_take, if_pos hi]; exact g3)
      rw [List.getElem?_map, g1] at k1
      cases k1
      exact k2
    · rw [Tr.get_e] at g; cases g
end
end Go.Proofs.Ytkccnomdfkhfnaa.Ev
