import Derived.Test.YtaadcblcpojhhaaGreatDoorEvSplit
import Derived.Test.YtaadcblcpojhhaaGreatDoorEvHook
import Derived.Lib.Overlaps
set_option linter.unusedVariables false
namespace Go.Proofs.YtaadcblcpojhhaaGreatDoor.Ev
open Go.RowKit
section
variable {P : Program} {n0 : Nat} {w0 : World} {μ : Mu} {st st' : St} {w : World}

/-! ## slices.overlaps -/
def OverlapsAt (P : Program) (f : FuncId) : Prop :=
  ∃ t tR el n, (∀ vs w, (callFunc f vs).run P w = ((do pure (.value (← Extern.SlicesOverlaps.overlaps #[t, t] #[tR] vs))) : Sem Next).run P w) ∧ P.underlying t = some (.slice el) ∧ sizeT P el = some n

theorem overlaps_none {t tR el : TypeId} {n : Nat} (h2 : P.underlying t = some (.slice el)) (h3 : sizeT P el = some n) (a b : Option Addr) (la ca lb cb : Nat) (hh : a = none ∨ b = none ∨ la = 0 ∨ lb = 0) (w : World) :
    (Extern.SlicesOverlaps.overlaps #[t, t] #[tR] #[.slice a la ca, .slice b lb cb]).run P w = .ok (.bool false) w := by
  refine (run_bind_ok (s := underlying t) (run_underlying h2 w)).trans ?_
  refine (run_bind_ok (s := sizeOf el) (run_sizeOf h3 w)).trans ?_
  cases a with
  | none => rfl
  | some a =>
    cases b with
    | none => rfl
    | some b =>
      have : la = 0 ∨ lb = 0 ∨ n = 0 := by
        rcases hh with e | e | e | e
        · cases e
        · cases e
        · exact .inl e
        · exact .inr (.inl e)
      simp only [this, if_true]
      rfl

theorem rowOf_sound {x : AV} {v : Value} {o l : Nat} (hs : rowOf x = some (o, l)) (hv : vr μ x v) :
    ∃ b c, v = .slice b l c ∧ (l ≠ 0 → ∃ p off, μ o = some p ∧ b = some ⟨p.blk, off, none⟩ ∧ l ≤ c ∧ off + c * p.esz ≤ p.size) := by
  unfold rowOf at hs
  split at hs
  · cases hs; simp only [vr] at hv; exact ⟨_, _, hv, fun h => absurd rfl h⟩
  · cases hs; simp only [vr] at hv; obtain ⟨p, c, off, _, rfl⟩ := hv; exact ⟨_, _, rfl, fun h => absurd rfl h⟩
  · cases hs; simp only [vr] at hv; obtain ⟨p, c, hp, _, rfl, he, _, _, hl, hr⟩ := hv; exact ⟨_, _, rfl, fun _ => ⟨p, _, hp, rfl, hl, by rw [he]; exact hr⟩⟩
  · cases hs
theorem apartObs_elim {x y : Option AObj} (h : apartObs x y = true) : ∃ c l ea c' l' eb, x = some (.cells c l ea false 0) ∧ y = some (.cells c' l' eb false 0) ∧ 2 ≤ ea ∧ 2 ≤ eb := by
  unfold apartObs at h
  split at h
  · rw [Bool.and_eq_true, ble_iff, ble_iff] at h
    exact ⟨_, _, _, _, _, _, rfl, rfl, h.1, h.2⟩
  · cases h

theorem aOverlaps_sound (h : RS n0 w0 μ st w) {t tR el : TypeId} {n : Nat} (h2 : P.underlying t = some (.slice el)) (h3 : sizeT P el = some n) {args : List AV} {vs : Array Value} {r : AV}
    (hs : aOverlaps st args = some r) (ha : vrL μ args vs.toList) : ∃ v, (Extern.SlicesOverlaps.overlaps #[t, t] #[tR] vs).run P w = .ok v w ∧ vr μ r v := by
  obtain ⟨vs⟩ := vs
  have hfalse : vr μ (.b false) (.bool false) := by simp only [vr]
  unfold aOverlaps at hs
  split at hs
  · obtain ⟨o, la, e1, hs⟩ := obind2_elim hs
    obtain ⟨o', lb, e2, hs⟩ := obind2_elim hs
    obtain ⟨hb, hs⟩ := need_some hs
    cases hs
    simp only [vrL] at ha
    obtain ⟨v1, r1, rfl, g1, v2, r2, rfl, g2, rfl⟩ := ha
    obtain ⟨ba, ca, rfl, ha⟩ := rowOf_sound e1 g1
    obtain ⟨bb, cb, rfl, hbb⟩ := rowOf_sound e2 g2
    refine ⟨.bool false, ?_, hfalse⟩
    by_cases hz : la = 0 ∨ lb = 0
    · exact overlaps_none h2 h3 ba bb la ca lb cb (.inr (.inr hz)) w
    · have hla : la ≠ 0 := fun e => hz (.inl e)
      have hlb : lb ≠ 0 := fun e => hz (.inr e)
      obtain ⟨p, off, hp, rfl, hca, hroomA⟩ := ha hla
      obtain ⟨q, off', hq, rfl, hcb, hroomB⟩ := hbb hlb
      clear ha hbb
      rw [Bool.or_eq_true, Bool.or_eq_true, beq_iff', beq_iff', Bool.and_eq_true, Bool.not_eq_true'] at hb
      rcases hb with (e | e) | ⟨hne, hap⟩
      · exact absurd e hla
      · exact absurd e hlb
      · have hne' : o ≠ o' := fun e => by rw [beq_iff'.2 e] at hne; cases hne
        obtain ⟨c1, l1, ea, c2, l2, eb, o1, o2, k1, k2⟩ := apartObs_elim hap
        have hblk : p.blk ≠ q.blk := fun e => by
          have := h.apart o o' p q _ _ hne' hp hq o1 o2 rfl rfl e
          simp [AObj.twin] at this
        obtain ⟨csA, elA, frA, a1, a2, a3, a4, _⟩ := h.obj o p _ hp o1
        obtain ⟨csB, elB, frB, b1, b2, b3, b4, _⟩ := h.obj o' q _ hq o2
        have hfA := (a4 rfl).2.1 k1
        refine Lib.run_overlaps_apart w t tR el h2 n (fun w => run_sizeOf h3 w) ⟨p.blk, off, none⟩ ⟨q.blk, off', none⟩ la ca lb cb hblk elA elB csA.size csB.size ?_ ?_ ?_ ?_ ?_
        · simp [World.shape?, a1]
        · simp [World.shape?, b1]
        · have hc1 : 1 ≤ cb := by omega
          have h5 : 1 * q.esz ≤ cb * q.esz := Nat.mul_le_mul_right _ hc1
          omega
        · rw [frozen_of a1]; simp; omega
        · rw [frozen_of a1]; simp; omega
  · cases hs

/-! ## strings.Join -/
/-- what is told of strings.Join (the kit's shelf has it) -/
structure JoinAt (P : Program) (f : FuncId) : Prop where
  enter : ∀ vs w, (callFunc f vs).run P w = .ok (.enter f vs) w
  nought : ∀ (a : Option Addr) (c : Nat) (sep : ByteArray) (w : World), Calls P f #[.slice a 0 c, .string sep] w fun e w' => e = .returned (.string ⟨#[]⟩) ∧ w' = w
  more : ∀ (bk o c : Nat) (xs : List ByteArray) (sep : ByteArray) (w : World), (∀ (j : Nat) x, xs[j]? = some x → w.cell? ⟨bk, o + j, none⟩ = some (.string x)) → bk < w.heap.size → xs.length ≤ 140737488355328 → xs.length ≤ c →
    (Lib.join (xs.map (·.data.toList)) sep.data.toList).length ≤ 140737488355328 →
    Calls P f #[.slice (some ⟨bk, o, none⟩) xs.length c, .string sep] w fun e w' => e = .returned (.string ⟨(Lib.join (xs.map (·.data.toList)) sep.data.toList).toArray⟩) ∧ Below w.heap.size w w'

/-- new blocks are none of the run's business -/
theorem RS.beyond (h : RS n0 w0 μ st w) {w' : World} (hb : Below w.heap.size w w') : RS n0 w0 μ st w' where
  fresh := h.fresh
  blk o p hp := Nat.lt_of_lt_of_le (h.blk o p hp) hb.size
  obj o p ob hp ho := ORel_heap (hb.block _ (h.blk o p hp)) (h.obj o p ob hp ho)
  own := h.own
  apart := h.apart
  below := h.below.trans (hb.mono h.pos)
  pos := Nat.le_trans h.pos hb.size
  wle := h.wle
theorem vrL_uncons {μ : Mu} {a : AV} {l : List AV} {vs : List Value} (h : vrL μ (a :: l) vs) : ∃ v r, vs = v :: r ∧ vr μ a v ∧ vrL μ l r := by
  simp only [vrL] at h
  obtain ⟨v, r, h1, h2, h3⟩ := h
  exact ⟨v, r, h1, h2, h3⟩
theorem strs_length : ∀ (l : List AV) (xs : List (List UInt8)), strs l = some xs → xs.length = l.length
  | [], xs, h => by cases h; rfl
  | a :: l, xs, h => by
    cases a <;> try (cases h; done)
    simp only [strs] at h
    split at h
    · rename_i ys hys
      cases h
      simp [strs_length l ys hys]
    · cases h
theorem strs_get : ∀ (l : List AV) (xs : List (List UInt8)), strs l = some xs → ∀ (j : Nat) (a : AV), l[j]? = some a → ∃ n c, a = .s n c ∧ xs[j]? = some (dec n c [])
  | [], xs, h, j, a, hj => by simp at hj
  | b :: l, xs, h, j, a, hj => by
    cases b <;> try (cases h; done)
    rename_i n c
    simp only [strs] at h
    split at h
    · rename_i ys hys
      cases h
      cases j with
      | zero => simp at hj; subst hj; exact ⟨n, c, rfl, rfl⟩
      | succ j => exact strs_get l ys hys j a (by simpa using hj)
    · cases h
theorem strs_sound : ∀ (l : List AV) (xs : List (List UInt8)) (vs : List Value), strs l = some xs → vrL μ l vs → vs = xs.map fun b => Value.string ⟨⟨b⟩⟩
  | [], xs, vs, h, hv => by cases h; simp only [vrL] at hv; rw [hv]; rfl
  | a :: l, xs, vs, h, hv => by
    obtain ⟨v, r, rfl, h1, h2⟩ := vrL_uncons hv
    cases a <;> try (cases h; done)
    rename_i len c
    simp only [strs] at h
    split at h
    · rename_i ys hys
      cases h
      simp only [vr] at h1
      obtain ⟨b, rfl, rfl, rfl⟩ := h1
      rw [strs_sound l ys r hys h2, dec_enc, List.append_nil]
      rfl
    · cases h
theorem aJoin_sound (h : RS n0 w0 μ st w) {f : FuncId} (hj : JoinAt P f) {args : List AV} {vs : Array Value} {r : AV} (hs : aJoin st args = some r) (ha : vrL μ args vs.toList) :
    Calls P f vs w fun e w' => ∃ v, e = .returned v ∧ ∃ μ', Post n0 w0 μ st μ' st w' ∧ vr μ' r v := by
  obtain ⟨vs⟩ := vs
  unfold aJoin at hs
  split at hs
  · rename_i x ls cs
    obtain ⟨v1, r1, e1, g1, hr1⟩ := vrL_uncons ha
    obtain ⟨v2, r2, e2, g2, hr2⟩ := vrL_uncons hr1
    simp only [vrL] at hr2
    subst hr2; subst e2
    have e1 : vs = [v1, v2] := e1
    subst e1
    simp only [vr] at g2
    obtain ⟨sep, rfl, rfl, rfl⟩ := g2
    have empty : ∀ (a : Option Addr) (c : Nat), v1 = .slice a 0 c → r = .s 0 0 → Calls P f ⟨[v1, .string ⟨⟨sep⟩⟩]⟩ w fun e w' => ∃ v, e = .returned v ∧ ∃ μ', Post n0 w0 μ st μ' st w' ∧ vr μ' r v := by
      rintro a c rfl rfl
      refine (hj.nought a c ⟨⟨sep⟩⟩ w).mono fun e w' ⟨h1, h2⟩ => ?_
      subst h2
      refine ⟨_, h1, μ, Post.refl h, ?_⟩
      simp only [vr]
      exact ⟨[], rfl, rfl, rfl⟩
    split at hs
    · simp only [vr] at g1
      cases hs
      exact empty _ _ g1 rfl
    · simp only [vr] at g1
      obtain ⟨p, c, off, _, g1⟩ := g1
      cases hs
      exact empty _ _ g1 rfl
    · rename_i o k len cap kn e
      obtain ⟨he, hs⟩ := need_some hs
      obtain ⟨l, hl, hs⟩ := obind_elim hs
      split at hs
      · rename_i xs hxs
        unfold joinOf at hs
        obtain ⟨hn1, hs⟩ := need_some hs
        obtain ⟨hn2, hs⟩ := need_some hs
        cases hs
        simp only [vr] at g1
        obtain ⟨p, c, hp, hlo, rfl, hesz, hcap, hkn, hlc, hroom⟩ := g1
        rw [dec_enc, List.append_nil] at hn2 ⊢
        rw [Nat.ble_eq] at hn1 hn2
        have hlen : l.length = len := by
          unfold ldCells at hl
          obtain ⟨ob, _, hl⟩ := obind_elim hl
          cases ob with
          | cells cc lim esz ro tw =>
            rcases bsel_some hl with ⟨_, hl⟩ | ⟨_, hl⟩
            · cases hl; rw [rd_length]
            · cases hl
          | map _ _ => cases hl
          | iter _ _ => cases hl
          | dead => cases hl
          | miter m => cases hl
        have hxlen : xs.length = len := by rw [← hlen]; exact strs_length l xs hxs
        have hcell : ∀ (j : Nat) x, (xs.map fun b => (⟨⟨b⟩⟩ : ByteArray))[j]? = some x → w.cell? ⟨p.blk, p.at_ k + j, none⟩ = some (.string x) := by
          intro j x hx
          rw [List.getElem?_map] at hx
          cases hxj : xs[j]? with
          | none => rw [hxj] at hx; cases hx
          | some b =>
            rw [hxj] at hx
            cases hx
            have hjl : j < xs.length := (List.getElem?_eq_some_iff.1 hxj).1
            unfold ldCells at hl
            obtain ⟨ob, hob, hl⟩ := obind_elim hl
            have ho := h.obj o p ob hp hob
            cases ob with
            | cells cc lim esz ro tw =>
              rcases bsel_some hl with ⟨hble, hl⟩ | ⟨_, hl⟩
              · cases hl
                rw [add_eq', ble_iff] at hble
                obtain ⟨cs', el, fr, q1, q2, q3, q4, q5⟩ := ho
                obtain ⟨v, q6, q7⟩ := q5 (k + j) (by omega) (by omega)
                have hat : p.at_ (k + j) = p.at_ k + j := by simp only [Place.at_]; omega
                rw [hat] at q6
                have hstr : vr μ ((cc.get (k + j)).getD .top) v → v = .string ⟨⟨b⟩⟩ := by
                  intro q7
                  have hg : (rd cc k len)[j]? = some ((cc.get (k + j)).getD .top) := by rw [rd_get len cc k j (by omega)]
                  have hs1 := strs_get _ _ hxs j _ hg
                  obtain ⟨l1, c1, z1, z2⟩ := hs1
                  rw [z1] at q7
                  simp only [vr] at q7
                  obtain ⟨b', rfl, rfl, rfl⟩ := q7
                  rw [hxj] at z2
                  cases z2
                  rw [dec_enc, List.append_nil]
                have := hstr q7
                subst this
                unfold World.cell?
                simp [q1, q6]
              · cases hl
            | map _ _ => cases hl
            | iter _ _ => cases hl
            | dead => cases hl
            | miter m => cases hl
        have := hj.more p.blk (p.at_ k) c (xs.map fun b => ⟨⟨b⟩⟩) ⟨⟨sep⟩⟩ w hcell (h.blk o p hp) (by rw [List.length_map]; omega) (by rw [List.length_map]; omega) (by
          rw [List.map_map, show ((fun x : ByteArray => x.data.toList) ∘ fun b => (⟨⟨b⟩⟩ : ByteArray)) = id from rfl, List.map_id]; exact Nat.le_trans hn2 (by decide))
        rw [List.length_map, hxlen, List.map_map, show ((fun x : ByteArray => x.data.toList) ∘ fun b => (⟨⟨b⟩⟩ : ByteArray)) = id from rfl, List.map_id] at this
        refine this.mono fun e w' ⟨h1, h2⟩ => ⟨_, h1, μ, ⟨Ext.refl _, fun _ _ => rfl, h.beyond h2, Nat.le_refl _, rfl, fun _ _ => rfl⟩, ?_⟩
        simp only [vr]
        exact ⟨_, rfl, rfl, rfl⟩
      · cases hs
    · cases hs
  · cases hs

/-! ## calls -/
/-- a function of no argument that answers this, and leaves what there was -/
structure ClosedAt (P : Program) (f : FuncId) (b : Bool) : Prop where
  enter : ∀ vs w, (callFunc f vs).run P w = .ok (.enter f vs) w
  told : ∀ w, Calls P f #[] w fun e w' => e = .returned (.bool b) ∧ Below w.heap.size w w'
/-- a function of which it is told by hand what it does -/
structure SpecOk (P : Program) (f : FuncId) (h : List AV → St → Option (AV × St)) : Prop where
  enter : ∀ vs w, (callFunc f vs).run P w = .ok (.enter f vs) w
  told : ∀ {args : List AV} {st st' : St} {r : AV}, h args st = some (r, st') → ∀ {n0 : Nat} {w0 : World} {μ : Mu} {w : World} {vs : Array Value}, RS n0 w0 μ st w → vrL μ args vs.toList →
    Calls P f vs w fun e w' => ∃ v, e = .returned v ∧ ∃ μ', Post n0 w0 μ st μ' st' w' ∧ vr μ' r v
structure CfgOk (P : Program) (g : Cfg) : Prop where
  ng : ∀ (f : FuncId) (fn : Func) (c : Code), P.funcs[f]? = some fn → fn.body = some c → fn.name ≠ "runtime.NumGoroutine"
  ov : ∀ f, memN f g.overlaps = true → OverlapsAt P f
  ex : ∀ f x, extOf f g.exts = some x → ∀ vs w, (callFunc f vs).run P w = ((do pure (.value (← x vs))) : Sem Next).run P w
  jn : ∀ f, memN f g.joins = true → JoinAt P f
  mixed : P.follows .mixedOrders = true
  cl : ∀ f b, clOf f g.closed = some b → ClosedAt P f b := by intro f b h; cases h
  hk : ∀ h ∈ g.hooks, HookOk P h := by intro h hh; cases hh
  sp : ∀ f h, specOf f g.specs = some h → SpecOk P f h := by intro f h hh; cases hh

theorem toVs4_vr : ∀ (l : List AV) (xs vs : List Value), toVs4 l = some xs → vrL μ l vs → vs = xs
  | [], xs, vs, h, hv => by simp [toVs4] at h; simp only [vrL] at hv; rw [hv, h]
  | a :: l, xs, vs, h, hv => by
    simp only [toVs4] at h
    simp only [vrL] at hv
    obtain ⟨v, r, rfl, h2, h3⟩ := hv
    split at h
    · rename_i y hy
      split at h
      · rename_i ys hys; cases h; rw [toV_vr 4 _ _ _ hy h2, toVs4_vr l ys r hys h3]
      · cases h
    · cases h

theorem run_callFunc_enter {f : FuncId} {fn : Func} {c : Code} (hf : P.funcs[f]? = some fn) (hb : fn.body = some c) (hn : fn.name ≠ "runtime.NumGoroutine") (vs : Array Value) (w : World) : (callFunc f vs).run P w = .ok (.enter f vs) w := by
  have h1 : (fn.name == "runtime.NumGoroutine") = false := by simpa using hn
  simp [callFunc, program, Sem.run, hf, hb, hn]

theorem evExt_sound {g : Cfg} (hg : CfgOk P g) {f : FuncId} {args : List AV} {vs : Array Value} {r : AV} (h : RS n0 w0 μ st w) (hs : evExt P g f args st = some (r, st')) (ha : vrL μ args vs.toList) :
    CallW P f vs w fun v w' => ∃ μ', Post n0 w0 μ st μ' st' w' ∧ vr μ' r v := by
  unfold evExt at hs
  cases hov : memN f g.overlaps with
  | true =>
    rw [hov, cond_true] at hs
    obtain ⟨av, h1, h2⟩ := obind_elim hs
    cases h2
    obtain ⟨t, tR, el, m, e1, e3, e4⟩ := hg.ov f hov
    obtain ⟨v, e5, e6⟩ := aOverlaps_sound (tR := tR) h e3 e4 h1 ha
    exact .inl ⟨v, w, by rw [e1, run_bind_ok e5]; rfl, μ, Post.refl h, e6⟩
  | false =>
    rw [hov, cond_false] at hs
    split at hs
    · rename_i xs hxs
      split at hs
      · rename_i x hx
        split at hs
        · rename_i v hv
          obtain ⟨av, h1, h2⟩ := obind_elim hs
          cases h2
          have := toVs4_vr _ _ _ hxs ha
          obtain ⟨vs⟩ := vs
          dsimp only at this
          subst this
          exact .inl ⟨v, w, by rw [hg.ex f x hx, run_bind_ok (pureRun_ok hv w)]; rfl, μ, Post.refl h, cv_vr _ _ _ h1⟩
        · cases hs
      · split at hs
        · rename_i v hv
          obtain ⟨av, h1, h2⟩ := obind_elim hs
          cases h2
          have := toVs4_vr _ _ _ hxs ha
          obtain ⟨vs⟩ := vs
          dsimp only at this
          subst this
          exact .inl ⟨v, w, pureRun_ok hv w, μ, Post.refl h, cv_vr _ _ _ h1⟩
        · cases hs
    · cases hs

theorem evCall_sound {g : Cfg} (hg : CfgOk P g) (hdr : ∀ cf, CFSound P cf → DrawSound P cf) : ∀ n, CFSound P (evCall P g n)
  | 0 => fun f args st r st' hs => by cases hs
  | n + 1 => fun f args st r st' hs n0 w0 μ w vs h ha => by
    have ih := evCall_sound hg hdr n
    rw [evCall_succ] at hs
    unfold fnK at hs
    cases hjn : memN f g.joins with
    | true =>
      rw [hjn, cond_true] at hs
      obtain ⟨av, h1, h2⟩ := obind_elim (show obind (aJoin st args) (keep st) = some (r, st') from hs)
      cases h2
      exact .inr ⟨(hg.jn f hjn).enter vs w, aJoin_sound h (hg.jn f hjn) h1 ha⟩
    | false =>
    rw [hjn, cond_false] at hs
    cases hf : P.funcs.toList[f]? with
    | none => rw [hf] at hs; cases hs
    | some fn =>
      have hf' : P.funcs[f]? = some fn := by simpa using hf
      rw [hf] at hs
      dsimp only at hs
      cases hb : fn.body with
      | none =>
        rw [hb] at hs
        dsimp only at hs
        exact evExt_sound hg h hs ha
      | some c =>
        rw [hb] at hs
        dsimp only at hs
        have hrun : RunSound P f (evBody P (evCall P g n) g.lf (fnI P g f fn c)) := fun args st r st' hs n0 w0 μ w vs h ha => evBody_sound ih (hdr _ ih) hf' hb h ha hs
        unfold evFn at hs
        rcases bsel_some hs with ⟨_, hs⟩ | ⟨_, hs⟩
        · exact .inr ⟨run_callFunc_enter hf' hb (hg.ng f fn c hf' hb) vs w, evSplit_sound hrun _ _ _ _ hs n0 w0 μ w vs h ha⟩
        · exact .inr ⟨run_callFunc_enter hf' hb (hg.ng f fn c hf' hb) vs w, hrun _ _ _ _ hs n0 w0 μ w vs h ha⟩
end
end Go.Proofs.YtaadcblcpojhhaaGreatDoor.Ev
