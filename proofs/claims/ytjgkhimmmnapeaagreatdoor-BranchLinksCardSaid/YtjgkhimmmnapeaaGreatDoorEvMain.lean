import Derived.Test.YtjgkhimmmnapeaaGreatDoorEvSplit
import Derived.Lib.Overlaps
set_option linter.unusedVariables false
namespace Go.Proofs.YtjgkhimmmnapeaaGreatDoor.Ev
open Go.RowKit
section
variable {P : Program} {n0 : Nat} {w0 : World} {μ : Mu} {st st' : St} {w : World}

/-! ## slices.overlaps -/
def OverlapsAt (P : Program) (f : FuncId) : Prop :=
  ∃ t tR el n, (∀ vs w, (callFunc f vs).run P w = ((do pure (.value (← Extern.SlicesOverlaps.overlaps #[t, t] #[tR] vs))) : Sem Next).run P w) ∧ P.underlying t = some (.slice el) ∧ sizeT P el = some n

theorem overlaps_none {t tR el : TypeId} {n : Nat} (h2 : P.underlying t = some (.slice el)) (h3 : sizeT P el = some n) (a b : Option Addr) (la ca lb cb : Nat) (hh : a = none ∨ b = none ∨ la = 0 ∨ lb = 0) (w : World) :
    (Extern.SlicesOverlaps.overlaps #[t, t] #[tR] #[.slice a la ca, .slice b lb cb]).run P w = .ok (.bool false) w := by
  refine (run_bind_ok (s := underlying t) (run_underlying h2 w)).trans ?_
  refine (run_bind_ok (s := sizeOf el) (run_sizeOf h3 w)).trans ?_
  cases a with
  | none => rfl
  | some a =>
    cases b with
    | none => rfl
    | some b =>
      have : la = 0 ∨ lb = 0 ∨ n = 0 := by
        rcases hh with e | e | e | e
        · cases e
        · cases e
        · exact .inl e
        · exact .inr (.inl e)
      simp only [this, if_true]
      rfl

theorem rowOf_sound {x : AV} {v : Value} {o l : Nat} (hs : rowOf x = some (o, l)) (hv : vr μ x v) :
    ∃ b c, v = .slice b l c ∧ (l ≠ 0 → ∃ p off, μ o = some p ∧ b = some ⟨p.blk, off, none⟩ ∧ l ≤ c ∧ off + c * p.esz ≤ p.size) := by
  unfold rowOf at hs
  split at hs
  · cases hs; simp only [vr] at hv; exact ⟨_, _, hv, fun h => absurd rfl h⟩
  · cases hs; simp only [vr] at hv; obtain ⟨p, c, off, _, rfl⟩ := hv; exact ⟨_, _, rfl, fun h => absurd rfl h⟩
  · cases hs; simp only [vr] at hv; obtain ⟨p, c, hp, _, rfl, he, _, _, hl, hr⟩ := hv; exact ⟨_, _, rfl, fun _ => ⟨p, _, hp, rfl, hl, by rw [he]; exact hr⟩⟩
  · cases hs
theorem apartObs_elim {x y : Option AObj} (h : apartObs x y = true) : ∃ c l ea c' l' eb, x = some (.cells c l ea false 0) ∧ y = some (.cells c' l' eb false 0) ∧ 2 ≤ ea ∧ 2 ≤ eb := by
  unfold apartObs at h
  split at h
  · rw [Bool.and_eq_true, ble_iff, ble_iff] at h
    exact ⟨_, _, _, _, _, _, rfl, rfl, h.1, h.2⟩
  · cases h

theorem aOverlaps_sound (h : RS n0 w0 μ st w) {t tR el : TypeId} {n : Nat} (h2 : P.underlying t = some (.slice el)) (h3 : sizeT P el = some n) {args : List AV} {vs : Array Value} {r : AV}
    (hs : aOverlaps st args = some r) (ha : vrL μ args vs.toList) : ∃ v, (Extern.SlicesOverlaps.overlaps #[t, t] #[tR] vs).run P w = .ok v w ∧ vr μ r v := by
  obtain ⟨vs⟩ := vs
  have hfalse : vr μ (.b false) (.bool false) := by simp only [vr]
  unfold aOverlaps at hs
  split at hs
  · obtain ⟨o, la, e1, hs⟩ := obind2_elim hs
    obtain ⟨o', lb, e2, hs⟩ := obind2_elim hs
    obtain ⟨hb, hs⟩ := need_some hs
    cases hs
    simp only [vrL] at ha
    obtain ⟨v1, r1, rfl, g1, v2, r2, rfl, g2, rfl⟩ := ha
    obtain ⟨ba, ca, rfl, ha⟩ := rowOf_sound e1 g1
    obtain ⟨bb, cb, rfl, hbb⟩ := rowOf_sound e2 g2
    refine ⟨.bool false, ?_, hfalse⟩
    by_cases hz : la = 0 ∨ lb = 0
    · exact overlaps_none h2 h3 ba bb la ca lb cb (.inr (.inr hz)) w
    · have hla : la ≠ 0 := fun e => hz (.inl e)
      have hlb : lb ≠ 0 := fun e => hz (.inr e)
      obtain ⟨p, off, hp, rfl, hca, hroomA⟩ := ha hla
      obtain ⟨q, off', hq, rfl, hcb, hroomB⟩ := hbb hlb
      clear ha hbb
      rw [Bool.or_eq_true, Bool.or_eq_true, beq_iff', beq_iff', Bool.and_eq_true, Bool.not_eq_true'] at hb
      rcases hb with (e | e) | ⟨hne, hap⟩
      · exact absurd e hla
      · exact absurd e hlb
      · have hne' : o ≠ o' := fun e => by rw [beq_iff'.2 e] at hne; cases hne
        obtain ⟨c1, l1, ea, c2, l2, eb, o1, o2, k1, k2⟩ := apartObs_elim hap
        have hblk : p.blk ≠ q.blk := fun e => by
          have := h.apart o o' p q _ _ hne' hp hq o1 o2 rfl rfl e
          simp [AObj.twin] at this
        obtain ⟨csA, elA, frA, a1, a2, a3, a4, _⟩ := h.obj o p _ hp o1
        obtain ⟨csB, elB, frB, b1, b2, b3, b4, _⟩ := h.obj o' q _ hq o2
        have hfA := (a4 rfl).2 k1
        refine Lib.run_overlaps_apart w t tR el h2 n (fun w => run_sizeOf h3 w) ⟨p.blk, off, none⟩ ⟨q.blk, off', none⟩ la ca lb cb hblk elA elB csA.size csB.size ?_ ?_ ?_ ?_ ?_
        · simp [World.shape?, a1]
        · simp [World.shape?, b1]
        · have hc1 : 1 ≤ cb := by omega
          have h5 : 1 * q.esz ≤ cb * q.esz := Nat.mul_le_mul_right _ hc1
          omega
        · rw [frozen_of a1]; simp; omega
        · rw [frozen_of a1]; simp; omega
  · cases hs

/-! ## calls -/
structure CfgOk (P : Program) (g : Cfg) : Prop where
  ng : ∀ (f : FuncId) (fn : Func) (c : Code), P.funcs[f]? = some fn → fn.body = some c → fn.name ≠ "runtime.NumGoroutine"
  ov : ∀ f, memN f g.overlaps = true → OverlapsAt P f
  ex : ∀ f x, extOf f g.exts = some x → ∀ vs w, (callFunc f vs).run P w = ((do pure (.value (← x vs))) : Sem Next).run P w
  mixed : P.follows .mixedOrders = true

theorem toVs4_vr : ∀ (l : List AV) (xs vs : List Value), toVs4 l = some xs → vrL μ l vs → vs = xs
  | [], xs, vs, h, hv => by simp [toVs4] at h; simp only [vrL] at hv; rw [hv, h]
  | a :: l, xs, vs, h, hv => by
    simp only [toVs4] at h
    simp only [vrL] at hv
    obtain ⟨v, r, rfl, h2, h3⟩ := hv
    split at h
    · rename_i y hy
      split at h
      · rename_i ys hys; cases h; rw [toV_vr 4 _ _ _ hy h2, toVs4_vr l ys r hys h3]
      · cases h
    · cases h

theorem run_callFunc_enter {f : FuncId} {fn : Func} {c : Code} (hf : P.funcs[f]? = some fn) (hb : fn.body = some c) (hn : fn.name ≠ "runtime.NumGoroutine") (vs : Array Value) (w : World) : (callFunc f vs).run P w = .ok (.enter f vs) w := by
  have h1 : (fn.name == "runtime.NumGoroutine") = false := by simpa using hn
  simp [callFunc, program, Sem.run, hf, hb, hn]

theorem evExt_sound {g : Cfg} (hg : CfgOk P g) {f : FuncId} {args : List AV} {vs : Array Value} {r : AV} (h : RS n0 w0 μ st w) (hs : evExt P g f args st = some (r, st')) (ha : vrL μ args vs.toList) :
    CallW P f vs w fun v w' => ∃ μ', Post n0 w0 μ st μ' st' w' ∧ vr μ' r v := by
  unfold evExt at hs
  cases hov : memN f g.overlaps with
  | true =>
    rw [hov, cond_true] at hs
    obtain ⟨av, h1, h2⟩ := obind_elim hs
    cases h2
    obtain ⟨t, tR, el, m, e1, e3, e4⟩ := hg.ov f hov
    obtain ⟨v, e5, e6⟩ := aOverlaps_sound (tR := tR) h e3 e4 h1 ha
    exact .inl ⟨v, w, by rw [e1, run_bind_ok e5]; rfl, μ, Post.refl h, e6⟩
  | false =>
    rw [hov, cond_false] at hs
    split at hs
    · rename_i xs hxs
      split at hs
      · rename_i x hx
        split at hs
        · rename_i v hv
          obtain ⟨av, h1, h2⟩ := obind_elim hs
          cases h2
          have := toVs4_vr _ _ _ hxs ha
          obtain ⟨vs⟩ := vs
          dsimp only at this
          subst this
          exact .inl ⟨v, w, by rw [hg.ex f x hx, run_bind_ok (pureRun_ok hv w)]; rfl, μ, Post.refl h, cv_vr _ _ _ h1⟩
        · cases hs
      · split at hs
        · rename_i v hv
          obtain ⟨av, h1, h2⟩ := obind_elim hs
          cases h2
          have := toVs4_vr _ _ _ hxs ha
          obtain ⟨vs⟩ := vs
          dsimp only at this
          subst this
          exact .inl ⟨v, w, pureRun_ok hv w, μ, Post.refl h, cv_vr _ _ _ h1⟩
        · cases hs
    · cases hs

theorem evCall_sound {g : Cfg} (hg : CfgOk P g) (hdr : ∀ cf, CFSound P cf → DrawSound P cf) : ∀ n, CFSound P (evCall P g n)
  | 0 => fun f args st r st' hs => by cases hs
  | n + 1 => fun f args st r st' hs n0 w0 μ w vs h ha => by
    have ih := evCall_sound hg hdr n
    rw [evCall_succ] at hs
    unfold fnK at hs
    cases hf : P.funcs.toList[f]? with
    | none => rw [hf] at hs; cases hs
    | some fn =>
      have hf' : P.funcs[f]? = some fn := by simpa using hf
      rw [hf] at hs
      dsimp only at hs
      cases hb : fn.body with
      | none =>
        rw [hb] at hs
        dsimp only at hs
        exact evExt_sound hg h hs ha
      | some c =>
        rw [hb] at hs
        dsimp only at hs
        have hrun : RunSound P f (evBody P (evCall P g n) g.lf (fnI P g f fn c)) := fun args st r st' hs n0 w0 μ w vs h ha => evBody_sound ih (hdr _ ih) hf' hb h ha hs
        unfold evFn at hs
        rcases bsel_some hs with ⟨_, hs⟩ | ⟨_, hs⟩
        · exact .inr ⟨run_callFunc_enter hf' hb (hg.ng f fn c hf' hb) vs w, evSplit_sound hrun _ _ _ _ hs n0 w0 μ w vs h ha⟩
        · exact .inr ⟨run_callFunc_enter hf' hb (hg.ng f fn c hf' hb) vs w, hrun _ _ _ _ hs n0 w0 μ w vs h ha⟩
end
end Go.Proofs.YtjgkhimmmnapeaaGreatDoor.Ev
