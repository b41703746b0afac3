/- What functions of the program compute, written down; read off their code. -/
import Derived.Test.YtkccnomdfkhfnaaEvBody
set_option linter.unusedSimpArgs false
set_option linter.unusedVariables false
namespace Go.Proofs.Ytkccnomdfkhfnaa.Ev
open Go.RowKit
section
variable {P : Program} {n0 : Nat} {w0 : World} {μ : Mu} {st st' : St} {w : World}

/-- new blocks are none of the run's business -/
theorem RS.beyond (h : RS n0 w0 μ st w) {w' : World} (hb : Below w.heap.size w w') : RS n0 w0 μ st w' where
  fresh := h.fresh
  blk o p hp := Nat.lt_of_lt_of_le (h.blk o p hp) hb.size
  obj o p ob hp ho := ORel_heap (hb.block _ (h.blk o p hp)) (h.obj o p ob hp ho)
  own := h.own
  apart := h.apart
  below := h.below.trans (hb.mono h.pos)
  pos := Nat.le_trans h.pos hb.size
  wle := h.wle
  x := h.x.move rfl (Nat.le_refl _) (fun b hlt _ => hb.block b hlt) fun o p ob h1 h2 h3 => .inr ⟨o, p, ob, h1, h2, h3, rfl, rfl⟩

/-! ## calls -/
/-- a function of which it is told what it does -/
structure SpecOk (P : Program) (f : FuncId) (h : FSpec) : Prop where
  enter : ∀ vs w, (callFunc f vs).run P w = .ok (.enter f vs) w
  grow : ∀ args st, XP (h args st) st
  told : ∀ {args : List AV} {st st' : St} {r : AV}, h args st = some (r, st') → AllP st'.x.cs → ∀ {n0 : Nat} {w0 : World} {μ : Mu} {w : World} {vs : Array Value}, RS n0 w0 μ st w → vrL μ args vs.toList →
    Calls P f vs w fun e w' => ∃ v, e = .returned v ∧ ∃ μ', Post n0 w0 μ st μ' st' w' ∧ vr μ' r v
structure CfgOk (P : Program) (g : Cfg) : Prop where
  ng : ∀ (f : FuncId) (fn : Func) (c : Code), P.funcs[f]? = some fn → fn.body = some c → fn.name ≠ "runtime.NumGoroutine"
  mixed : P.follows .mixedOrders = true
  sp : ∀ f h, specOf f g.specs = some h → SpecOk P f h := by intro f h hh; cases hh

theorem run_callFunc_enter {f : FuncId} {fn : Func} {c : Code} (hf : P.funcs[f]? = some fn) (hb : fn.body = some c) (hn : fn.name ≠ "runtime.NumGoroutine") (vs : Array Value) (w : World) : (callFunc f vs).run P w = .ok (.enter f vs) w := by
  have h1 : (fn.name == "runtime.NumGoroutine") = false := by simpa using hn
  simp [callFunc, program, Sem.run, hf, hb, hn]

theorem fnOf_go {f : FuncId} {F : FnI} (h : fnOf P f = .go F) : ∃ fn c, P.funcs[f]? = some fn ∧ fn.body = some c ∧ F = fnI P fn c := by
  unfold fnOf at h
  cases hf : P.funcs.toList[f]? with
  | none => rw [hf] at h; cases h
  | some fn =>
    rw [hf] at h
    dsimp only at h
    cases hb : fn.body with
    | none => rw [hb] at h; cases h
    | some c => rw [hb] at h; cases h; exact ⟨fn, c, by simpa using hf, hb, rfl⟩

theorem evCall_sound {g : Cfg} (hg : CfgOk P g) (hdr : ∀ cf, CFSound P cf → DrawSound P cf) : ∀ n, CFSound P (evCall P g n)
  | 0 => ⟨fun f args st r st' hs => (by cases hs), fun f args st r st' hs => (by cases hs)⟩
  | n + 1 => by
    have ih := evCall_sound hg hdr n
    have hd := hdr _ ih
    refine ⟨fun f args st r st' hs => ?_, fun f args st r st' hs hC n0 w0 μ w vs h ha => ?_⟩
    · rw [evCall_succ] at hs
      unfold fnK at hs
      cases hsp : specOf f g.specs with
      | some q => rw [hsp] at hs; exact (hg.sp f q hsp).grow _ _ _ _ hs
      | none =>
        rw [hsp] at hs
        dsimp only at hs
        cases hk : fnOf P f with
        | none => rw [hk] at hs; cases hs
        | sp q =>
          unfold fnOf at hk
          split at hk
          · split at hk <;> cases hk
          · cases hk
        | go F => rw [hk] at hs; exact evBody_gr (X := 0) ih.grow (fun _ _ _ _ _ => hd.grow _ _ _ _ _) (fun _ _ e => by cases e) _ _ hs
    · rw [evCall_succ] at hs
      unfold fnK at hs
      cases hsp : specOf f g.specs with
      | some q => rw [hsp] at hs; exact .inr ⟨(hg.sp f q hsp).enter vs w, (hg.sp f q hsp).told hs hC h ha⟩
      | none =>
        rw [hsp] at hs
        dsimp only at hs
        cases hk : fnOf P f with
        | none => rw [hk] at hs; cases hs
        | sp q =>
          unfold fnOf at hk
          split at hk
          · split at hk <;> cases hk
          · cases hk
        | go F =>
          rw [hk] at hs
          obtain ⟨fn, c, hf, hb, rfl⟩ := fnOf_go hk
          refine .inr ⟨run_callFunc_enter hf hb (hg.ng f fn c hf hb) vs w, (evBody_sound (L := false) ih hd hf hb h ha noL_ok hs hC).mono fun e w' ⟨v, h1, μ', h2, h3⟩ => ⟨v, h1, μ', h2.full rfl, h3⟩⟩

/-- the function's own body, with what is told of its loops -/
theorem evTop_sound {g : Cfg} (hg : CfgOk P g) (hdr : ∀ cf, CFSound P cf → DrawSound P cf) {n : Nat} {ls : Nat → Option LSpec} {f : FuncId} {args : List AV} {r : AV} (hs : evTop P g n ls f args st = some (r, st')) (hC : AllP st'.x.cs)
    (hl : ∀ fn c, P.funcs[f]? = some fn → fn.body = some c → LoopsOk P true (needs P c (needRes fn.results.toList (Nat.sub (Nat.shiftLeft 1 (Nat.add fn.params.size fn.nfree)) 1))) fn.ntmps ls 0 c)
    {vs : Array Value} (h : RS n0 w0 μ st w) (ha : vrL μ args vs.toList) : Calls P f vs w fun e w' => ∃ v, e = .returned v ∧ ∃ μ', PostL true n0 w0 μ st μ' st' w' ∧ vr μ' r v := by
  unfold evTop at hs
  have ih := evCall_sound hg hdr n
  split at hs
  · rename_i F hk
    obtain ⟨fn, c, hf, hb, rfl⟩ := fnOf_go hk
    exact (evBody_sound ih (hdr _ ih) hf hb h ha (hl fn c hf hb) hs hC).mono fun e w' ⟨v, h1, μ', h2, h3⟩ => ⟨v, h1, μ', h2, h3⟩
  · cases hs
end
end Go.Proofs.Ytkccnomdfkhfnaa.Ev
