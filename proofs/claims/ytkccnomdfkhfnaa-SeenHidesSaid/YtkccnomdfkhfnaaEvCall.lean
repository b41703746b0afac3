/- What functions of the program compute, written down; read off their code. -/
import Derived.Test.YtkccnomdfkhfnaaEvGr
set_option linter.unusedSimpArgs false
set_option linter.unusedVariables false
namespace Go.Proofs.Ytkccnomdfkhfnaa.Ev
open Go.RowKit

/-- a call, entered or answered at once -/
def CallW (P : Program) (f : FuncId) (args : Array Value) (w : World) (R : Value → World → Prop) : Prop :=
  (∃ v w', (callFunc f args).run P w = .ok (.value v) w' ∧ R v w') ∨
  ((callFunc f args).run P w = .ok (.enter f args) w ∧ Calls P f args w fun e w' => ∃ v, e = .returned v ∧ R v w')

theorem CallW.mono {P : Program} {f : FuncId} {args : Array Value} {w : World} {R R' : Value → World → Prop} (h : CallW P f args w R) (hr : ∀ v w', R v w' → R' v w') : CallW P f args w R' := by
  rcases h with ⟨v, w', h1, h2⟩ | ⟨h1, h2⟩
  · exact .inl ⟨v, w', h1, hr _ _ h2⟩
  · exact .inr ⟨h1, h2.mono fun e w' ⟨v, h3, h4⟩ => ⟨v, h3, hr _ _ h4⟩⟩

/-- what is told of calls is so -/
structure CFSound (P : Program) (cf : CallF) : Prop where
  grow : CFGrow cf
  told : ∀ (f : FuncId) (args : List AV) (st : St) (r : AV) (st' : St), cf f args st = some (r, st') → AllP st'.x.cs →
    ∀ (n0 : Nat) (w0 : World) (μ : Mu) (w : World) (vs : Array Value), RS n0 w0 μ st w → vrL μ args vs.toList → CallW P f vs w fun v w' => ∃ μ', Post n0 w0 μ st μ' st' w' ∧ vr μ' r v

section
variable {P : Program} {n0 : Nat} {w0 : World} {μ : Mu} {st st' : St} {w : World}

theorem ActOk.wp {o : Oper} {a : Act} {r : AV} {next : Act → World → Prop} {Q : Exit → Act → World → Prop} (h : ActOk n0 w0 μ st st' r ((execOp a.eval o).run P w))
    (hk : ∀ μ' w' v, Post n0 w0 μ st μ' st' w' → vr μ' r v → next (a.put o.dst v) w') : o.wp P a w next Q := by
  obtain ⟨μ', w', v, h1, h2, h3⟩ := h
  unfold Oper.wp
  rcases h3 with h3 | ⟨h3, h4⟩
  · rw [h3]; exact hk μ' w' v h1 h2
  · rw [h3]; exact hk μ' w' undef h1 (h4 ▸ h2)

theorem CallW.wp {o : Oper} {a : Act} {f : FuncId} {args : Array Value} {R : Value → World → Prop} {next : Act → World → Prop} {Q : Exit → Act → World → Prop}
    (h : CallW P f args w R) (he : (execOp a.eval o).run P w = (callFunc f args).run P w) (hk : ∀ v w', R v w' → next (a.put o.dst v) w') : o.wp P a w next Q := by
  unfold Oper.wp
  rw [he]
  rcases h with ⟨v, w', h1, h2⟩ | ⟨h1, h2⟩
  · rw [h1]; exact hk _ _ h2
  · rw [h1]
    show Calls P f args w _
    refine h2.mono fun e w' ⟨v, h3, h4⟩ => ?_
    subst h3
    exact hk _ _ h4

theorem semA_sound {cf : CallF} (hcf : CFSound P cf) (h : RS n0 w0 μ st w) {ev : Od → Option AV} {od : Operand → Od} {o : Oper} {a : Act} {r : AV}
    (hr : OdRel μ ev od a.eval) (hs : semA P cf o.op ev (o.op.operands.toList.map od) st = some (r, st')) (hC : AllP st'.x.cs) (hc : cls P o.op = 2) {next : Act → World → Prop} {Q : Exit → Act → World → Prop}
    (hk : ∀ μ' w' v, Post n0 w0 μ st μ' st' w' → vr μ' r v → next (a.put o.dst v) w') : o.wp P a w next Q := by
  obtain ⟨dst, op, ty, pos, after, guard⟩ := o
  cases op <;> simp only [semA] at hs <;> try (cases hs; done)
  case store t x y =>
    obtain ⟨b, c, h1, h2, h3⟩ := two_elim (x := x) (y := y) hs hr
    obtain ⟨st2, h4, h5⟩ := obind_elim h3
    cases h5
    obtain ⟨ad, w', e1, e2, e3⟩ := aStore_sound (P := P) h h4 h1 h2
    refine ActOk.wp (ActOk.skip ?_ e3) hk
    rw [e1]; exact e2
  case alloc t =>
    obtain ⟨z, h1, h2⟩ := obind_elim (show obind (zeroT P t) (aNewVar st) = some (r, st') from hs)
    obtain ⟨zv, e1, e2⟩ := run_zeroValue h1 μ w
    obtain ⟨μ', w', b, g1, g2, g3⟩ := aNewVar_sound (P := P) (t := t) h h2 e2
    refine ActOk.wp (ActOk.value (v := .pointer (some b)) ?_ g2 g3) hk
    unfold Instr.alloc
    rw [run_bind_ok e1]
    simp only []
    rw [run_bind_ok g1]
    rfl
  case box t x =>
    obtain ⟨b, h1, h2⟩ := one_elim (x := x) hs hr
    obtain ⟨μ', w', ad, g1, g2, g3⟩ := aNewVar_sound (P := P) (t := t) h h2 h1
    refine ActOk.wp (ActOk.value (v := .pointer (some ad)) ?_ g2 g3) hk
    unfold Instr.box
    rw [run_bind_ok g1]
    rfl
  case buildSlice t n parts =>
    obtain ⟨l, h1, h2⟩ := obind_elim hs
    have hl := many_elim hr (parts.toList.map (·.2)) l (by simpa [Op.operands] using h1)
    obtain ⟨μ', w', v, g1, g2, g3⟩ := aBuildSlice_sound (P := P) (qs := parts.map fun p => (p.1, a.eval p.2)) h h2 (by
      have := parts_map parts.toList (l := l) (ρ := a.eval) (μ := μ) (by rw [List.map_map] at hl; exact hl)
      simpa using this)
    exact ActOk.wp (ActOk.value g1 g2 g3) hk
  case makeMap t rs =>
    cases rs with
    | none =>
      obtain ⟨μ', w', v, g1, g2, g3⟩ := aMakeMap_sound (P := P) h hs
      exact ActOk.wp (ActOk.value g1 g2 g3) hk
    | some x => cases hs
  case makeSlice t x y =>
    obtain ⟨b, c, h1, h2, h3⟩ := two_elim (x := x) (y := y) hs hr
    obtain ⟨μ', w', v, g1, g2, g3⟩ := aMakeSlice_sound (P := P) h h3 h1 h2
    exact ActOk.wp (ActOk.value g1 g2 g3) hk
  case convert s d x =>
    obtain ⟨b, h1, h2⟩ := one_elim (x := x) hs hr
    obtain ⟨μ', w', v, g1, g2, g3⟩ := aConvA_sound (P := P) h h2 h1
    exact ActOk.wp (ActOk.value g1 g2 g3) hk
  case mapUpdate t x y z =>
    obtain ⟨b, c, d, h1, h2, h3, h4⟩ := three_elim (x := x) (y := y) (z := z) hs hr
    obtain ⟨st2, h5, h6⟩ := obind_elim h4
    cases h6
    obtain ⟨w', e1, e2⟩ := aMapUpdate_sound (P := P) h h5 h1 h2 h3
    exact ActOk.wp (ActOk.skip e1 e2) hk
  case insert t x y z =>
    obtain ⟨b, c, d, h1, h2, h3, h4⟩ := three_elim (x := x) (y := y) (z := z) hs hr
    obtain ⟨st2, h5, h6⟩ := obind_elim h4
    cases h6
    obtain ⟨w', e1, e2⟩ := aMapUpdate_sound (P := P) h h5 h1 h2 h3
    exact ActOk.wp (ActOk.skip e1 e2) hk
  case range t x =>
    obtain ⟨b, h1, h2⟩ := one_elim (x := x) hs hr
    obtain ⟨μ', w', v, g1, g2, g3⟩ := aRange_sound (P := P) h h2 h1
    exact ActOk.wp (ActOk.value g1 g2 g3) hk
  case next it isS =>
    cases isS with
    | false =>
      obtain ⟨b, h1, h2⟩ := one_elim (x := it) hs hr
      obtain ⟨μ', w', v, g1, g2, g3⟩ := aNextM_sound (P := P) (ty := ty) h h2 h1
      exact ActOk.wp (ActOk.value g1 g2 g3) hk
    | true =>
      obtain ⟨b, h1, h2⟩ := one_elim (x := it) hs hr
      obtain ⟨μ', w', v, g1, g2, g3⟩ := aNext_sound (P := P) (ty := ty) h h2 h1
      exact ActOk.wp (ActOk.value g1 g2 g3) hk
  case call c =>
    obtain ⟨l, h1, h2⟩ := obind_elim hs
    have hl := many_elim hr _ l h1
    obtain ⟨callee, args, argTypes⟩ := c
    unfold semCallA at h2
    cases callee with
    | builtin bi =>
      have hl' : vrL μ l (args.map a.eval).toList := by simpa [Op.operands, Call.operands] using hl
      cases bi <;> dsimp only at h2 <;> try (cases h2; done)
      · obtain ⟨μ', w', v, g1, g2, g3⟩ := aAppend_sound (P := P) (ty := ty) h h2 hl'
        exact ActOk.wp (ActOk.value g1 g2 g3) hk
      · obtain ⟨μ', w', v, g1, g2, g3⟩ := aClear_sound (P := P) (ty := ty) h h2 hl'
        exact ActOk.wp (ActOk.value g1 g2 g3) hk
      · obtain ⟨μ', w', v, g1, g2, g3⟩ := aCopy_sound (P := P) (ty := ty) h h2 hl'
        exact ActOk.wp (ActOk.value g1 g2 g3) hk
    | invoke rc nm => cases h2
    | value f =>
      have hl' : vrL μ l (a.eval f :: (args.map a.eval).toList) := by simpa [Op.operands, Call.operands] using hl
      dsimp only at h2
      split at h2
      · rename_i g first captured rest
        obtain ⟨hf, hrest⟩ := vrL_cons.1 hl'
        simp only [vr] at hf
        obtain ⟨xs, ys, hfe, hx, hy⟩ := hf
        rw [appA_eq, appA_eq] at h2
        have := hcf.told _ _ _ _ _ h2 hC n0 w0 μ w (⟨xs⟩ ++ args.map a.eval ++ ⟨ys⟩) h (by
          have := vrL_app _ _ _ _ hx (vrL_app _ _ _ _ hrest hy)
          simpa using this)
        refine CallW.wp this ?_ fun v w' ⟨μ', g1, g2⟩ => hk μ' w' v g1 g2
        show (resolve a.eval _ ty >>= fun d => invoke d.target d.args).run P w = _
        unfold resolve
        simp only [hfe, Deferred.ofValue]
        rfl
      · cases h2

/-- the same, or one of what is not known -/
theorem semA2_sound {cf : CallF} (hcf : CFSound P cf) (h : RS n0 w0 μ st w) {ev : Od → Option AV} {od : Operand → Od} {o : Oper} {a : Act} {r : AV}
    (hr : OdRel μ ev od a.eval) (hs : semA2 P cf o.op ev (o.op.operands.toList.map od) st = some (r, st')) (hC : AllP st'.x.cs) (hc : cls P o.op = 2) {next : Act → World → Prop} {Q : Exit → Act → World → Prop}
    (hk : ∀ μ' w' v, Post n0 w0 μ st μ' st' w' → vr μ' r v → next (a.put o.dst v) w') : o.wp P a w next Q := by
  unfold semA2 at hs
  rcases orA_elim hs with hs | hs
  · exact semA_sound hcf h hr hs hC hc hk
  · obtain ⟨args, h1, h2⟩ := obind_elim hs
    exact ActOk.wp (aX_ok h h2 hC (many_elim hr _ args h1)) hk
theorem semP2_sound {ev : Od → Option AV} {od : Operand → Od} {ρ : Operand → Value} {o : Oper} {a : AV} {c : List Prop} (hr : OdRel μ ev od ρ)
    (h : semP2 P o.op o.type ev (o.op.operands.toList.map od) = some (a, c)) (hC : AllP c) (w : World) : ∃ v, (execOp ρ o).run P w = .ok (.value v) w ∧ vr μ a v := by
  unfold semP2 at h
  rcases orP_elim h with ⟨h, _⟩ | h
  · exact semP_sound hr h w
  · obtain ⟨args, h1, h2⟩ := obind_elim h
    exact pX_ok h2 hC (many_elim hr _ args h1) w
theorem semR2_sound (h : RS n0 w0 μ st w) {ev : Od → Option AV} {od : Operand → Od} {ρ : Operand → Value} {o : Oper} {a : AV} {c : List Prop}
    (hr : OdRel μ ev od ρ) (hs : semR2 P o.op ev (o.op.operands.toList.map od) st = some (a, c)) (hc : cls P o.op = 1) : ∃ v, (execOp ρ o).run P w = .ok (.value v) w ∧ vr μ a v := by
  unfold semR2 at hs
  rcases orP_elim hs with ⟨hs, _⟩ | hs
  · exact semR_sound h hr hs hc
  · obtain ⟨args, h1, h2⟩ := obind_elim hs
    exact rX_ok h h2 (many_elim hr _ args h1) hc
end
end Go.Proofs.Ytkccnomdfkhfnaa.Ev
