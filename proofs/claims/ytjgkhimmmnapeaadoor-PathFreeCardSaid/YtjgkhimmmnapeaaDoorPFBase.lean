/- The setting of the law PathFree. -/
import Derived.Test.YtjgkhimmmnapeaaDoorProg
import Derived.KernelRfl
import Derived.Laws.Externs
import Derived.Test.YtjgkhimmmnapeaaDoorEvFastW
import Derived.Test.YtjgkhimmmnapeaaDoorDJoin
set_option linter.unusedVariables false
set_option linter.unusedSimpArgs false
namespace Go.Proofs.YtjgkhimmmnapeaaDoor.pathFree
open Go.RowKit Go.Proofs.YtjgkhimmmnapeaaDoor.Ev
set_option maxRecDepth 100000

/-! ## the evaluator's setting -/
noncomputable def cfg : Cfg := { lf := 100000, splits := [], overlaps := [], exts := [(28, Extern.BytealgIndex.index), (33, Extern.BytealgCount.count), (40, Extern.BytealgIndexByte.indexByte)], joins := [18] }
theorem allNamed : (Tryd.prog.funcs.toList.all fun fn => fn.name != "runtime.NumGoroutine") = true := by kernel_rfl
theorem ov {f : FuncId} {fn : Func} {t tR : TypeId} (hf : Tryd.prog.funcs[f]? = some fn) (h1 : (fn.name == "runtime.NumGoroutine") = false) (h2 : fn.body.isNone = true) (h3 : Extern.findNext fn = none)
    (h4 : Extern.find fn = some (Extern.SlicesOverlaps.overlaps #[t, t] #[tR])) (h5 : (match Tryd.prog.underlying t with | some (.slice e) => (sizeT Tryd.prog e).isSome | _ => false) = true) : OverlapsAt Tryd.prog f := by
  split at h5
  · rename_i el hel
    obtain ⟨n, hn⟩ := Option.isSome_iff_exists.1 h5
    refine ⟨t, tR, el, n, fun vs w => ?_, hel, hn⟩
    rw [run_callFunc_extern hf h1 h2 h3 h4, run_bind']
    cases (Extern.SlicesOverlaps.overlaps #[t, t] #[tR] vs).run Tryd.prog w <;> rfl
  · cases h5
theorem extOf_cons {f : Nat} {p : FuncId × (Array Value → Sem Value)} {r : List (FuncId × (Array Value → Sem Value))} {x : Array Value → Sem Value} (h : extOf f (p :: r) = some x) : (f = p.1 ∧ x = p.2) ∨ extOf f r = some x := by
  simp only [extOf] at h
  cases hb : Nat.beq p.1 f with
  | true => rw [hb, cond_true] at h; cases h; exact .inl ⟨(show f = p.1 from by rw [Nat.beq_eq] at hb; exact hb.symm), rfl⟩
  | false => rw [hb, cond_false] at h; exact .inr h
theorem ex {f : FuncId} {fn : Func} {x : Array Value → Sem Value} (hf : Tryd.prog.funcs[f]? = some fn) (h1 : (fn.name == "runtime.NumGoroutine") = false) (h2 : fn.body.isNone = true) (h3 : Extern.findNext fn = none)
    (h4 : Extern.find fn = some x) (vs : Array Value) (w : World) : (callFunc f vs).run Tryd.prog w = ((do pure (.value (← x vs))) : Sem Next).run Tryd.prog w := by
  rw [run_callFunc_extern hf h1 h2 h3 h4, run_bind']
  cases (x vs).run Tryd.prog w <;> rfl
theorem ex28 (vs : Array Value) (w : World) : (callFunc 28 vs).run Tryd.prog w = ((do pure (.value (← Extern.BytealgIndex.index vs))) : Sem Next).run Tryd.prog w := ex Tryd.func28 (by kernel_rfl) (by kernel_rfl) (by kernel_rfl) (by kernel_rfl) vs w
theorem ex33 (vs : Array Value) (w : World) : (callFunc 33 vs).run Tryd.prog w = ((do pure (.value (← Extern.BytealgCount.count vs))) : Sem Next).run Tryd.prog w := ex Tryd.func33 (by kernel_rfl) (by kernel_rfl) (by kernel_rfl) (by kernel_rfl) vs w
theorem ex40 (vs : Array Value) (w : World) : (callFunc 40 vs).run Tryd.prog w = ((do pure (.value (← Extern.BytealgIndexByte.indexByte vs))) : Sem Next).run Tryd.prog w := ex Tryd.func40 (by kernel_rfl) (by kernel_rfl) (by kernel_rfl) (by kernel_rfl) vs w
theorem jn18 : JoinAt Tryd.prog 18 := ⟨Go.Proofs.enters_of Tryd.func18 (by kernel_rfl) rfl, fun a c sep w => Tryd.strings_Join_none a c sep w, fun bk o c xs sep w h1 h2 h3 h4 h5 => Tryd.strings_Join bk o c xs sep w h1 h2 h3 h4 h5⟩
theorem cfgOk : CfgOk Tryd.prog cfg := by
  refine ⟨fun f fn c hf hb => ?_, fun f hf => ?_, fun f x hx => ?_, fun f hf => ?_, by kernel_rfl⟩
  · have h1 : fn ∈ Tryd.prog.funcs.toList := by
      have : Tryd.prog.funcs.toList[f]? = some fn := by simpa using hf
      exact List.mem_of_getElem? this
    have := List.all_eq_true.1 allNamed fn h1
    simpa using this
  · cases hf
  · rcases extOf_cons hx with ⟨rfl, rfl⟩ | hx
    · exact ex28
    · rcases extOf_cons hx with ⟨rfl, rfl⟩ | hx
      · exact ex33
      · rcases extOf_cons hx with ⟨rfl, rfl⟩ | hx
        · exact ex40
        · cases hx
  · have h : (Nat.beq f 18 || false) = true := hf
    simp only [Bool.or_eq_true, Nat.beq_eq, Bool.false_eq_true, or_false] at h
    subst h
    exact jn18

/-! ## the runs -/
def isTrue (r : Option (AV × St)) : Bool := match r with | some (.b true, _) => true | _ => false
noncomputable def run (a : AV) : Bool := isTrue (callF Tryd.prog cfg 1000 4 [a] st00)
theorem walk {a : AV} {v : Value} (hr : run a = true) (hv : vr (fun _ => none) a v) (w : World) : Calls Tryd.prog 4 #[v] w fun e w' => e = .returned (.bool true) ∧ Below w.heap.size w w' := by
  unfold run isTrue at hr
  split at hr
  · rename_i st' hev
    have hb : ∃ c, Tryd.f4.body = some c := by
      cases h : Tryd.f4.body with
      | some c => exact ⟨c, rfl⟩
      | none => exact absurd (show Tryd.f4.body.isNone = true by rw [h]; rfl) (by rw [show Tryd.f4.body.isNone = false by kernel_rfl]; simp)
    obtain ⟨c, hc⟩ := hb
    refine (calls_of_evF cfgOk Tryd.func4 hc hev (vs := #[v]) (Below.refl _ w) (vrL_cons.2 ⟨hv, by simp only [vrL]⟩)).mono fun e w' ⟨u, h1, h2, μ', h3⟩ => ?_
    simp only [vr] at h3
    subst h3
    exact ⟨h1, h2⟩
  · cases hr
noncomputable def all (l : List AV) : Bool := List.rec (motive := fun _ => Bool) true (fun a _ ih => bsel (run a) ih false) l
theorem all_get : ∀ {l : List AV} {i : Nat} {a : AV}, all l = true → l[i]? = some a → run a = true
  | [], i, a, _, h => by simp at h
  | x :: l, i, a, ha, h => by
    have ha : bsel (run x) (all l) false = true := ha
    cases hr : run x with
    | false => rw [hr] at ha; cases ha
    | true =>
      rw [hr] at ha
      cases i with
      | zero => cases h; exact hr
      | succ i => exact all_get (l := l) (i := i) ha (by simpa using h)
end Go.Proofs.YtjgkhimmmnapeaaDoor.pathFree
