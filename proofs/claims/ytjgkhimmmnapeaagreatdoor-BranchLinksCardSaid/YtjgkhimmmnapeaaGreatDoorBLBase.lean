/- The setting of the law BranchLinks. -/
import Derived.Test.YtjgkhimmmnapeaaGreatDoorProg
import Derived.KernelRfl
import Derived.Laws.Externs
import Derived.Test.YtjgkhimmmnapeaaGreatDoorEvFastW
set_option linter.unusedVariables false
set_option linter.unusedSimpArgs false
namespace Go.Proofs.YtjgkhimmmnapeaaGreatDoor.branchLinks
open Go.RowKit Go.Proofs.YtjgkhimmmnapeaaGreatDoor.Ev
set_option maxRecDepth 100000

/-! ## the evaluator's setting -/
noncomputable def cfg : Cfg := { lf := 100000, splits := [82,83,118], overlaps := [107, 109, 125], exts := [(101, Extern.BytealgIndex.index), (106, Extern.BytealgCount.count), (119, Extern.BytealgIndexByte.indexByte)] }
theorem allNamed : (Tryz.prog.funcs.toList.all fun fn => fn.name != "runtime.NumGoroutine") = true := by kernel_rfl
theorem ov {f : FuncId} {fn : Func} {t tR : TypeId} (hf : Tryz.prog.funcs[f]? = some fn) (h1 : (fn.name == "runtime.NumGoroutine") = false) (h2 : fn.body.isNone = true) (h3 : Extern.findNext fn = none)
    (h4 : Extern.find fn = some (Extern.SlicesOverlaps.overlaps #[t, t] #[tR])) (h5 : (match Tryz.prog.underlying t with | some (.slice e) => (sizeT Tryz.prog e).isSome | _ => false) = true) : OverlapsAt Tryz.prog f := by
  split at h5
  · rename_i el hel
    obtain ⟨n, hn⟩ := Option.isSome_iff_exists.1 h5
    refine ⟨t, tR, el, n, fun vs w => ?_, hel, hn⟩
    rw [run_callFunc_extern hf h1 h2 h3 h4, run_bind']
    cases (Extern.SlicesOverlaps.overlaps #[t, t] #[tR] vs).run Tryz.prog w <;> rfl
  · cases h5
theorem ov107 : OverlapsAt Tryz.prog 107 := ov (t := 22) (tR := 4) Tryz.func107 (by kernel_rfl) (by kernel_rfl) (by kernel_rfl) (by kernel_rfl) (by kernel_rfl)
theorem ov109 : OverlapsAt Tryz.prog 109 := ov (t := 46) (tR := 4) Tryz.func109 (by kernel_rfl) (by kernel_rfl) (by kernel_rfl) (by kernel_rfl) (by kernel_rfl)
theorem ov125 : OverlapsAt Tryz.prog 125 := ov (t := 43) (tR := 4) Tryz.func125 (by kernel_rfl) (by kernel_rfl) (by kernel_rfl) (by kernel_rfl) (by kernel_rfl)
theorem extOf_cons {f : Nat} {p : FuncId × (Array Value → Sem Value)} {r : List (FuncId × (Array Value → Sem Value))} {x : Array Value → Sem Value} (h : extOf f (p :: r) = some x) : (f = p.1 ∧ x = p.2) ∨ extOf f r = some x := by
  simp only [extOf] at h
  cases hb : Nat.beq p.1 f with
  | true => rw [hb, cond_true] at h; cases h; exact .inl ⟨(show f = p.1 from by rw [Nat.beq_eq] at hb; exact hb.symm), rfl⟩
  | false => rw [hb, cond_false] at h; exact .inr h
theorem ex {f : FuncId} {fn : Func} {x : Array Value → Sem Value} (hf : Tryz.prog.funcs[f]? = some fn) (h1 : (fn.name == "runtime.NumGoroutine") = false) (h2 : fn.body.isNone = true) (h3 : Extern.findNext fn = none)
    (h4 : Extern.find fn = some x) (vs : Array Value) (w : World) : (callFunc f vs).run Tryz.prog w = ((do pure (.value (← x vs))) : Sem Next).run Tryz.prog w := by
  rw [run_callFunc_extern hf h1 h2 h3 h4, run_bind']
  cases (x vs).run Tryz.prog w <;> rfl
theorem ex101 (vs : Array Value) (w : World) : (callFunc 101 vs).run Tryz.prog w = ((do pure (.value (← Extern.BytealgIndex.index vs))) : Sem Next).run Tryz.prog w := ex Tryz.func101 (by kernel_rfl) (by kernel_rfl) (by kernel_rfl) (by kernel_rfl) vs w
theorem ex106 (vs : Array Value) (w : World) : (callFunc 106 vs).run Tryz.prog w = ((do pure (.value (← Extern.BytealgCount.count vs))) : Sem Next).run Tryz.prog w := ex Tryz.func106 (by kernel_rfl) (by kernel_rfl) (by kernel_rfl) (by kernel_rfl) vs w
theorem ex119 (vs : Array Value) (w : World) : (callFunc 119 vs).run Tryz.prog w = ((do pure (.value (← Extern.BytealgIndexByte.indexByte vs))) : Sem Next).run Tryz.prog w := ex Tryz.func119 (by kernel_rfl) (by kernel_rfl) (by kernel_rfl) (by kernel_rfl) vs w
theorem cfgOk : CfgOk Tryz.prog cfg := by
  refine ⟨fun f fn c hf hb => ?_, fun f hf => ?_, fun f x hx => ?_, by kernel_rfl⟩
  · have h1 : fn ∈ Tryz.prog.funcs.toList := by
      have : Tryz.prog.funcs.toList[f]? = some fn := by simpa using hf
      exact List.mem_of_getElem? this
    have := List.all_eq_true.1 allNamed fn h1
    simpa using this
  · have h : (Nat.beq f 107 || (Nat.beq f 109 || (Nat.beq f 125 || false))) = true := hf
    simp only [Bool.or_eq_true, Nat.beq_eq, Bool.false_eq_true, or_false] at h
    rcases h with rfl | rfl | rfl
    · exact ov107
    · exact ov109
    · exact ov125
  · rcases extOf_cons hx with ⟨rfl, rfl⟩ | hx
    · exact ex101
    · rcases extOf_cons hx with ⟨rfl, rfl⟩ | hx
      · exact ex106
      · rcases extOf_cons hx with ⟨rfl, rfl⟩ | hx
        · exact ex119
        · cases hx

/-! ## the runs -/
def isTrue (r : Option (AV × St)) : Bool := match r with | some (.b true, _) => true | _ => false
noncomputable def run (a : AV) : Bool := isTrue (callF Tryz.prog cfg 1000 4 [a] st00)
theorem walk {a : AV} {v : Value} (hr : run a = true) (hv : vr (fun _ => none) a v) (w : World) : Calls Tryz.prog 4 #[v] w fun e w' => e = .returned (.bool true) ∧ Below w.heap.size w w' := by
  unfold run isTrue at hr
  split at hr
  · rename_i st' hev
    have hb : ∃ c, Tryz.f4.body = some c := by
      cases h : Tryz.f4.body with
      | some c => exact ⟨c, rfl⟩
      | none => exact absurd (show Tryz.f4.body.isNone = true by rw [h]; rfl) (by rw [show Tryz.f4.body.isNone = false by kernel_rfl]; simp)
    obtain ⟨c, hc⟩ := hb
    refine (calls_of_evF cfgOk Tryz.func4 hc hev (vs := #[v]) (Below.refl _ w) (vrL_cons.2 ⟨hv, by simp only [vrL]⟩)).mono fun e w' ⟨u, h1, h2, μ', h3⟩ => ?_
    simp only [vr] at h3
    subst h3
    exact ⟨h1, h2⟩
  · cases hr
noncomputable def all (l : List AV) : Bool := List.rec (motive := fun _ => Bool) true (fun a _ ih => bsel (run a) ih false) l
theorem all_get : ∀ {l : List AV} {i : Nat} {a : AV}, all l = true → l[i]? = some a → run a = true
  | [], i, a, _, h => by simp at h
  | x :: l, i, a, ha, h => by
    have ha : bsel (run x) (all l) false = true := ha
    cases hr : run x with
    | false => rw [hr] at ha; cases ha
    | true =>
      rw [hr] at ha
      cases i with
      | zero => cases h; exact hr
      | succ i => exact all_get (l := l) (i := i) ha (by simpa using h)
end Go.Proofs.YtjgkhimmmnapeaaGreatDoor.branchLinks
