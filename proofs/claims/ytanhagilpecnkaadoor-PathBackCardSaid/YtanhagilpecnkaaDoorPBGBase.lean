/- The setting of the law PathBack. -/
import Derived.Test.YtanhagilpecnkaaDoorProg
import Derived.KernelRfl
import Derived.Laws.Externs
import Derived.Test.YtanhagilpecnkaaDoorEvFastW
import Derived.Test.YtanhagilpecnkaaDoorPBS
set_option linter.unusedVariables false
set_option linter.unusedSimpArgs false
namespace Go.Proofs.YtanhagilpecnkaaDoor.pathBack
open Go.RowKit Go.Proofs.YtanhagilpecnkaaDoor.Ev
set_option maxRecDepth 100000

/-! ## the evaluator's setting -/
noncomputable def cfg0 : Cfg := { lf := 100000, splits := [], overlaps := [], exts := [(32, Extern.BytealgIndex.index), (37, Extern.BytealgCount.count), (44, Extern.BytealgIndexByte.indexByte)], joins := [14] }
noncomputable def mk0 (l : List Hook) : Cfg := { lf := 100000, splits := [], overlaps := [], exts := [(32, Extern.BytealgIndex.index), (37, Extern.BytealgCount.count), (44, Extern.BytealgIndexByte.indexByte)], joins := [14], hooks := l }
noncomputable def mkc (l : List Hook) : Cfg := { lf := 100000, splits := [], overlaps := [], exts := [(32, Extern.BytealgIndex.index), (37, Extern.BytealgCount.count), (44, Extern.BytealgIndexByte.indexByte)], joins := [14], closed := [(10, true)], hooks := l }
noncomputable def cfg : Cfg := mkc []
theorem allNamed : (Tryd.prog.funcs.toList.all fun fn => fn.name != "runtime.NumGoroutine") = true := by kernel_rfl
theorem ov {f : FuncId} {fn : Func} {t tR : TypeId} (hf : Tryd.prog.funcs[f]? = some fn) (h1 : (fn.name == "runtime.NumGoroutine") = false) (h2 : fn.body.isNone = true) (h3 : Extern.findNext fn = none)
    (h4 : Extern.find fn = some (Extern.SlicesOverlaps.overlaps #[t, t] #[tR])) (h5 : (match Tryd.prog.underlying t with | some (.slice e) => (sizeT Tryd.prog e).isSome | _ => false) = true) : OverlapsAt Tryd.prog f := by
  split at h5
  · rename_i el hel
    obtain ⟨n, hn⟩ := Option.isSome_iff_exists.1 h5
    refine ⟨t, tR, el, n, fun vs w => ?_, hel, hn⟩
    rw [run_callFunc_extern hf h1 h2 h3 h4, run_bind']
    cases (Extern.SlicesOverlaps.overlaps #[t, t] #[tR] vs).run Tryd.prog w <;> rfl
  · cases h5
theorem extOf_cons {f : Nat} {p : FuncId × (Array Value → Sem Value)} {r : List (FuncId × (Array Value → Sem Value))} {x : Array Value → Sem Value} (h : extOf f (p :: r) = some x) : (f = p.1 ∧ x = p.2) ∨ extOf f r = some x := by
  simp only [extOf] at h
  cases hb : Nat.beq p.1 f with
  | true => rw [hb, cond_true] at h; cases h; exact .inl ⟨show f = p.1 from by rw [Nat.beq_eq] at hb; exact hb.symm, rfl⟩
  | false => rw [hb, cond_false] at h; exact .inr h
theorem ex {f : FuncId} {fn : Func} {x : Array Value → Sem Value} (hf : Tryd.prog.funcs[f]? = some fn) (h1 : (fn.name == "runtime.NumGoroutine") = false) (h2 : fn.body.isNone = true) (h3 : Extern.findNext fn = none)
    (h4 : Extern.find fn = some x) (vs : Array Value) (w : World) : (callFunc f vs).run Tryd.prog w = ((do pure (.value (← x vs))) : Sem Next).run Tryd.prog w := by
  rw [run_callFunc_extern hf h1 h2 h3 h4, run_bind']
  cases (x vs).run Tryd.prog w <;> rfl
theorem ex32 (vs : Array Value) (w : World) : (callFunc 32 vs).run Tryd.prog w = ((do pure (.value (← Extern.BytealgIndex.index vs))) : Sem Next).run Tryd.prog w := ex Tryd.func32 (by kernel_rfl) (by kernel_rfl) (by kernel_rfl) (by kernel_rfl) vs w
theorem ex37 (vs : Array Value) (w : World) : (callFunc 37 vs).run Tryd.prog w = ((do pure (.value (← Extern.BytealgCount.count vs))) : Sem Next).run Tryd.prog w := ex Tryd.func37 (by kernel_rfl) (by kernel_rfl) (by kernel_rfl) (by kernel_rfl) vs w
theorem ex44 (vs : Array Value) (w : World) : (callFunc 44 vs).run Tryd.prog w = ((do pure (.value (← Extern.BytealgIndexByte.indexByte vs))) : Sem Next).run Tryd.prog w := ex Tryd.func44 (by kernel_rfl) (by kernel_rfl) (by kernel_rfl) (by kernel_rfl) vs w
theorem jn14 : JoinAt Tryd.prog 14 := ⟨Go.Proofs.enters_of Tryd.func14 (by kernel_rfl) rfl, fun a c sep w => Tryd.strings_Join_none a c sep w, fun bk o c xs sep w h1 h2 h3 h4 h5 => Tryd.strings_Join bk o c xs sep w h1 h2 h3 h4 h5⟩
theorem cfgOk0 : CfgOk Tryd.prog cfg0 := by
  refine ⟨fun f fn c hf hb => ?_, fun f hf => ?_, fun f x hx => ?_, fun f hf => ?_, by kernel_rfl, fun f b h => ?_, fun h hh => ?_, fun f h hh => ?_⟩
  · have h1 : fn ∈ Tryd.prog.funcs.toList := by
      have : Tryd.prog.funcs.toList[f]? = some fn := by simpa using hf
      exact List.mem_of_getElem? this
    have := List.all_eq_true.1 allNamed fn h1
    simpa using this
  · cases hf
  · rcases extOf_cons hx with ⟨rfl, rfl⟩ | hx
    · exact ex32
    · rcases extOf_cons hx with ⟨rfl, rfl⟩ | hx
      · exact ex37
      · rcases extOf_cons hx with ⟨rfl, rfl⟩ | hx
        · exact ex44
        · cases hx
  · have h : (Nat.beq f 14 || false) = true := hf
    simp only [Bool.or_eq_true, Nat.beq_eq, Bool.false_eq_true, or_false] at h
    subst h
    exact jn14
  · have h : (none : Option Bool) = some b := h
    cases h
  · have h2 : h ∈ ([] : List Hook) := hh
    cases h2
  · have h2 : (none : Option (List AV → St → Option (AV × St))) = some h := hh
    cases h2

/-! ## the runs -/
def isTrue (r : Option (AV × St)) : Bool := match r with | some (.b true, _) => true | _ => false
noncomputable def run (l : List AV) : Bool := isTrue (callF Tryd.prog cfg 1000 3 l st00)
theorem walk (ok : CfgOk Tryd.prog cfg) {l : List AV} {vs : Array Value} (hr : run l = true) (hv : vrL (fun _ => none) l vs.toList) (w : World) : Calls Tryd.prog 3 vs w fun e w' => e = .returned (.bool true) ∧ Below w.heap.size w w' := by
  unfold run isTrue at hr
  split at hr
  · rename_i st' hev
    have hb : ∃ c, Tryd.f3.body = some c := by
      cases h : Tryd.f3.body with
      | some c => exact ⟨c, rfl⟩
      | none => exact absurd (show Tryd.f3.body.isNone = true by rw [h]; rfl) (by rw [show Tryd.f3.body.isNone = false by kernel_rfl]; simp)
    obtain ⟨c, hc⟩ := hb
    refine (calls_of_evF ok Tryd.func3 hc hev (vs := vs) (Below.refl _ w) hv).mono fun e w' ⟨u, h1, h2, μ', h3⟩ => ?_
    simp only [vr] at h3
    subst h3
    exact ⟨h1, h2⟩
  · cases hr
noncomputable def all (l : List (List AV)) : Bool := List.rec (motive := fun _ => Bool) true (fun a _ ih => bsel (run a) ih false) l
theorem all_get : ∀ {l : List (List AV)} {i : Nat} {a : List AV}, all l = true → l[i]? = some a → run a = true
  | [], i, a, _, h => by simp at h
  | x :: l, i, a, ha, h => by
    have ha : bsel (run x) (all l) false = true := ha
    cases hr : run x with
    | false => rw [hr] at ha; cases ha
    | true =>
      rw [hr] at ha
      cases i with
      | zero => cases h; exact hr
      | succ i => exact all_get (l := l) (i := i) ha (by simpa using h)
theorem dom4 (n : Int) : (∃ c, n = .negSucc c) ∨ n = 0 ∨ n = 1 ∨ n = 2 ∨ n = 3 ∨ ∃ c : Nat, 4 ≤ c ∧ n = .ofNat c := by
  cases n with
  | negSucc c => exact .inl ⟨c, rfl⟩
  | ofNat c =>
    rcases Nat.lt_or_ge c 4 with h | h
    · have hc : c = 0 ∨ c = 1 ∨ c = 2 ∨ c = 3 := by omega
      rcases hc with rfl | rfl | rfl | rfl <;> simp
    · simp only [Int.ofNat_eq_natCast]; exact .inr (.inr (.inr (.inr (.inr (⟨c, h, rfl⟩)))))
theorem vi (k : Int) : vr (fun _ => none) (.i .i64 k) (.int .i64 k) := by simp only [vr]
theorem vb (b : Bool) : vr (fun _ => none) (.b b) (.bool b) := by simp only [vr]
end Go.Proofs.YtanhagilpecnkaaDoor.pathBack
