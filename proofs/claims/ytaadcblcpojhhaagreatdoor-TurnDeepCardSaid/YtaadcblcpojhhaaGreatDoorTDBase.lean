/- The setting of the law TurnDeep. -/
import Derived.Test.YtaadcblcpojhhaaGreatDoorProg
import Derived.KernelRfl
import Derived.Laws.Externs
import Derived.Test.YtaadcblcpojhhaaGreatDoorEvFastW
import Derived.Test.YtaadcblcpojhhaaGreatDoorTDD
set_option linter.unusedVariables false
set_option linter.unusedSimpArgs false
namespace Go.Proofs.YtaadcblcpojhhaaGreatDoor.turnDeep
open Go.RowKit Go.Proofs.YtaadcblcpojhhaaGreatDoor.Ev
set_option maxRecDepth 100000

/-! ## the evaluator's setting -/
noncomputable def cfg0 : Cfg := { lf := 100000, splits := [287,291,296], overlaps := [305, 307, 313], exts := [] }
noncomputable def mk0 (l : List Hook) : Cfg := { lf := 100000, splits := [287,291,296], overlaps := [305, 307, 313], exts := [], hooks := l }
noncomputable def mkc (l : List Hook) : Cfg := { lf := 100000, splits := [287,291,296], overlaps := [305, 307, 313], exts := [], closed := [(10, true)], hooks := l }
noncomputable def cfg : Cfg := mkc [h0, h1, h2, h3]
theorem allNamed : (Tryz.prog.funcs.toList.all fun fn => fn.name != "runtime.NumGoroutine") = true := by kernel_rfl
theorem ov {f : FuncId} {fn : Func} {t tR : TypeId} (hf : Tryz.prog.funcs[f]? = some fn) (h1 : (fn.name == "runtime.NumGoroutine") = false) (h2 : fn.body.isNone = true) (h3 : Extern.findNext fn = none)
    (h4 : Extern.find fn = some (Extern.SlicesOverlaps.overlaps #[t, t] #[tR])) (h5 : (match Tryz.prog.underlying t with | some (.slice e) => (sizeT Tryz.prog e).isSome | _ => false) = true) : OverlapsAt Tryz.prog f := by
  split at h5
  · rename_i el hel
    obtain ⟨n, hn⟩ := Option.isSome_iff_exists.1 h5
    refine ⟨t, tR, el, n, fun vs w => ?_, hel, hn⟩
    rw [run_callFunc_extern hf h1 h2 h3 h4, run_bind']
    cases (Extern.SlicesOverlaps.overlaps #[t, t] #[tR] vs).run Tryz.prog w <;> rfl
  · cases h5
theorem ov305 : OverlapsAt Tryz.prog 305 := ov (t := 46) (tR := 4) Tryz.func305 (by kernel_rfl) (by kernel_rfl) (by kernel_rfl) (by kernel_rfl) (by kernel_rfl)
theorem ov307 : OverlapsAt Tryz.prog 307 := ov (t := 55) (tR := 4) Tryz.func307 (by kernel_rfl) (by kernel_rfl) (by kernel_rfl) (by kernel_rfl) (by kernel_rfl)
theorem ov313 : OverlapsAt Tryz.prog 313 := ov (t := 26) (tR := 4) Tryz.func313 (by kernel_rfl) (by kernel_rfl) (by kernel_rfl) (by kernel_rfl) (by kernel_rfl)
theorem extOf_cons {f : Nat} {p : FuncId × (Array Value → Sem Value)} {r : List (FuncId × (Array Value → Sem Value))} {x : Array Value → Sem Value} (h : extOf f (p :: r) = some x) : (f = p.1 ∧ x = p.2) ∨ extOf f r = some x := by
  simp only [extOf] at h
  cases hb : Nat.beq p.1 f with
  | true => rw [hb, cond_true] at h; cases h; exact .inl ⟨show f = p.1 from by rw [Nat.beq_eq] at hb; exact hb.symm, rfl⟩
  | false => rw [hb, cond_false] at h; exact .inr h
theorem ex {f : FuncId} {fn : Func} {x : Array Value → Sem Value} (hf : Tryz.prog.funcs[f]? = some fn) (h1 : (fn.name == "runtime.NumGoroutine") = false) (h2 : fn.body.isNone = true) (h3 : Extern.findNext fn = none)
    (h4 : Extern.find fn = some x) (vs : Array Value) (w : World) : (callFunc f vs).run Tryz.prog w = ((do pure (.value (← x vs))) : Sem Next).run Tryz.prog w := by
  rw [run_callFunc_extern hf h1 h2 h3 h4, run_bind']
  cases (x vs).run Tryz.prog w <;> rfl
theorem cfgOk0 : CfgOk Tryz.prog cfg0 := by
  refine ⟨fun f fn c hf hb => ?_, fun f hf => ?_, fun f x hx => ?_, fun f hf => ?_, by kernel_rfl, fun f b h => ?_, fun h hh => ?_, fun f h hh => ?_⟩
  · have h1 : fn ∈ Tryz.prog.funcs.toList := by
      have : Tryz.prog.funcs.toList[f]? = some fn := by simpa using hf
      exact List.mem_of_getElem? this
    have := List.all_eq_true.1 allNamed fn h1
    simpa using this
  · have h : (Nat.beq f 305 || (Nat.beq f 307 || (Nat.beq f 313 || false))) = true := hf
    simp only [Bool.or_eq_true, Nat.beq_eq, Bool.false_eq_true, or_false] at h
    rcases h with rfl | rfl | rfl
    · exact ov305
    · exact ov307
    · exact ov313
  · cases hx
  · cases hf
  · have h : (none : Option Bool) = some b := h
    cases h
  · have h2 : h ∈ ([] : List Hook) := hh
    cases h2
  · have h2 : (none : Option (List AV → St → Option (AV × St))) = some h := hh
    cases h2

/-! ## the runs -/
def isTrue (r : Option (AV × St)) : Bool := match r with | some (.b true, _) => true | _ => false
noncomputable def run (l : List AV) : Bool := isTrue (callF Tryz.prog cfg 1000 3 l st00)
theorem walk (ok : CfgOk Tryz.prog cfg) {l : List AV} {vs : Array Value} (hr : run l = true) (hv : vrL (fun _ => none) l vs.toList) (w : World) : Calls Tryz.prog 3 vs w fun e w' => e = .returned (.bool true) ∧ Below w.heap.size w w' := by
  unfold run isTrue at hr
  split at hr
  · rename_i st' hev
    have hb : ∃ c, Tryz.f3.body = some c := by
      cases h : Tryz.f3.body with
      | some c => exact ⟨c, rfl⟩
      | none => exact absurd (show Tryz.f3.body.isNone = true by rw [h]; rfl) (by rw [show Tryz.f3.body.isNone = false by kernel_rfl]; simp)
    obtain ⟨c, hc⟩ := hb
    refine (calls_of_evF ok Tryz.func3 hc hev (vs := vs) (Below.refl _ w) hv).mono fun e w' ⟨u, h1, h2, μ', h3⟩ => ?_
    simp only [vr] at h3
    subst h3
    exact ⟨h1, h2⟩
  · cases hr
noncomputable def all (l : List (List AV)) : Bool := List.rec (motive := fun _ => Bool) true (fun a _ ih => bsel (run a) ih false) l
theorem all_get : ∀ {l : List (List AV)} {i : Nat} {a : List AV}, all l = true → l[i]? = some a → run a = true
  | [], i, a, _, h => by simp at h
  | x :: l, i, a, ha, h => by
    have ha : bsel (run x) (all l) false = true := ha
    cases hr : run x with
    | false => rw [hr] at ha; cases ha
    | true =>
      rw [hr] at ha
      cases i with
      | zero => cases h; exact hr
      | succ i => exact all_get (l := l) (i := i) ha (by simpa using h)
theorem dom4 (n : Int) : (∃ c, n = .negSucc c) ∨ n = 0 ∨ n = 1 ∨ n = 2 ∨ n = 3 ∨ ∃ c : Nat, 4 ≤ c ∧ n = .ofNat c := by
  cases n with
  | negSucc c => exact .inl ⟨c, rfl⟩
  | ofNat c =>
    rcases Nat.lt_or_ge c 4 with h | h
    · have hc : c = 0 ∨ c = 1 ∨ c = 2 ∨ c = 3 := by omega
      rcases hc with rfl | rfl | rfl | rfl <;> simp
    · simp only [Int.ofNat_eq_natCast]; exact .inr (.inr (.inr (.inr (.inr (⟨c, h, rfl⟩)))))
theorem vi (k : Int) : vr (fun _ => none) (.i .i64 k) (.int .i64 k) := by simp only [vr]
theorem vb (b : Bool) : vr (fun _ => none) (.b b) (.bool b) := by simp only [vr]
end Go.Proofs.YtaadcblcpojhhaaGreatDoor.turnDeep
