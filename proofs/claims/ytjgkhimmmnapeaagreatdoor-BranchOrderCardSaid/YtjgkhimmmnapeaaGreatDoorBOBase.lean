/- The setting of the law BranchOrder. -/
import Derived.Test.YtjgkhimmmnapeaaGreatDoorProg
import Derived.KernelRfl
import Derived.Laws.Externs
import Derived.Test.YtjgkhimmmnapeaaGreatDoorEvTop
namespace Go.Proofs.YtjgkhimmmnapeaaGreatDoor.branchOrder
open Go.RowKit Go.Proofs.YtjgkhimmmnapeaaGreatDoor.Ev
set_option maxRecDepth 100000

/-! ## the evaluator's setting -/
noncomputable def cfg : Cfg := { lf := 100000, splits := [82, 83, 118], overlaps := [107, 109, 125] }
theorem allNamed : (Tryz.prog.funcs.toList.all fun fn => fn.name != "runtime.NumGoroutine") = true := by kernel_rfl
theorem ov {f : FuncId} {fn : Func} {t tR : TypeId} (hf : Tryz.prog.funcs[f]? = some fn) (h1 : (fn.name == "runtime.NumGoroutine") = false) (h2 : fn.body.isNone = true) (h3 : Extern.findNext fn = none)
    (h4 : Extern.find fn = some (Extern.SlicesOverlaps.overlaps #[t, t] #[tR])) (h5 : (match Tryz.prog.underlying t with | some (.slice e) => (sizeT Tryz.prog e).isSome | _ => false) = true) : OverlapsAt Tryz.prog f := by
  split at h5
  · rename_i el hel
    obtain ⟨n, hn⟩ := Option.isSome_iff_exists.1 h5
    refine ⟨t, tR, el, n, fun vs w => ?_, hel, hn⟩
    rw [run_callFunc_extern hf h1 h2 h3 h4, run_bind']
    cases (Extern.SlicesOverlaps.overlaps #[t, t] #[tR] vs).run Tryz.prog w <;> rfl
  · cases h5
theorem ov107 : OverlapsAt Tryz.prog 107 := ov (t := 22) (tR := 4) Tryz.func107 (by kernel_rfl) (by kernel_rfl) (by kernel_rfl) (by kernel_rfl) (by kernel_rfl)
theorem ov109 : OverlapsAt Tryz.prog 109 := ov (t := 46) (tR := 4) Tryz.func109 (by kernel_rfl) (by kernel_rfl) (by kernel_rfl) (by kernel_rfl) (by kernel_rfl)
theorem ov125 : OverlapsAt Tryz.prog 125 := ov (t := 43) (tR := 4) Tryz.func125 (by kernel_rfl) (by kernel_rfl) (by kernel_rfl) (by kernel_rfl) (by kernel_rfl)
theorem cfgOk : CfgOk Tryz.prog cfg := by
  refine ⟨fun f fn c hf hb => ?_, fun f hf => ?_, by kernel_rfl⟩
  · have h1 : fn ∈ Tryz.prog.funcs.toList := by
      have : Tryz.prog.funcs.toList[f]? = some fn := by simpa using hf
      exact List.mem_of_getElem? this
    have := List.all_eq_true.1 allNamed fn h1
    simpa using this
  · have h : (Nat.beq f 107 || (Nat.beq f 109 || (Nat.beq f 125 || false))) = true := hf
    simp only [Bool.or_eq_true, Nat.beq_eq, Bool.false_eq_true, or_false] at h
    rcases h with rfl | rfl | rfl
    · exact ov107
    · exact ov109
    · exact ov125

/-! ## the runs -/
def isTrue (r : Option (AV × St)) : Bool := match r with | some (.b true, _) => true | _ => false
noncomputable def run (a : AV) : Bool := isTrue (evCall Tryz.prog cfg 1000 3 [a] st00)
theorem walk {a : AV} {v : Value} (hr : run a = true) (hv : vr (fun _ => none) a v) (w : World) : Calls Tryz.prog 3 #[v] w fun e w' => e = .returned (.bool true) ∧ Below w.heap.size w w' := by
  unfold run isTrue at hr
  split at hr
  · rename_i st' hev
    have hb : ∃ c, Tryz.f3.body = some c := by
      cases h : Tryz.f3.body with
      | some c => exact ⟨c, rfl⟩
      | none => exact absurd (show Tryz.f3.body.isNone = true by rw [h]; rfl) (by rw [show Tryz.f3.body.isNone = false by kernel_rfl]; simp)
    obtain ⟨c, hc⟩ := hb
    refine (calls_of_ev cfgOk Tryz.func3 hc hev (vs := #[v]) (Below.refl _ w) (vrL_cons.2 ⟨hv, by simp only [vrL]⟩)).mono fun e w' ⟨u, h1, h2, μ', h3⟩ => ?_
    simp only [vr] at h3
    subst h3
    exact ⟨h1, h2⟩
  · cases hr
end Go.Proofs.YtjgkhimmmnapeaaGreatDoor.branchOrder
