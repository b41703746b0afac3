/- errors.as at **api.Fault; errors.As at both. -/
import Derived.Test.YtgehndnlbbkieaaDoorFw3
set_option linter.unusedVariables false
set_option linter.unusedSimpArgs false
namespace Go.Proofs.YtgehndnlbbkieaaDoor
open Go.RowKit Go.Extern.Stop Go.Stop Go.Extern

/-- what errors.As tells of a fault: the outermost one is found, and laid at t; or there is none -/
def Found40 (e : Ch) (w : World) (t : Addr) (ev : Ending) (w' : World) : Prop :=
  (∃ a op p e', e = .flt a op p e' ∧ ev = .returned (.bool true) ∧ ∃ w1, Below w.heap.size w w1 ∧ w' = w1.setCell t (.pointer (some ⟨a, 0, none⟩))) ∨ ((∀ a op p e', e ≠ .flt a op p e') ∧ ev = .returned (.bool false) ∧ Below w.heap.size w w')

theorem Found24.bool {o : Option Int} {w : World} {t : Addr} {ev : Ending} {w' : World} (h : Found24 o w t ev w') : ∃ b, ev = .returned (.bool b) := by
  rcases h with ⟨k, h1, h2, _⟩ | ⟨h1, h2, _⟩ <;> exact ⟨_, h2⟩
theorem Found40.bool {o : Ch} {w : World} {t : Addr} {ev : Ending} {w' : World} (h : Found40 o w t ev w') : ∃ b, ev = .returned (.bool b) := by
  rcases h with ⟨_, _, _, _, h1, h2, _⟩ | ⟨h1, h2, _⟩ <;> exact ⟨_, h2⟩
set_option maxRecDepth 100000 in
set_option maxHeartbeats 8000000 in
theorem as40 (e : Ch) (v : Value) (t a : Addr) (old : Value) (w : World) (he : e.Holds w v) (ht : w.cell? t = some old) (hf : w.frozen? t = false) (ha : w.cell? a = some (.pointer (some t))) :
    Calls Tryd.prog 23 #[v, .iface 44 (.pointer (some t)), .agg #[.pointer (some ⟨1, 44, none⟩), .pointer (some a), .int .u64 150], .iface 76 (.agg #[.pointer (some ⟨1, 40, none⟩)])] w fun ev w' => Found40 e w t ev w' := by
  have h18 := @run_callFunc_extern Tryd.prog 18 _ ReflectliteType.typeOf Tryd.func18 (by kernel_rfl) (by kernel_rfl) (by kernel_rfl) (by kernel_rfl)
  have h53 := @run_callFunc_extern Tryd.prog 53 _ (ReflectliteType.relation "AssignableTo" ReflectliteType.assignableTo) Tryd.func53 (by kernel_rfl) (by kernel_rfl) (by kernel_rfl) (by kernel_rfl)
  have h24 := @run_callFunc_extern Tryd.prog 24 _ (ReflectliteValue.method (ReflectliteValue.valueError "reflectlite.Value.Elem" 0) ReflectliteValue.elem) Tryd.func24 (by kernel_rfl) (by kernel_rfl) (by kernel_rfl) (by kernel_rfl)
  have h20 := @run_callFunc_extern Tryd.prog 20 _ (fun args => ReflectliteValue.unpack (args.getD 0 (.tuple #[]))) Tryd.func20 (by kernel_rfl) (by kernel_rfl) (by kernel_rfl) (by kernel_rfl)
  have h25 := @run_callFunc_extern Tryd.prog 25 _ ReflectliteValue.set Tryd.func25 (by kernel_rfl) (by kernel_rfl) (by kernel_rfl) (by kernel_rfl)
  have tO := Fw.typeOf24
  have tO2 := Fw.typeOf40
  have tO3 := Fw.typeOf68
  have mA := Fw.methodAssignableTo
  have aa := Fw.as24_40
  have aa2 := Fw.as40_40
  have aa3 := Fw.as68_40
  have v40 := Fw.valueOf40
  have q3 := Fw.ta68_87
  have q4 := Fw.ta68_81
  have q5 := Fw.ta68_83
  have q6 := Fw.ta24_87
  have q7 := Fw.ta24_81
  have q8 := Fw.ta24_83
  have hta := cell_lt ht
  have haa := cell_lt ha
  have hb0 : Below w.heap.size w (w.alloc (.cells #[.pointer (some ⟨1, 44, none⟩), .pointer (some a), .int .u64 150] 61)) := (Below.refl _ w).alloc (Nat.le_refl _) _
  cases e with
  | num k =>
    obtain rfl := he
    go_enter Tryd.func23, Tryd.ntmps23
    go_wp2
    refine wp_loop_rounds 1 ?_
    rw [rounds_succ]
    go_wp2
    go_ret
    exact .inr ⟨(fun _ _ _ _ h => by cases h), rfl, hb0⟩
  | str a' =>
    obtain ⟨rfl, _⟩ := he
    go_enter Tryd.func23, Tryd.ntmps23
    go_wp2
    refine wp_loop_rounds 1 ?_
    rw [rounds_succ]
    go_wp2
    go_ret
    exact .inr ⟨(fun _ _ _ _ h => by cases h), rfl, hb0⟩
  | flt a' op p e' =>
    obtain ⟨rfl, _⟩ := he
    have el := Fw.elemV44 a t (w.alloc (.cells #[.pointer (some ⟨1, 44, none⟩), .pointer (some a), .int .u64 150] 61)) (by rw [World.cell?_alloc_lt _ _ a haa]; exact ha)
    have st := Fw.set40 t ⟨w.heap.size + 1, 0, none⟩ ⟨a', 0, none⟩ old ((w.alloc (.cells #[.pointer (some ⟨1, 44, none⟩), .pointer (some a), .int .u64 150] 61)).alloc (.cells #[.pointer (some ⟨a', 0, none⟩)] 40))
      (by rw [World.cell?_alloc_at _ _ _ _ (by simp)]; rfl)
      (by rw [World.cell?_alloc_lt _ _ t (by simp; omega), World.cell?_alloc_lt _ _ t hta]; exact ht)
      (by rw [World.frozen?_alloc_old _ _ t (by simp; omega), World.frozen?_alloc_old _ _ t (Nat.ne_of_lt hta)]; exact hf)
    go_enter Tryd.func23, Tryd.ntmps23
    go_wp2
    refine wp_loop_rounds 1 ?_
    rw [rounds_succ]
    go_wp2
    go_ret
    exact .inl ⟨a', op, p, e', rfl, rfl, _, hb0.alloc (by simp) _, rfl⟩

/-- errors.As(nil, target) -/
theorem As_nil (t : Value) (w : World) : Calls Tryd.prog 15 #[.nilIface, t] w fun e w' => e = .returned (.bool false) ∧ w' = w := by
  go_enter Tryd.func15, Tryd.ntmps15
  go_wp2
  go_ret
  exact ⟨rfl, rfl⟩
/-- the handle of 'error', as the package's variable holds it -/
def ErrT (w : World) : Prop := w.cell? ⟨0, 0, none⟩ = some (.iface 76 (.agg #[.pointer (some ⟨1, 26, none⟩)]))
theorem ErrT.below {w w' : World} (h : Below w.heap.size w w') (hg : ErrT w) : ErrT w' := (h.cell (cell_lt hg)).trans hg

set_option maxRecDepth 100000 in
set_option maxHeartbeats 8000000 in
theorem As24 (e : Ch) (v : Value) (t : Addr) (old : Value) (w : World) (hg : ErrT w) (he : e.Holds w v) (ht : w.cell? t = some old) (hf : w.frozen? t = false) :
    Calls Tryd.prog 15 #[v, .iface 53 (.pointer (some t))] w fun ev w' => Found24 e.num? w t ev w' := by
  have h20 := @run_callFunc_extern Tryd.prog 20 _ (fun args => ReflectliteValue.unpack (args.getD 0 (.tuple #[]))) Tryd.func20 (by kernel_rfl) (by kernel_rfl) (by kernel_rfl) (by kernel_rfl)
  have h21 := @run_callFunc_extern Tryd.prog 21 _ (ReflectliteValue.methodAny (ReflectliteValue.valueError "reflectlite.Value.Type" 0) (fun t _ _ _ => ReflectliteType.toType t)) Tryd.func21 (by kernel_rfl) (by kernel_rfl) (by kernel_rfl) (by kernel_rfl)
  have h22 := @run_callFunc_extern Tryd.prog 22 _ (ReflectliteValue.method (ReflectliteValue.valueError "reflectlite.Value.IsNil" 0) ReflectliteValue.isNil) Tryd.func22 (by kernel_rfl) (by kernel_rfl) (by kernel_rfl) (by kernel_rfl)
  have h40 := @run_callFunc_extern Tryd.prog 40 _ (ReflectliteType.abiMethod fun t => do pure (.int .u8 (← Rtype.kind t))) Tryd.func40 (by kernel_rfl) (by kernel_rfl) (by kernel_rfl) (by kernel_rfl)
  have h55 := @run_callFunc_extern Tryd.prog 55 _ (ReflectliteType.method ReflectliteType.elem) Tryd.func55 (by kernel_rfl) (by kernel_rfl) (by kernel_rfl) (by kernel_rfl)
  have h56 := @run_callFunc_extern Tryd.prog 56 _ (ReflectliteType.relation "Implements" ReflectliteType.implements_) Tryd.func56 (by kernel_rfl) (by kernel_rfl) (by kernel_rfl) (by kernel_rfl)
  have f6 := Fw.valueOf
  have f7 := Fw.type53
  have mK := Fw.methodKind
  have mE := Fw.methodElem
  have mI := Fw.methodImplements
  have k1 := Fw.kind53
  have k2 := Fw.kind24
  have e1 := Fw.elem53
  have i1 := Fw.implements24
  have n8 := Fw.isNil53 ⟨w.heap.size, 0, none⟩ t ((w.alloc (.cells #[.pointer (some t)] 53)).alloc (.cells #[.pointer (some ⟨1, 53, none⟩), .pointer (some ⟨w.heap.size, 0, none⟩), .int .u64 150] 61)) (by simp)
  have hta := cell_lt ht
  have hlt : 0 < w.heap.size := cell_lt hg
  have hb : Below w.heap.size w ((w.alloc (.cells #[.pointer (some t)] 53)).alloc (.cells #[.pointer (some ⟨1, 53, none⟩), .pointer (some ⟨w.heap.size, 0, none⟩), .int .u64 150] 61)) := ((Below.refl _ w).alloc (Nat.le_refl _) _).alloc (by simp) _
  have hg2 : ((w.alloc (.cells #[.pointer (some t)] 53)).alloc (.cells #[.pointer (some ⟨1, 53, none⟩), .pointer (some ⟨w.heap.size, 0, none⟩), .int .u64 150] 61)).cell? ⟨0, 0, none⟩ = some (.iface 76 (.agg #[.pointer (some ⟨1, 26, none⟩)])) := hg.below hb
  have hc := as24 e v t ⟨w.heap.size, 0, none⟩ old ((w.alloc (.cells #[.pointer (some t)] 53)).alloc (.cells #[.pointer (some ⟨1, 53, none⟩), .pointer (some ⟨w.heap.size, 0, none⟩), .int .u64 150] 61)) (he.below hb) ((hb.cell hta).trans ht) ((hb.frozen hta).trans hf) (by simp)
  have hcc : Calls Tryd.prog 23 _ _ fun ev w' => Found24 e.num? w t ev w' := hc.mono fun ev w' h => by
    rcases h with ⟨k, h1, h2, w1, h3, h4⟩ | ⟨h1, h2, h3⟩
    · exact .inl ⟨k, h1, h2, w1, hb.trans (h3.mono hb.size), h4⟩
    · exact .inr ⟨h1, h2, hb.trans (h3.mono hb.size)⟩
  clear hc
  obtain ⟨ty, x, rfl⟩ := he.iface
  have A : Aside (ErrT w) := hg
  clear hg he hb
  go_enter Tryd.func15, Tryd.ntmps15
  go_wp2_with (go_at_call 23; refine hcc.mono ?_; intro ev w' hfnd; obtain ⟨bb, rfl⟩ := hfnd.bool)
  go_ret
  exact hfnd

set_option maxRecDepth 100000 in
set_option maxHeartbeats 8000000 in
theorem As40 (e : Ch) (v : Value) (t : Addr) (old : Value) (w : World) (hg : ErrT w) (he : e.Holds w v) (ht : w.cell? t = some old) (hf : w.frozen? t = false) :
    Calls Tryd.prog 15 #[v, .iface 44 (.pointer (some t))] w fun ev w' => Found40 e w t ev w' := by
  have h20 := @run_callFunc_extern Tryd.prog 20 _ (fun args => ReflectliteValue.unpack (args.getD 0 (.tuple #[]))) Tryd.func20 (by kernel_rfl) (by kernel_rfl) (by kernel_rfl) (by kernel_rfl)
  have h21 := @run_callFunc_extern Tryd.prog 21 _ (ReflectliteValue.methodAny (ReflectliteValue.valueError "reflectlite.Value.Type" 0) (fun t _ _ _ => ReflectliteType.toType t)) Tryd.func21 (by kernel_rfl) (by kernel_rfl) (by kernel_rfl) (by kernel_rfl)
  have h22 := @run_callFunc_extern Tryd.prog 22 _ (ReflectliteValue.method (ReflectliteValue.valueError "reflectlite.Value.IsNil" 0) ReflectliteValue.isNil) Tryd.func22 (by kernel_rfl) (by kernel_rfl) (by kernel_rfl) (by kernel_rfl)
  have h40 := @run_callFunc_extern Tryd.prog 40 _ (ReflectliteType.abiMethod fun t => do pure (.int .u8 (← Rtype.kind t))) Tryd.func40 (by kernel_rfl) (by kernel_rfl) (by kernel_rfl) (by kernel_rfl)
  have h55 := @run_callFunc_extern Tryd.prog 55 _ (ReflectliteType.method ReflectliteType.elem) Tryd.func55 (by kernel_rfl) (by kernel_rfl) (by kernel_rfl) (by kernel_rfl)
  have h56 := @run_callFunc_extern Tryd.prog 56 _ (ReflectliteType.relation "Implements" ReflectliteType.implements_) Tryd.func56 (by kernel_rfl) (by kernel_rfl) (by kernel_rfl) (by kernel_rfl)
  have f6 := Fw.valueOf44
  have f7 := Fw.type44
  have mK := Fw.methodKind
  have mE := Fw.methodElem
  have mI := Fw.methodImplements
  have k1 := Fw.kind44
  have k2 := Fw.kind40
  have e1 := Fw.elem44
  have i1 := Fw.implements40
  have n8 := Fw.isNil44 ⟨w.heap.size, 0, none⟩ t ((w.alloc (.cells #[.pointer (some t)] 44)).alloc (.cells #[.pointer (some ⟨1, 44, none⟩), .pointer (some ⟨w.heap.size, 0, none⟩), .int .u64 150] 61)) (by simp)
  have hta := cell_lt ht
  have hlt : 0 < w.heap.size := cell_lt hg
  have hb : Below w.heap.size w ((w.alloc (.cells #[.pointer (some t)] 44)).alloc (.cells #[.pointer (some ⟨1, 44, none⟩), .pointer (some ⟨w.heap.size, 0, none⟩), .int .u64 150] 61)) := ((Below.refl _ w).alloc (Nat.le_refl _) _).alloc (by simp) _
  have hg2 : ((w.alloc (.cells #[.pointer (some t)] 44)).alloc (.cells #[.pointer (some ⟨1, 44, none⟩), .pointer (some ⟨w.heap.size, 0, none⟩), .int .u64 150] 61)).cell? ⟨0, 0, none⟩ = some (.iface 76 (.agg #[.pointer (some ⟨1, 26, none⟩)])) := hg.below hb
  have hc := as40 e v t ⟨w.heap.size, 0, none⟩ old ((w.alloc (.cells #[.pointer (some t)] 44)).alloc (.cells #[.pointer (some ⟨1, 44, none⟩), .pointer (some ⟨w.heap.size, 0, none⟩), .int .u64 150] 61)) (he.below hb) ((hb.cell hta).trans ht) ((hb.frozen hta).trans hf) (by simp)
  have hcc : Calls Tryd.prog 23 _ _ fun ev w' => Found40 e w t ev w' := hc.mono fun ev w' h => by
    rcases h with ⟨a, op, p, e', h1, h2, w1, h3, h4⟩ | ⟨h1, h2, h3⟩
    · exact .inl ⟨a, op, p, e', h1, h2, w1, hb.trans (h3.mono hb.size), h4⟩
    · exact .inr ⟨h1, h2, hb.trans (h3.mono hb.size)⟩
  clear hc
  obtain ⟨ty, x, rfl⟩ := he.iface
  have A : Aside (ErrT w) := hg
  clear hg he hb
  go_enter Tryd.func15, Tryd.ntmps15
  go_wp2_with (go_at_call 23; refine hcc.mono ?_; intro ev w' hfnd; obtain ⟨bb, rfl⟩ := hfnd.bool)
  go_ret
  exact hfnd
end Go.Proofs.YtgehndnlbbkieaaDoor
