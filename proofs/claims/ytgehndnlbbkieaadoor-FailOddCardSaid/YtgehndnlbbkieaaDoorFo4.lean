/- errors.as at **api.Fault; errors.As at both. -/
import Derived.Test.YtgehndnlbbkieaaDoorFo3
set_option linter.unusedVariables false
set_option linter.unusedSimpArgs false
namespace Go.Proofs.YtgehndnlbbkieaaDoor
open Go.RowKit Go.Extern.Stop Go.Stop Go.Extern

/-- the first fault of an error -/
def Ch.top? : Ch → Option (Nat × Int × ByteArray)
  | .flt a op p _ => some (a, op, p)
  | .join _ _ x y => x.top?.or y.top?
  | _ => none
theorem Ch.Holds.top {w : World} : ∀ {e : Ch} {v : Value} {a : Nat} {op : Int} {p : ByteArray}, e.Holds w v → e.top? = some (a, op, p) → a < w.heap.size ∧ w.cell? ⟨a, 0, none⟩ = some (.int .i64 op) ∧ w.cell? ⟨a, 1, none⟩ = some (.string p)
  | .num k, v, a, op, p, he, ht => by cases ht
  | .str b, v, a, op, p, he, ht => by cases ht
  | .flt b op' p' e, v, a, op, p, he, ht => by cases ht; exact ⟨he.2.1, he.2.2.1, he.2.2.2.1⟩
  | .join b c x y, v, a, op, p, he, ht => by
    obtain ⟨_, _, _, _, ⟨u, _, hu⟩, u', _, hu'⟩ := he
    simp only [Ch.top?] at ht
    cases hx : x.top? with
    | some q => rw [hx] at ht; cases ht; exact hu.top hx
    | none => rw [hx] at ht; exact hu'.top ht
/-- what errors.As tells of a fault: the first one is found, and laid at t; or there is none -/
def Found40 (o : Option (Nat × Int × ByteArray)) (w : World) (t : Addr) (ev : Ending) (w' : World) : Prop :=
  (∃ a op p, o = some (a, op, p) ∧ ev = .returned (.bool true) ∧ ∃ w1, Below w.heap.size w w1 ∧ w' = w1.setCell t (.pointer (some ⟨a, 0, none⟩))) ∨ (o = none ∧ ev = .returned (.bool false) ∧ Below w.heap.size w w')

theorem Found24.bool {o : Option Int} {w : World} {t : Addr} {ev : Ending} {w' : World} (h : Found24 o w t ev w') : ∃ b, ev = .returned (.bool b) := by
  rcases h with ⟨k, h1, h2, _⟩ | ⟨h1, h2, _⟩ <;> exact ⟨_, h2⟩
theorem Found40.bool {o : Option (Nat × Int × ByteArray)} {w : World} {t : Addr} {ev : Ending} {w' : World} (h : Found40 o w t ev w') : ∃ b, ev = .returned (.bool b) := by
  rcases h with ⟨_, _, _, h1, h2, _⟩ | ⟨h1, h2, _⟩ <;> exact ⟨_, h2⟩
set_option maxRecDepth 100000 in
set_option maxHeartbeats 8000000 in
theorem as40 (e : Ch) : ∀ (v : Value) (t a : Addr) (old : Value) (w : World) (he : e.Holds w v) (ht : w.cell? t = some old) (hf : w.frozen? t = false) (ha : w.cell? a = some (.pointer (some t))),
    Calls Tryd.prog 23 #[v, .iface 44 (.pointer (some t)), .agg #[.pointer (some ⟨1, 44, none⟩), .pointer (some a), .int .u64 150], .iface 76 (.agg #[.pointer (some ⟨1, 40, none⟩)])] w fun ev w' => Found40 e.top? w t ev w' := by
  have h18 := @run_callFunc_extern Tryd.prog 18 _ ReflectliteType.typeOf Tryd.func18 (by kernel_rfl) (by kernel_rfl) (by kernel_rfl) (by kernel_rfl)
  have h53 := @run_callFunc_extern Tryd.prog 53 _ (ReflectliteType.relation "AssignableTo" ReflectliteType.assignableTo) Tryd.func53 (by kernel_rfl) (by kernel_rfl) (by kernel_rfl) (by kernel_rfl)
  have h24 := @run_callFunc_extern Tryd.prog 24 _ (ReflectliteValue.method (ReflectliteValue.valueError "reflectlite.Value.Elem" 0) ReflectliteValue.elem) Tryd.func24 (by kernel_rfl) (by kernel_rfl) (by kernel_rfl) (by kernel_rfl)
  have h20 := @run_callFunc_extern Tryd.prog 20 _ (fun args => ReflectliteValue.unpack (args.getD 0 (.tuple #[]))) Tryd.func20 (by kernel_rfl) (by kernel_rfl) (by kernel_rfl) (by kernel_rfl)
  have h25 := @run_callFunc_extern Tryd.prog 25 _ ReflectliteValue.set Tryd.func25 (by kernel_rfl) (by kernel_rfl) (by kernel_rfl) (by kernel_rfl)
  have tO := Fw.typeOf24
  have tO2 := Fw.typeOf40
  have tO3 := Fw.typeOf68
  have mA := Fw.methodAssignableTo
  have aa := Fw.as24_40
  have aa2 := Fw.as40_40
  have aa3 := Fw.as68_40
  have v40 := Fw.valueOf40
  have q3 := Fw.ta68_87
  have q4 := Fw.ta68_81
  have q5 := Fw.ta68_83
  have q6 := Fw.ta24_87
  have q7 := Fw.ta24_81
  have q8 := Fw.ta24_83
  have tO4 := Fw.typeOf72
  have aa4 := Fw.as72_40
  have q9 := Fw.ta72_87
  have q10 := Fw.ta72_81
  have q11 := Fw.ta72_83
  have mJ := Fw.unwrap72
  induction e with
  | num k =>
    intro v t a old w he ht hf ha
    have hb0 : Below w.heap.size w (w.alloc (.cells #[.pointer (some ⟨1, 44, none⟩), .pointer (some a), .int .u64 150] 61)) := (Below.refl _ w).alloc (Nat.le_refl _) _
    obtain rfl := he
    go_enter Tryd.func23, Tryd.ntmps23
    go_wp2
    refine wp_loop_rounds 1 ?_
    rw [rounds_succ]
    go_wp2
    go_ret
    exact .inr ⟨rfl, rfl, hb0⟩
  | str a' =>
    intro v t a old w he ht hf ha
    have hb0 : Below w.heap.size w (w.alloc (.cells #[.pointer (some ⟨1, 44, none⟩), .pointer (some a), .int .u64 150] 61)) := (Below.refl _ w).alloc (Nat.le_refl _) _
    obtain ⟨rfl, _⟩ := he
    go_enter Tryd.func23, Tryd.ntmps23
    go_wp2
    refine wp_loop_rounds 1 ?_
    rw [rounds_succ]
    go_wp2
    go_ret
    exact .inr ⟨rfl, rfl, hb0⟩
  | flt a' op p e' ih =>
    intro v t a old w he ht hf ha
    have hta := cell_lt ht
    have haa := cell_lt ha
    have hb0 : Below w.heap.size w (w.alloc (.cells #[.pointer (some ⟨1, 44, none⟩), .pointer (some a), .int .u64 150] 61)) := (Below.refl _ w).alloc (Nat.le_refl _) _
    clear ih
    obtain ⟨rfl, _⟩ := he
    have el := Fw.elemV44 a t (w.alloc (.cells #[.pointer (some ⟨1, 44, none⟩), .pointer (some a), .int .u64 150] 61)) (by rw [World.cell?_alloc_lt _ _ a haa]; exact ha)
    have st := Fw.set40 t ⟨w.heap.size + 1, 0, none⟩ ⟨a', 0, none⟩ old ((w.alloc (.cells #[.pointer (some ⟨1, 44, none⟩), .pointer (some a), .int .u64 150] 61)).alloc (.cells #[.pointer (some ⟨a', 0, none⟩)] 40))
      (by rw [World.cell?_alloc_at _ _ _ _ (by simp)]; rfl)
      (by rw [World.cell?_alloc_lt _ _ t (by simp; omega), World.cell?_alloc_lt _ _ t hta]; exact ht)
      (by rw [World.frozen?_alloc_old _ _ t (by simp; omega), World.frozen?_alloc_old _ _ t (Nat.ne_of_lt hta)]; exact hf)
    go_enter Tryd.func23, Tryd.ntmps23
    go_wp2
    refine wp_loop_rounds 1 ?_
    rw [rounds_succ]
    go_wp2
    go_ret
    exact .inl ⟨a', op, p, rfl, rfl, _, hb0.alloc (by simp) _, rfl⟩
  | join ja jb x y ihx ihy =>
    intro v t a old w he ht hf ha
    have hb0 : Below w.heap.size w (w.alloc (.cells #[.pointer (some ⟨1, 44, none⟩), .pointer (some a), .int .u64 150] 61)) := (Below.refl _ w).alloc (Nat.le_refl _) _
    obtain ⟨rfl, hlt, hlb, ⟨c, c1⟩, ⟨u, c2, hu⟩, u', c3, hu'⟩ := he
    obtain ⟨tt, vv, rfl⟩ := hu.iface
    obtain ⟨tt', vv', rfl⟩ := hu'.iface
    have hz : (w.alloc (.cells #[.pointer (some ⟨1, 44, none⟩), .pointer (some a), .int .u64 150] 61)).cell? ⟨w.heap.size, 0, none⟩ = some (.pointer (some ⟨1, 44, none⟩)) ∧
      (w.alloc (.cells #[.pointer (some ⟨1, 44, none⟩), .pointer (some a), .int .u64 150] 61)).cell? ⟨w.heap.size, 1, none⟩ = some (.pointer (some a)) ∧
      (w.alloc (.cells #[.pointer (some ⟨1, 44, none⟩), .pointer (some a), .int .u64 150] 61)).cell? ⟨w.heap.size, 2, none⟩ = some (.int .u64 150) := by simp
    have A : Aside (Below w.heap.size w (w.alloc (.cells #[.pointer (some ⟨1, 44, none⟩), .pointer (some a), .int .u64 150] 61))) := hb0
    have c1w := cellStep c1 hb0
    have c2w := cellStep c2 hb0
    have c3w := cellStep c3 hb0
    have htw := cellStep ht hb0
    have hfw := frzStep ht hf hb0
    have haw := cellStep ha hb0
    have hX := ihx _ t a old _ (hu.below hb0) htw hfw haw
    have B : Aside (Ch.Holds w y (.iface tt' vv')) := hu'
    go_enter Tryd.func23, Tryd.ntmps23
    go_wp2_with (fail)
    obtain ⟨x0, x1, x2⟩ := hz
    clear ihx hu hu' c1 c2 c3 ht hf ha hb0
    generalize w.alloc (.cells #[.pointer (some ⟨1, 44, none⟩), .pointer (some a), .int .u64 150] 61) = wz at *
    refine wp_loop_rounds 1 ?_
    rw [rounds_succ]
    go_wp2_with (fail)
    refine (junwrap _ _ _ c1w).mono ?_
    rintro ev wy ⟨rfl, rfl⟩
    go_wp2_with (fail)
    refine wp_loop_rounds 3 ?_
    rw [rounds_succ]
    go_wp2_with (fail)
    refine hX.mono ?_
    clear hX
    rintro ev w2 (⟨a1, op1, p1, h1, rfl, w3, h3, rfl⟩ | ⟨h1, rfl, h3⟩)
    · have C : Aside (x.top? = some (a1, op1, p1) ∧ Below wy.heap.size wy w3) := ⟨h1, h3⟩
      clear h1 h3
      go_wp2_with (fail)
      go_ret
      obtain ⟨h1, h3⟩ := C.out
      exact .inl ⟨a1, op1, p1, by rw [Ch.top?, h1]; rfl, rfl, w3, A.out.trans (h3.mono A.out.size), rfl⟩
    · have hY := ihy _ t a old w2 (B.out.below (A.out.trans (h3.mono A.out.size))) (cellStep htw h3) (frzStep htw hfw h3) (cellStep haw h3)
      have c3x := cellStep c3w h3
      have x0b := cellStep x0 h3
      have x1b := cellStep x1 h3
      have x2b := cellStep x2 h3
      have C : Aside (x.top? = none ∧ Below wy.heap.size wy w2) := ⟨h1, h3⟩
      clear h1 h3
      go_wp2_with (fail)
      rw [rounds_succ]
      go_wp2_with (fail)
      refine hY.mono ?_
      clear hY
      rintro ev w4 (⟨a1, op1, p1, h1, rfl, w3, h3, rfl⟩ | ⟨h1, rfl, h3⟩)
      · have D : Aside (y.top? = some (a1, op1, p1) ∧ Below w2.heap.size w2 w3) := ⟨h1, h3⟩
        clear h1 h3
        go_wp2_with (fail)
        go_ret
        obtain ⟨h1, h3⟩ := C.out
        obtain ⟨h5, h6⟩ := D.out
        have hb2 := A.out.trans (h3.mono A.out.size)
        exact .inl ⟨a1, op1, p1, by rw [Ch.top?, h1, h5]; rfl, rfl, w3, hb2.trans (h6.mono hb2.size), rfl⟩
      · have D : Aside (y.top? = none ∧ Below w2.heap.size w2 w4) := ⟨h1, h3⟩
        clear h1 h3
        go_wp2_with (fail)
        rw [rounds_succ]
        go_wp2_with (fail)
        go_ret
        obtain ⟨h1, h3⟩ := C.out
        obtain ⟨h5, h6⟩ := D.out
        have hb2 := A.out.trans (h3.mono A.out.size)
        exact .inr ⟨by rw [Ch.top?, h1, h5]; rfl, rfl, hb2.trans (h6.mono hb2.size)⟩

/-- errors.As(nil, target) -/
theorem As_nil (t : Value) (w : World) : Calls Tryd.prog 15 #[.nilIface, t] w fun e w' => e = .returned (.bool false) ∧ w' = w := by
  go_enter Tryd.func15, Tryd.ntmps15
  go_wp2
  go_ret
  exact ⟨rfl, rfl⟩
/-- the handle of 'error', as the package's variable holds it -/
def ErrT (w : World) : Prop := w.cell? ⟨0, 0, none⟩ = some (.iface 76 (.agg #[.pointer (some ⟨1, 26, none⟩)]))
theorem ErrT.below {w w' : World} (h : Below w.heap.size w w') (hg : ErrT w) : ErrT w' := (h.cell (cell_lt hg)).trans hg

set_option maxRecDepth 100000 in
set_option maxHeartbeats 8000000 in
theorem As24 (e : Ch) (v : Value) (t : Addr) (old : Value) (w : World) (hg : ErrT w) (he : e.Holds w v) (ht : w.cell? t = some old) (hf : w.frozen? t = false) :
    Calls Tryd.prog 15 #[v, .iface 53 (.pointer (some t))] w fun ev w' => Found24 e.num? w t ev w' := by
  have h20 := @run_callFunc_extern Tryd.prog 20 _ (fun args => ReflectliteValue.unpack (args.getD 0 (.tuple #[]))) Tryd.func20 (by kernel_rfl) (by kernel_rfl) (by kernel_rfl) (by kernel_rfl)
  have h21 := @run_callFunc_extern Tryd.prog 21 _ (ReflectliteValue.methodAny (ReflectliteValue.valueError "reflectlite.Value.Type" 0) (fun t _ _ _ => ReflectliteType.toType t)) Tryd.func21 (by kernel_rfl) (by kernel_rfl) (by kernel_rfl) (by kernel_rfl)
  have h22 := @run_callFunc_extern Tryd.prog 22 _ (ReflectliteValue.method (ReflectliteValue.valueError "reflectlite.Value.IsNil" 0) ReflectliteValue.isNil) Tryd.func22 (by kernel_rfl) (by kernel_rfl) (by kernel_rfl) (by kernel_rfl)
  have h40 := @run_callFunc_extern Tryd.prog 40 _ (ReflectliteType.abiMethod fun t => do pure (.int .u8 (← Rtype.kind t))) Tryd.func40 (by kernel_rfl) (by kernel_rfl) (by kernel_rfl) (by kernel_rfl)
  have h55 := @run_callFunc_extern Tryd.prog 55 _ (ReflectliteType.method ReflectliteType.elem) Tryd.func55 (by kernel_rfl) (by kernel_rfl) (by kernel_rfl) (by kernel_rfl)
  have h56 := @run_callFunc_extern Tryd.prog 56 _ (ReflectliteType.relation "Implements" ReflectliteType.implements_) Tryd.func56 (by kernel_rfl) (by kernel_rfl) (by kernel_rfl) (by kernel_rfl)
  have f6 := Fw.valueOf
  have f7 := Fw.type53
  have mK := Fw.methodKind
  have mE := Fw.methodElem
  have mI := Fw.methodImplements
  have k1 := Fw.kind53
  have k2 := Fw.kind24
  have e1 := Fw.elem53
  have i1 := Fw.implements24
  have n8 := Fw.isNil53 ⟨w.heap.size, 0, none⟩ t ((w.alloc (.cells #[.pointer (some t)] 53)).alloc (.cells #[.pointer (some ⟨1, 53, none⟩), .pointer (some ⟨w.heap.size, 0, none⟩), .int .u64 150] 61)) (by simp)
  have hta := cell_lt ht
  have hlt : 0 < w.heap.size := cell_lt hg
  have hb : Below w.heap.size w ((w.alloc (.cells #[.pointer (some t)] 53)).alloc (.cells #[.pointer (some ⟨1, 53, none⟩), .pointer (some ⟨w.heap.size, 0, none⟩), .int .u64 150] 61)) := ((Below.refl _ w).alloc (Nat.le_refl _) _).alloc (by simp) _
  have hg2 : ((w.alloc (.cells #[.pointer (some t)] 53)).alloc (.cells #[.pointer (some ⟨1, 53, none⟩), .pointer (some ⟨w.heap.size, 0, none⟩), .int .u64 150] 61)).cell? ⟨0, 0, none⟩ = some (.iface 76 (.agg #[.pointer (some ⟨1, 26, none⟩)])) := hg.below hb
  have hc := as24 e v t ⟨w.heap.size, 0, none⟩ old ((w.alloc (.cells #[.pointer (some t)] 53)).alloc (.cells #[.pointer (some ⟨1, 53, none⟩), .pointer (some ⟨w.heap.size, 0, none⟩), .int .u64 150] 61)) (he.below hb) ((hb.cell hta).trans ht) ((hb.frozen hta).trans hf) (by simp)
  have hcc : Calls Tryd.prog 23 _ _ fun ev w' => Found24 e.num? w t ev w' := hc.mono fun ev w' h => by
    rcases h with ⟨k, h1, h2, w1, h3, h4⟩ | ⟨h1, h2, h3⟩
    · exact .inl ⟨k, h1, h2, w1, hb.trans (h3.mono hb.size), h4⟩
    · exact .inr ⟨h1, h2, hb.trans (h3.mono hb.size)⟩
  clear hc
  obtain ⟨ty, x, rfl⟩ := he.iface
  have A : Aside (ErrT w) := hg
  clear hg he hb
  go_enter Tryd.func15, Tryd.ntmps15
  go_wp2_with (go_at_call 23; refine hcc.mono ?_; intro ev w' hfnd; obtain ⟨bb, rfl⟩ := hfnd.bool)
  go_ret
  exact hfnd

set_option maxRecDepth 100000 in
set_option maxHeartbeats 8000000 in
theorem As40 (e : Ch) (v : Value) (t : Addr) (old : Value) (w : World) (hg : ErrT w) (he : e.Holds w v) (ht : w.cell? t = some old) (hf : w.frozen? t = false) :
    Calls Tryd.prog 15 #[v, .iface 44 (.pointer (some t))] w fun ev w' => Found40 e.top? w t ev w' := by
  have h20 := @run_callFunc_extern Tryd.prog 20 _ (fun args => ReflectliteValue.unpack (args.getD 0 (.tuple #[]))) Tryd.func20 (by kernel_rfl) (by kernel_rfl) (by kernel_rfl) (by kernel_rfl)
  have h21 := @run_callFunc_extern Tryd.prog 21 _ (ReflectliteValue.methodAny (ReflectliteValue.valueError "reflectlite.Value.Type" 0) (fun t _ _ _ => ReflectliteType.toType t)) Tryd.func21 (by kernel_rfl) (by kernel_rfl) (by kernel_rfl) (by kernel_rfl)
  have h22 := @run_callFunc_extern Tryd.prog 22 _ (ReflectliteValue.method (ReflectliteValue.valueError "reflectlite.Value.IsNil" 0) ReflectliteValue.isNil) Tryd.func22 (by kernel_rfl) (by kernel_rfl) (by kernel_rfl) (by kernel_rfl)
  have h40 := @run_callFunc_extern Tryd.prog 40 _ (ReflectliteType.abiMethod fun t => do pure (.int .u8 (← Rtype.kind t))) Tryd.func40 (by kernel_rfl) (by kernel_rfl) (by kernel_rfl) (by kernel_rfl)
  have h55 := @run_callFunc_extern Tryd.prog 55 _ (ReflectliteType.method ReflectliteType.elem) Tryd.func55 (by kernel_rfl) (by kernel_rfl) (by kernel_rfl) (by kernel_rfl)
  have h56 := @run_callFunc_extern Tryd.prog 56 _ (ReflectliteType.relation "Implements" ReflectliteType.implements_) Tryd.func56 (by kernel_rfl) (by kernel_rfl) (by kernel_rfl) (by kernel_rfl)
  have f6 := Fw.valueOf44
  have f7 := Fw.type44
  have mK := Fw.methodKind
  have mE := Fw.methodElem
  have mI := Fw.methodImplements
  have k1 := Fw.kind44
  have k2 := Fw.kind40
  have e1 := Fw.elem44
  have i1 := Fw.implements40
  have n8 := Fw.isNil44 ⟨w.heap.size, 0, none⟩ t ((w.alloc (.cells #[.pointer (some t)] 44)).alloc (.cells #[.pointer (some ⟨1, 44, none⟩), .pointer (some ⟨w.heap.size, 0, none⟩), .int .u64 150] 61)) (by simp)
  have hta := cell_lt ht
  have hlt : 0 < w.heap.size := cell_lt hg
  have hb : Below w.heap.size w ((w.alloc (.cells #[.pointer (some t)] 44)).alloc (.cells #[.pointer (some ⟨1, 44, none⟩), .pointer (some ⟨w.heap.size, 0, none⟩), .int .u64 150] 61)) := ((Below.refl _ w).alloc (Nat.le_refl _) _).alloc (by simp) _
  have hg2 : ((w.alloc (.cells #[.pointer (some t)] 44)).alloc (.cells #[.pointer (some ⟨1, 44, none⟩), .pointer (some ⟨w.heap.size, 0, none⟩), .int .u64 150] 61)).cell? ⟨0, 0, none⟩ = some (.iface 76 (.agg #[.pointer (some ⟨1, 26, none⟩)])) := hg.below hb
  have hc := as40 e v t ⟨w.heap.size, 0, none⟩ old ((w.alloc (.cells #[.pointer (some t)] 44)).alloc (.cells #[.pointer (some ⟨1, 44, none⟩), .pointer (some ⟨w.heap.size, 0, none⟩), .int .u64 150] 61)) (he.below hb) ((hb.cell hta).trans ht) ((hb.frozen hta).trans hf) (by simp)
  have hcc : Calls Tryd.prog 23 _ _ fun ev w' => Found40 e.top? w t ev w' := hc.mono fun ev w' h => by
    rcases h with ⟨a, op, p, h1, h2, w1, h3, h4⟩ | ⟨h1, h2, h3⟩
    · exact .inl ⟨a, op, p, h1, h2, w1, hb.trans (h3.mono hb.size), h4⟩
    · exact .inr ⟨h1, h2, hb.trans (h3.mono hb.size)⟩
  clear hc
  obtain ⟨ty, x, rfl⟩ := he.iface
  have A : Aside (ErrT w) := hg
  clear hg he hb
  go_enter Tryd.func15, Tryd.ntmps15
  go_wp2_with (go_at_call 23; refine hcc.mono ?_; intro ev w' hfnd; obtain ⟨bb, rfl⟩ := hfnd.bool)
  go_ret
  exact hfnd
end Go.Proofs.YtgehndnlbbkieaaDoor
