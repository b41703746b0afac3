/- FailInner and FailOther answer true. -/
import Derived.Test.YtgehndnlbbkieaaDoorFw8
set_option maxRecDepth 100000
set_option linter.unusedVariables false
set_option linter.unusedSimpArgs false
namespace Go.Proofs.YtgehndnlbbkieaaDoor
open Go.RowKit Go.Extern.Stop Go.Stop Go.Extern
set_option maxHeartbeats 4000000 in
theorem FailInner_c (op : Int) (p : ByteArray) (a b : Int) (w : World) (hg : ErrT w) : Calls Tryd.prog 4 #[.int .i64 op, .string p, .int .i64 a, .int .i64 b] w fun ev w' => ev = .returned (.bool true) ∧ Below w.heap.size w w' := by
  by_cases h1 : a < 1
  · clear hg
    go_enter Tryd.func4, Tryd.ntmps4
    go_wp2_with (fail)
    go_ret
    exact ⟨rfl, Below.refl _ _⟩
  by_cases h2 : 11 < a
  · clear hg
    go_enter Tryd.func4, Tryd.ntmps4
    go_wp2_with (fail)
    go_ret
    exact ⟨rfl, Below.refl _ _⟩
  by_cases h3 : b < 1
  · clear hg
    go_enter Tryd.func4, Tryd.ntmps4
    go_wp2_with (fail)
    go_ret
    exact ⟨rfl, Below.refl _ _⟩
  by_cases h4 : 11 < b
  · clear hg
    go_enter Tryd.func4, Tryd.ntmps4
    go_wp2_with (fail)
    go_ret
    exact ⟨rfl, Below.refl _ _⟩
  by_cases h5 : 100 < (p.size : Int)
  · clear hg
    go_enter Tryd.func4, Tryd.ntmps4
    go_wp2_with (fail)
    go_ret
    exact ⟨rfl, Below.refl _ _⟩
  exact inner_main op p a b w hg h1 h2 h3 h4 h5

theorem Fw.eq40_68 (x y : Value) (w : World) : (binOp .eql 26 (.iface 40 x) (.iface 68 y)).run Tryd.prog w = .ok (.bool false) w := run_eql_iface_types 40 68 x y Tryd.underlying26 (by decide) w
theorem Fw.eq68_68 (b : Nat) (w : World) : (binOp .eql 26 (.iface 68 (.pointer (some ⟨b, 0, none⟩))) (.iface 68 (.pointer (some ⟨b, 0, none⟩)))).run Tryd.prog w = .ok (.bool true) w := by
  have u68 := fun w => run_underlying (P := Tryd.prog) Tryd.underlying68 w
  have u26 := fun w => run_underlying (P := Tryd.prog) Tryd.underlying26 w
  have s70 : ∀ w, (sizeOf 70).run Tryd.prog w = .ok 1 w := fun w => by kernel_rfl
  have h0 : ∀ d : Nat, (Op.equalIn (d + 1) 68 (.pointer (some ⟨b, 0, none⟩)) (.pointer (some ⟨b, 0, none⟩))).run Tryd.prog w = .ok true w := fun d => by
    simp [Op.equalIn, u68, s70, sameAddr]
  have h : ∀ d : Nat, (Op.equalIn (d + 1 + 1) 26 (.iface 68 (.pointer (some ⟨b, 0, none⟩))) (.iface 68 (.pointer (some ⟨b, 0, none⟩)))).run Tryd.prog w = .ok true w := fun d => by
    rw [Op.equalIn]
    have hc68 : Tryd.t68.comparable = true := by kernel_rfl
    simp [u26, h0, hc68]
  simp only [binOp]
  simp [Op.equal, Op.maxDepth, h 9998]
set_option maxHeartbeats 4000000 in
/-- errors.Is(a fault about an error in words, that error) -/
theorem is68 (a b : Nat) (w : World) (h2 : w.cell? ⟨a, 2, none⟩ = some (.iface 68 (.pointer (some ⟨b, 0, none⟩)))) :
    Calls Tryd.prog 19 #[.iface 40 (.pointer (some ⟨a, 0, none⟩)), .iface 68 (.pointer (some ⟨b, 0, none⟩)), .bool true] w fun ev w' => ev = .returned (.bool true) ∧ w' = w := by
  have q1 := Fw.ta40_78
  have q2 := Fw.ta40_81
  have mU := Fw.unwrap40
  have b3 := Fw.eq40_68
  have b4 := Fw.eq68_68
  go_enter Tryd.func19, Tryd.ntmps19
  go_wp2
  refine wp_loop_rounds 2 ?_
  rw [rounds_succ]
  go_wp2
  rw [rounds_succ]
  go_wp2
  go_ret
  exact ⟨rfl, rfl⟩
set_option maxHeartbeats 4000000 in
theorem Is68 (a b : Nat) (w : World) (h2 : w.cell? ⟨a, 2, none⟩ = some (.iface 68 (.pointer (some ⟨b, 0, none⟩)))) :
    Calls Tryd.prog 13 #[.iface 40 (.pointer (some ⟨a, 0, none⟩)), .iface 68 (.pointer (some ⟨b, 0, none⟩))] w fun ev w' => ev = .returned (.bool true) ∧ w' = w := by
  have h18 := @run_callFunc_extern Tryd.prog 18 _ ReflectliteType.typeOf Tryd.func18 (by kernel_rfl) (by kernel_rfl) (by kernel_rfl) (by kernel_rfl)
  have h54 := @run_callFunc_extern Tryd.prog 54 _ (ReflectliteType.method (fun t => do Rtype.noPackHeld "Comparable" t; pure (.bool (← typeInfo t).comparable))) Tryd.func54 (by kernel_rfl) (by kernel_rfl) (by kernel_rfl) (by kernel_rfl)
  have tO := Fw.typeOf68
  have mC := Fw.methodComparable
  have cc := Fw.cmp68
  have hc := is68 a b w h2
  clear h2
  go_enter Tryd.func13, Tryd.ntmps13
  go_wp2_with (go_at_call 19; refine hc.mono ?_; rintro ev w' ⟨rfl, rfl⟩)
  go_ret
  exact ⟨rfl, rfl⟩
set_option maxHeartbeats 4000000 in
theorem other_main (op : Int) (p s : ByteArray) (w : World) (hg : ErrT w) (h1 : ¬ 100 < (p.size : Int)) (h2 : ¬ 100 < (s.size : Int)) : Calls Tryd.prog 5 #[.int .i64 op, .string p, .string s] w fun ev w' => ev = .returned (.bool true) ∧ Below w.heap.size w w' := by
  have hb0 : Below w.heap.size w (w.alloc (.cells #[.string s] 70)) := (Below.refl _ w).alloc (Nat.le_refl _) _
  have k1 : (Ch.str w.heap.size).Holds (w.alloc (.cells #[.string s] 70)) (.iface 68 (.pointer (some ⟨w.heap.size, 0, none⟩))) := ⟨rfl, by simp⟩
  have k2 := wrapped' (op := op) (p := p) k1 (w.heap.size + 1) (by simp)
  have hS : Kept w _ _ _ := ⟨hb0.trans (k2.1.mono hb0.size), (hg.below hb0).below k2.1, k2.2⟩
  have hI : Kept w _ _ _ := ⟨hb0.trans (k2.1.mono hb0.size), (hg.below hb0).below k2.1, k1.below k2.1⟩
  have c1 := New s w
  have c2 := Wrap_ch _ rfl op p _ _ k1
  clear k1 k2 hb0
  go_enter Tryd.func5, Tryd.ntmps5
  go_wp2_with (fail)
  refine c1.mono ?_; rintro ev w' ⟨rfl, rfl⟩
  clear c1
  go_wp2_with (fail)
  refine c2.mono ?_; rintro ev w' ⟨rfl, rfl⟩
  clear c2
  go_wp2_with (fail)
  refine (Where_flt _ _ _ _ _ _ hS.err hS.holds).mono ?_
  rintro ev w3 ⟨rfl, hk⟩
  replace hS := hS.step hk
  replace hI := hI.step hk
  clear hk
  go_wp2_with (fail)
  refine (Where_no _ _ _ (fun _ _ _ _ h => by cases h) hI.err hI.holds).mono ?_
  rintro ev w4 ⟨rfl, hk⟩
  replace hS := hS.step hk
  replace hI := hI.step hk
  clear hk
  go_wp2_with (fail)
  refine (Code_at _ _ _ 1 rfl hS.err hS.holds).mono ?_
  rintro ev w5 ⟨rfl, hk⟩
  replace hS := hS.step hk
  replace hI := hI.step hk
  clear hk
  go_wp2_with (fail)
  have h5 : w5.cell? ⟨w.heap.size + 1, 2, none⟩ = some (.iface 68 (.pointer (some ⟨w.heap.size, 0, none⟩))) := by
    obtain ⟨_, _, _, _, u, hu, rfl, _⟩ := hS.holds
    exact hu
  refine (Is68 _ _ _ h5).mono ?_
  clear h5
  rintro ev w6 ⟨rfl, rfl⟩
  go_wp2_with (fail)
  refine (Wrap_nil _ _ _).mono ?_
  rintro ev w7 ⟨rfl, rfl⟩
  go_wp2_with (fail)
  refine (Code_at _ _ _ 1 rfl hI.err hI.holds).mono ?_
  rintro ev w8 ⟨rfl, hk⟩
  replace hS := hS.step hk
  replace hI := hI.step hk
  clear hk
  go_wp2_with (fail)
  refine (known_c _ hS.err).mono ?_
  rintro ev w9 ⟨rfl, hk⟩
  replace hS := hS.step hk
  clear hk
  go_wp2_with (fail)
  go_ret
  exact ⟨rfl, hS.below⟩
theorem FailOther_c (op : Int) (p s : ByteArray) (w : World) (hg : ErrT w) : Calls Tryd.prog 5 #[.int .i64 op, .string p, .string s] w fun ev w' => ev = .returned (.bool true) ∧ Below w.heap.size w w' := by
  by_cases h1 : 100 < (p.size : Int)
  · clear hg
    go_enter Tryd.func5, Tryd.ntmps5
    go_wp2_with (fail)
    go_ret
    exact ⟨rfl, Below.refl _ _⟩
  by_cases h2 : 100 < (s.size : Int)
  · clear hg
    go_enter Tryd.func5, Tryd.ntmps5
    go_wp2_with (fail)
    go_ret
    exact ⟨rfl, Below.refl _ _⟩
  exact other_main op p s w hg h1 h2
end Go.Proofs.YtgehndnlbbkieaaDoor
