/- errors.is and errors.Is at a number. -/
import Derived.Test.YtgehndnlbbkieaaDoorFw4
set_option linter.unusedVariables false
set_option linter.unusedSimpArgs false
set_option maxRecDepth 100000
namespace Go.Proofs.YtgehndnlbbkieaaDoor
open Go.RowKit Go.Extern.Stop Go.Stop Go.Extern

theorem Fw.eq24 (k n : Int) (w : World) : (binOp .eql 26 (.iface 24 (.int .i64 k)) (.iface 24 (.int .i64 n))).run Tryd.prog w = .ok (.bool (k == n)) w := by kernel_rfl
theorem Fw.eq68_24 (x y : Value) (w : World) : (binOp .eql 26 (.iface 68 x) (.iface 24 y)).run Tryd.prog w = .ok (.bool false) w := run_eql_iface_types 68 24 x y Tryd.underlying26 (by decide) w
theorem Fw.eq40_24 (x y : Value) (w : World) : (binOp .eql 26 (.iface 40 x) (.iface 24 y)).run Tryd.prog w = .ok (.bool false) w := run_eql_iface_types 40 24 x y Tryd.underlying26 (by decide) w
theorem Fw.cmp24 (w : World) : (ReflectliteType.method (fun t => do Rtype.noPackHeld "Comparable" t; (fun a : TypeInfo => Value.bool a.comparable) <$> typeInfo t) #[.agg #[.pointer (some ⟨1, 24, none⟩)]]).run Tryd.prog w = .ok (.bool true) w := by kernel_rfl
theorem Fw.cmp68 (w : World) : (ReflectliteType.method (fun t => do Rtype.noPackHeld "Comparable" t; (fun a : TypeInfo => Value.bool a.comparable) <$> typeInfo t) #[.agg #[.pointer (some ⟨1, 68, none⟩)]]).run Tryd.prog w = .ok (.bool true) w := by kernel_rfl
/-- is a number among what an error wraps? -/
def Ch.isNum (a : Int) : Ch → Bool
  | .num k => k == a
  | .str _ => false
  | .flt _ _ _ e => e.isNum a
set_option maxRecDepth 100000 in
set_option maxHeartbeats 8000000 in
theorem is24 (e : Ch) (v : Value) (n : Int) (w : World) (he : e.Holds w v) :
    Calls Tryd.prog 19 #[v, .iface 24 (.int .i64 n), .bool true] w fun ev w' => ev = .returned (.bool (e.isNum n)) ∧ w' = w := by
  have q1 := Fw.ta40_78
  have q2 := Fw.ta40_81
  have q3 := Fw.ta68_78
  have q4 := Fw.ta68_81
  have q5 := Fw.ta68_83
  have q6 := Fw.ta24_78
  have q7 := Fw.ta24_81
  have q8 := Fw.ta24_83
  have mU := Fw.unwrap40
  have b1 := Fw.eq24
  have b2 := Fw.eq68_24
  have b3 := Fw.eq40_24
  go_enter Tryd.func19, Tryd.ntmps19
  go_wp2
  go_loopg [0] e.len (fun k v wr => ∃ e' : Ch, e'.len ≤ k ∧ e'.Holds w v ∧ e'.isNum n = e.isNum n ∧ wr = w)
  case atStart => exact ⟨e, Nat.le_refl _, he, rfl, rfl⟩
  case round =>
    obtain ⟨e', hk, hh, hn, rfl⟩ := hrel
    have A : Aside (e'.len ≤ gk ∧ e'.isNum n = e.isNum n) := ⟨hk, hn⟩
    clear hk hn
    cases e' with
    | num k =>
      obtain rfl := hh
      by_cases hkn : k = n
      · subst hkn
        have b0 : (k == k) = true := by simp
        go_wp2
        go_ret
        exact ⟨by rw [← A.out.2]; simp [Ch.isNum, b0], rfl⟩
      · have b0 : (k == n) = false := by simp [hkn]
        have C : Aside (k ≠ n) := hkn
        clear hkn
        go_wp2
        go_ret
        exact ⟨by rw [← A.out.2]; simp [Ch.isNum, b0], rfl⟩
    | str a' =>
      obtain ⟨rfl, hlt⟩ := hh
      go_wp2
      go_ret
      exact ⟨by rw [← A.out.2]; rfl, rfl⟩
    | flt a' op p e'' =>
      obtain ⟨rfl, hlt, c0, c1, u, c2, hu⟩ := hh
      obtain ⟨tt, vv, rfl⟩ := hu.iface
      have B : Aside (Ch.Holds wr e'' (.iface tt vv)) := hu
      clear c0 c1 hu
      go_wp2
      go_roundg (gk - 1)
      case measure =>
        have := A.out.1
        simp only [Ch.len] at this
        omega
      case rel =>
        obtain ⟨hk, hn⟩ := A.out
        refine ⟨e'', ?_, B.out, hn, rfl⟩
        simp only [Ch.len] at hk
        omega
/-- errors.Is(e, a number) -/
theorem Is24 (e : Ch) (v : Value) (n : Int) (w : World) (he : e.Holds w v) :
    Calls Tryd.prog 13 #[v, .iface 24 (.int .i64 n)] w fun ev w' => ev = .returned (.bool (e.isNum n)) ∧ w' = w := by
  have h18 := @run_callFunc_extern Tryd.prog 18 _ ReflectliteType.typeOf Tryd.func18 (by kernel_rfl) (by kernel_rfl) (by kernel_rfl) (by kernel_rfl)
  have h54 := @run_callFunc_extern Tryd.prog 54 _ (ReflectliteType.method (fun t => do Rtype.noPackHeld "Comparable" t; pure (.bool (← typeInfo t).comparable))) Tryd.func54 (by kernel_rfl) (by kernel_rfl) (by kernel_rfl) (by kernel_rfl)
  have tO := Fw.typeOf24
  have mC := Fw.methodComparable
  have cc := Fw.cmp24
  have hc := is24 e v n w he
  obtain ⟨ty, x, rfl⟩ := he.iface
  clear he
  go_enter Tryd.func13, Tryd.ntmps13
  go_wp2_with (go_at_call 19; refine hc.mono ?_; rintro ev w' ⟨rfl, rfl⟩)
  go_ret
  exact ⟨rfl, rfl⟩
end Go.Proofs.YtgehndnlbbkieaaDoor
