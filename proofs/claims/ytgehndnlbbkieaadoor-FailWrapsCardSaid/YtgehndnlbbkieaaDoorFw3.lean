/- errors.as at *api.Errno. -/
import Derived.Test.YtgehndnlbbkieaaDoorFw2
set_option linter.unusedVariables false
set_option linter.unusedSimpArgs false
namespace Go.Proofs.YtgehndnlbbkieaaDoor
open Go.RowKit Go.Extern.Stop Go.Stop Go.Extern

theorem Ch.Holds.iface {w : World} : ∀ {e : Ch} {v : Value}, e.Holds w v → ∃ t x, v = .iface t x
  | .num k, v, he => ⟨_, _, he⟩
  | .str a, v, he => ⟨_, _, he.1⟩
  | .flt a op p e, v, he => ⟨_, _, he.1⟩
theorem cell_lt {w : World} {t : Addr} {v : Value} (ht : w.cell? t = some v) : t.block < w.heap.size := by
  rcases Nat.lt_or_ge t.block w.heap.size with h | h
  · exact h
  · simp [World.cell?, Array.getElem?_eq_none h] at ht

/-- what errors.As tells of a number: it is found, and laid at t; or it is not there -/
def Found24 (o : Option Int) (w : World) (t : Addr) (ev : Ending) (w' : World) : Prop :=
  (∃ k, o = some k ∧ ev = .returned (.bool true) ∧ ∃ w1, Below w.heap.size w w1 ∧ w' = w1.setCell t (.int .i64 k)) ∨ (o = none ∧ ev = .returned (.bool false) ∧ Below w.heap.size w w')

set_option maxRecDepth 100000 in
set_option maxHeartbeats 8000000 in
theorem as24 (e : Ch) (v : Value) (t a : Addr) (old : Value) (w : World) (he : e.Holds w v) (ht : w.cell? t = some old) (hf : w.frozen? t = false) (ha : w.cell? a = some (.pointer (some t))) :
    Calls Tryd.prog 23 #[v, .iface 53 (.pointer (some t)), .agg #[.pointer (some ⟨1, 53, none⟩), .pointer (some a), .int .u64 150], .iface 76 (.agg #[.pointer (some ⟨1, 24, none⟩)])] w fun ev w' => Found24 e.num? w t ev w' := by
  have h18 := @run_callFunc_extern Tryd.prog 18 _ ReflectliteType.typeOf Tryd.func18 (by kernel_rfl) (by kernel_rfl) (by kernel_rfl) (by kernel_rfl)
  have h53 := @run_callFunc_extern Tryd.prog 53 _ (ReflectliteType.relation "AssignableTo" ReflectliteType.assignableTo) Tryd.func53 (by kernel_rfl) (by kernel_rfl) (by kernel_rfl) (by kernel_rfl)
  have h24 := @run_callFunc_extern Tryd.prog 24 _ (ReflectliteValue.method (ReflectliteValue.valueError "reflectlite.Value.Elem" 0) ReflectliteValue.elem) Tryd.func24 (by kernel_rfl) (by kernel_rfl) (by kernel_rfl) (by kernel_rfl)
  have h20 := @run_callFunc_extern Tryd.prog 20 _ (fun args => ReflectliteValue.unpack (args.getD 0 (.tuple #[]))) Tryd.func20 (by kernel_rfl) (by kernel_rfl) (by kernel_rfl) (by kernel_rfl)
  have h25 := @run_callFunc_extern Tryd.prog 25 _ ReflectliteValue.set Tryd.func25 (by kernel_rfl) (by kernel_rfl) (by kernel_rfl) (by kernel_rfl)
  have tO := Fw.typeOf24
  have tO2 := Fw.typeOf40
  have tO3 := Fw.typeOf68
  have mA := Fw.methodAssignableTo
  have mU := Fw.unwrap40
  have aa := Fw.as24_24
  have aa2 := Fw.as40_24
  have aa3 := Fw.as68_24
  have v24 := Fw.valueOf24
  have q1 := Fw.ta40_87
  have q2 := Fw.ta40_81
  have q3 := Fw.ta68_87
  have q4 := Fw.ta68_81
  have q5 := Fw.ta68_83
  have hta := cell_lt ht
  have haa := cell_lt ha
  go_enter Tryd.func23, Tryd.ntmps23
  go_wp2
  go_loopg [0] e.len (fun k v wr => ∃ e' : Ch, e'.len ≤ k ∧ e'.Holds w v ∧ e'.num? = e.num? ∧ Below (w.heap.size + 1) (w.alloc (.cells #[.pointer (some ⟨1, 53, none⟩), .pointer (some a), .int .u64 150] 61)) wr)
  case atStart => exact ⟨e, Nat.le_refl _, he, rfl, Below.refl _ _⟩
  case round =>
    obtain ⟨e', hk, hh, hn, hb⟩ := hrel
    have hbw : Below w.heap.size w wr := ((Below.refl _ w).alloc (Nat.le_refl _) _).trans (hb.mono (Nat.le_succ _))
    have hx : ∀ i, wr.cell? ⟨w.heap.size, i, none⟩ = (w.alloc (.cells #[.pointer (some ⟨1, 53, none⟩), .pointer (some a), .int .u64 150] 61)).cell? ⟨w.heap.size, i, none⟩ := fun i => hb.cell (Nat.lt_succ_self _)
    have x0 : wr.cell? ⟨w.heap.size, 0, none⟩ = some (.pointer (some ⟨1, 53, none⟩)) := by rw [hx]; simp
    have x1 : wr.cell? ⟨w.heap.size, 1, none⟩ = some (.pointer (some a)) := by rw [hx]; simp
    have x2 : wr.cell? ⟨w.heap.size, 2, none⟩ = some (.int .u64 150) := by rw [hx]; simp
    have haw : wr.cell? a = some (.pointer (some t)) := (hbw.cell haa).trans ha
    have htw : wr.cell? t = some old := (hbw.cell hta).trans ht
    have hfw : wr.frozen? t = false := (hbw.frozen hta).trans hf
    have hsz := hbw.size
    have A : Aside (e'.len ≤ gk ∧ e'.num? = e.num? ∧ Below w.heap.size w wr ∧ Below (w.heap.size + 1) (w.alloc (.cells #[.pointer (some ⟨1, 53, none⟩), .pointer (some a), .int .u64 150] 61)) wr) := ⟨hk, hn, hbw, hb⟩
    clear hk hn hb hbw hx
    cases e' with
    | num k =>
      obtain rfl := hh
      have el := Fw.elemV53 a t wr haw
      have st := Fw.set24 t ⟨wr.heap.size, 0, none⟩ k old (wr.alloc (.cells #[.int .i64 k] 24)) (by rw [World.cell?_alloc_at _ _ _ _ (by simp)]; rfl)
        (by rw [World.cell?_alloc_lt _ _ t (by omega)]; exact htw) (by rw [World.frozen?_alloc_old _ _ t (by omega)]; exact hfw)
      go_wp2
      go_ret
      obtain ⟨hk, hn, hbw, hb⟩ := A.out
      exact .inl ⟨k, hn.symm, rfl, _, hbw.alloc hbw.size _, rfl⟩
    | str a' =>
      obtain ⟨rfl, hlt⟩ := hh
      go_wp2
      go_ret
      obtain ⟨hk, hn, hbw, hb⟩ := A.out
      exact .inr ⟨hn.symm, rfl, hbw⟩
    | flt a' op p e'' =>
      obtain ⟨rfl, hlt, c0, c1, u, c2, hu⟩ := hh
      have c2w : wr.cell? ⟨a', 2, none⟩ = some u := (A.out.2.2.1.cell hlt).trans c2
      obtain ⟨tt, vv, rfl⟩ := hu.iface
      have B : Aside (Ch.Holds w e'' (.iface tt vv)) := hu
      clear c0 c1 c2 hu
      go_wp2
      go_roundg (gk - 1)
      case measure =>
        have := A.out.1
        simp only [Ch.len] at this
        omega
      case rel =>
        obtain ⟨hk, hn, hbw, hb⟩ := A.out
        refine ⟨e'', ?_, B.out, hn, hb⟩
        simp only [Ch.len] at hk
        omega
end Go.Proofs.YtgehndnlbbkieaaDoor
