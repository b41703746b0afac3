/- fail.Wrap, errors.New, fail.Code, fail.Where by contract. -/
import Derived.Test.YtgehndnlbbkieaaDoorFw5
import Derived.RegionTactic
set_option linter.unusedVariables false
set_option linter.unusedSimpArgs false
set_option maxRecDepth 100000
namespace Go.Proofs.YtgehndnlbbkieaaDoor
open Go.RowKit Go.Extern.Stop Go.Stop Go.Extern

theorem Fw.tn24 (x : Value) (w : World) : (Instr.typeAssert (.iface 24 x) 26 24 true).run Tryd.prog w = .ok (.tuple #[x, .bool true]) w := by kernel_rfl
theorem Fw.tn40 (x : Value) (w : World) : (Instr.typeAssert (.iface 40 x) 26 24 true).run Tryd.prog w = .ok (.tuple #[.int .i64 0, .bool false]) w := by kernel_rfl
theorem Fw.tn68 (x : Value) (w : World) : (Instr.typeAssert (.iface 68 x) 26 24 true).run Tryd.prog w = .ok (.tuple #[.int .i64 0, .bool false]) w := by kernel_rfl
theorem Fw.tnnil (w : World) : (Instr.typeAssert .nilIface 26 24 true).run Tryd.prog w = .ok (.tuple #[.int .i64 0, .bool false]) w := by kernel_rfl
/-- is it the number nought? -/
def Ch.nought : Ch → Bool
  | .num k => k == 0
  | _ => false
/-- wrapping: a fault about what it was, in new memory -/
theorem Wrap_ch (c : Ch) (hz : c.nought = false) (op : Int) (p : ByteArray) (v : Value) (w : World) (hc : c.Holds w v) : Calls Tryd.prog 7 #[.int .i64 op, .string p, v] w fun ev w' =>
    ev = .returned (.iface 40 (.pointer (some ⟨w.heap.size, 0, none⟩))) ∧ w' = w.alloc (.cells #[.int .i64 op, .string p, v] 42) := by
  have t1 := Fw.tn24
  have t2 := Fw.tn40
  have t3 := Fw.tn68
  cases c with
  | num k =>
    obtain rfl := hc
    have hk : (k == 0) = false := hz
    go_enter Tryd.func7, Tryd.ntmps7
    go_wp2
    go_ret
    exact ⟨rfl, rfl⟩
  | str a =>
    obtain ⟨rfl, _⟩ := hc
    go_enter Tryd.func7, Tryd.ntmps7
    go_wp2
    go_ret
    exact ⟨rfl, rfl⟩
  | flt a _ _ _ =>
    obtain ⟨rfl, _⟩ := hc
    go_enter Tryd.func7, Tryd.ntmps7
    go_wp2
    go_ret
    exact ⟨rfl, rfl⟩
theorem wrapped {c : Ch} {op : Int} {p : ByteArray} {v : Value} {w : World} (hc : c.Holds w v) :
    Below w.heap.size w (w.alloc (.cells #[.int .i64 op, .string p, v] 42)) ∧ (Ch.flt w.heap.size op p c).Holds (w.alloc (.cells #[.int .i64 op, .string p, v] 42)) (.iface 40 (.pointer (some ⟨w.heap.size, 0, none⟩))) := by
  have hb : Below w.heap.size w (w.alloc (.cells #[.int .i64 op, .string p, v] 42)) := (Below.refl _ w).alloc (Nat.le_refl _) _
  exact ⟨hb, rfl, by simp, by simp, by simp, v, by simp, hc.below hb⟩
theorem Wrap_zero (op : Int) (p : ByteArray) (w : World) : Calls Tryd.prog 7 #[.int .i64 op, .string p, .iface 24 (.int .i64 0)] w fun ev w' => ev = .returned .nilIface ∧ w' = w := by
  have t1 := Fw.tn24
  go_enter Tryd.func7, Tryd.ntmps7
  go_wp2
  go_ret
  exact ⟨rfl, rfl⟩
theorem Wrap_nil (op : Int) (p : ByteArray) (w : World) : Calls Tryd.prog 7 #[.int .i64 op, .string p, .nilIface] w fun ev w' => ev = .returned .nilIface ∧ w' = w := by
  have t1 := Fw.tnnil
  go_enter Tryd.func7, Tryd.ntmps7
  go_wp2
  go_ret
  exact ⟨rfl, rfl⟩
theorem New (s : ByteArray) (w : World) : Calls Tryd.prog 16 #[.string s] w fun ev w' => ev = .returned (.iface 68 (.pointer (some ⟨w.heap.size, 0, none⟩))) ∧ w' = w.alloc (.cells #[.string s] 70) := by
  go_enter Tryd.func16, Tryd.ntmps16
  go_wp2
  go_ret
  exact ⟨rfl, rfl⟩

/-! ### Code -/
def Ch.code (e : Ch) : Int := e.num?.getD 1
theorem Code_nil (w : World) : Calls Tryd.prog 11 #[.nilIface] w fun ev w' => ev = .returned (.int .i64 0) ∧ Below w.heap.size w w' := by
  go_enter Tryd.func11, Tryd.ntmps11
  go_wp2
  go_ret
  exact ⟨rfl, by first | exact Below.refl _ _ | exact (Below.refl _ w).alloc (Nat.le_refl _) _⟩
set_option maxHeartbeats 8000000 in
theorem Code_ch (e : Ch) (v : Value) (w : World) (hg : ErrT w) (he : e.Holds w v) : Calls Tryd.prog 11 #[v] w fun ev w' => ev = .returned (.int .i64 e.code) ∧ Below w.heap.size w w' := by
  have hb : Below w.heap.size w (w.alloc (.cells #[.int .i64 0] 24)) := (Below.refl _ w).alloc (Nat.le_refl _) _
  have hc := As24 e v ⟨w.heap.size, 0, none⟩ (.int .i64 0) (w.alloc (.cells #[.int .i64 0] 24)) (hg.below hb) (he.below hb) (by simp) (by simp)
  have A : Aside (Below w.heap.size w (w.alloc (.cells #[.int .i64 0] 24))) := hb
  obtain ⟨ty, x, rfl⟩ := he.iface
  clear hg he hb
  cases hn : e.num? with
  | some k =>
    have hc' : Calls Tryd.prog 15 _ _ _ := hc.mono (R' := fun ev w' => ev = .returned (.bool true) ∧ w'.cell? ⟨w.heap.size, 0, none⟩ = some (.int .i64 k) ∧ Aside (Below w.heap.size w w')) fun ev w' h => by
      rcases h with ⟨k', h1, h2, w1, h3, rfl⟩ | ⟨h1, _⟩
      · rw [hn] at h1; cases h1
        have h4 : w1.cell? ⟨w.heap.size, 0, none⟩ = some (.int .i64 0) := (h3.cell (by simp)).trans (by simp)
        exact ⟨h2, World.cell?_setCell_same' _ _ _ (by rw [h4]; rfl), (A.out.trans (h3.mono A.out.size)).setCell (Nat.le_refl _) _⟩
      · rw [hn] at h1; cases h1
    have C : Aside (e.code = k) := by unfold Aside Ch.code; rw [hn]; rfl
    clear hc hn
    go_enter Tryd.func11, Tryd.ntmps11
    go_wp2_with (go_at_call 15; refine hc'.mono ?_; rintro ev w' ⟨rfl, h1, h2⟩)
    go_ret
    exact ⟨by rw [C.out]; rfl, h2⟩
  | none =>
    have hc' : Calls Tryd.prog 15 _ _ _ := hc.mono (R' := fun ev w' => ev = .returned (.bool false) ∧ Below (w.alloc (.cells #[.int .i64 0] 24)).heap.size (w.alloc (.cells #[.int .i64 0] 24)) w') fun ev w' h => by
      rcases h with ⟨k', h1, h2, h3⟩ | ⟨h1, h2⟩
      · rw [hn] at h1; cases h1
      · exact h2
    have C : Aside (e.code = 1) := by unfold Aside Ch.code; rw [hn]; rfl
    clear hc hn
    go_enter Tryd.func11, Tryd.ntmps11
    go_wp2_with (go_at_call 15; refine hc'.mono ?_; rintro ev w' ⟨rfl, h1⟩)
    go_ret
    exact ⟨by rw [C.out]; rfl, A.out.trans (h1.mono A.out.size)⟩

/-! ### Where -/
theorem Where_nil (w : World) : Calls Tryd.prog 9 #[.nilIface] w fun ev w' => ev = .returned (.tuple #[.int .i64 0, .string ⟨#[]⟩, .bool false]) ∧ Below w.heap.size w w' := by
  have hc := As_nil (.iface 44 (.pointer (some ⟨w.heap.size, 0, none⟩))) (w.alloc (.cells #[.pointer none] 40))
  go_enter Tryd.func9, Tryd.ntmps9
  go_wp2_with (go_at_call 15; refine hc.mono ?_; rintro ev w' ⟨rfl, rfl⟩)
  go_ret3
  exact ⟨rfl, (Below.refl _ w).alloc (Nat.le_refl _) _⟩
set_option maxHeartbeats 8000000 in
theorem Where_flt (a : Nat) (op : Int) (p : ByteArray) (e : Ch) (v : Value) (w : World) (hg : ErrT w) (he : (Ch.flt a op p e).Holds w v) : Calls Tryd.prog 9 #[v] w fun ev w' => ev = .returned (.tuple #[.int .i64 op, .string p, .bool true]) ∧ Below w.heap.size w w' := by
  have hb : Below w.heap.size w (w.alloc (.cells #[.pointer none] 40)) := (Below.refl _ w).alloc (Nat.le_refl _) _
  have hc := As40 _ v ⟨w.heap.size, 0, none⟩ (.pointer none) (w.alloc (.cells #[.pointer none] 40)) (hg.below hb) (he.below hb) (by simp) (by simp)
  obtain ⟨rfl, hlt, c0, c1, _⟩ := he
  have hc' : Calls Tryd.prog 15 _ _ _ := hc.mono (R' := fun ev w' => ev = .returned (.bool true) ∧ w'.cell? ⟨w.heap.size, 0, none⟩ = some (.pointer (some ⟨a, 0, none⟩)) ∧ w'.cell? ⟨a, 0, none⟩ = some (.int .i64 op) ∧ w'.cell? ⟨a, 1, none⟩ = some (.string p) ∧ Aside (Below w.heap.size w w')) fun ev w' h => by
    rcases h with ⟨a', _, _, _, h1, h2, w1, h3, rfl⟩ | ⟨h1, _⟩
    · cases h1
      have h4 : w1.cell? ⟨w.heap.size, 0, none⟩ = some (.pointer none) := (h3.cell (by simp)).trans (by simp)
      have h5 : Below w.heap.size w (w1.setCell ⟨w.heap.size, 0, none⟩ (.pointer (some ⟨a, 0, none⟩))) := (hb.trans (h3.mono hb.size)).setCell (Nat.le_refl _) _
      exact ⟨h2, World.cell?_setCell_same' _ _ _ (by rw [h4]; rfl), (h5.cell hlt).trans c0, (h5.cell hlt).trans c1, h5⟩
    · exact absurd rfl (h1 _ _ _ _)
  clear hc hg c0 c1 hb
  go_enter Tryd.func9, Tryd.ntmps9
  go_wp2_with (go_at_call 15; refine hc'.mono ?_; rintro ev w' ⟨rfl, h1, h2, h3, h4⟩)
  go_region
  all_goals go_wp2
  all_goals (go_ret3; first | exact ⟨rfl, h4⟩ | exact ⟨rfl, Below.drew h4⟩)
set_option maxHeartbeats 8000000 in
theorem Where_no (e : Ch) (v : Value) (w : World) (hn : ∀ a op p e', e ≠ .flt a op p e') (hg : ErrT w) (he : e.Holds w v) : Calls Tryd.prog 9 #[v] w fun ev w' => ev = .returned (.tuple #[.int .i64 0, .string ⟨#[]⟩, .bool false]) ∧ Below w.heap.size w w' := by
  have hb : Below w.heap.size w (w.alloc (.cells #[.pointer none] 40)) := (Below.refl _ w).alloc (Nat.le_refl _) _
  have hc := As40 _ v ⟨w.heap.size, 0, none⟩ (.pointer none) (w.alloc (.cells #[.pointer none] 40)) (hg.below hb) (he.below hb) (by simp) (by simp)
  obtain ⟨ty, x, rfl⟩ := he.iface
  have hc' : Calls Tryd.prog 15 _ _ _ := hc.mono (R' := fun ev w' => ev = .returned (.bool false) ∧ Aside (Below w.heap.size w w')) fun ev w' h => by
    rcases h with ⟨a', _, _, _, h1, _⟩ | ⟨h1, h2, h3⟩
    · exact absurd h1 (hn _ _ _ _)
    · exact ⟨h2, hb.trans (h3.mono hb.size)⟩
  clear hc hg hb he hn
  go_enter Tryd.func9, Tryd.ntmps9
  go_wp2_with (go_at_call 15; refine hc'.mono ?_; rintro ev w' ⟨rfl, h4⟩)
  go_ret3
  exact ⟨rfl, h4⟩
end Go.Proofs.YtgehndnlbbkieaaDoor
