/- FailInner walked. -/
import Derived.Test.YtgehndnlbbkieaaDoorFw7
import Derived.Deep.RegionHeld
set_option maxRecDepth 100000
set_option linter.unusedVariables false
set_option linter.unusedSimpArgs false
namespace Go.Proofs.YtgehndnlbbkieaaDoor
open Go.RowKit Go.Extern.Stop Go.Stop Go.Extern
theorem cellStep {w w' : World} {t : Addr} {v : Value} (h : w.cell? t = some v) (hk : Below w.heap.size w w') : w'.cell? t = some v := (hk.cell (cell_lt h)).trans h
theorem frzStep {w w' : World} {t : Addr} {v : Value} (h : w.cell? t = some v) (hf : w.frozen? t = false) (hk : Below w.heap.size w w') : w'.frozen? t = false := (hk.frozen (cell_lt h)).trans hf
theorem newCell (w : World) (v : Value) (t : TypeId) : (w.alloc (.cells #[v] t)).cell? ⟨w.heap.size, 0, none⟩ = some v := by simp
theorem newFrz (w : World) (v : Value) (t : TypeId) : (w.alloc (.cells #[v] t)).frozen? ⟨w.heap.size, 0, none⟩ = false := by simp
def Ch.lt (n : Nat) : Ch → Prop
  | .num _ => True
  | .str a => a < n
  | .flt a _ _ e => a < n ∧ e.lt n
theorem Ch.Holds.setCell {w : World} {t : Addr} {x : Value} : ∀ {e : Ch} {v : Value}, e.Holds w v → e.lt t.block → e.Holds (w.setCell t x) v
  | .num k, v, he, _ => he
  | .str a, v, ⟨h1, h2⟩, _ => ⟨h1, by simpa using h2⟩
  | .flt a op p e, v, ⟨h1, h2, h3, h4, u, h5, h6⟩, ⟨hl, hr⟩ =>
    ⟨h1, by simpa using h2, by rw [World.cell?_setCell_far _ _ _ _ (by show t.block ≠ a; omega)]; exact h3, by rw [World.cell?_setCell_far _ _ _ _ (by show t.block ≠ a; omega)]; exact h4, u,
      by rw [World.cell?_setCell_far _ _ _ _ (by show t.block ≠ a; omega)]; exact h5, h6.setCell hr⟩
set_option maxHeartbeats 4000000 in
theorem inner_main (op : Int) (p : ByteArray) (a b : Int) (w : World) (hg : ErrT w) (h1 : ¬ a < 1) (h2 : ¬ 11 < a) (h3 : ¬ b < 1) (h4 : ¬ 11 < b) (h5 : ¬ 100 < (p.size : Int)) : Calls Tryd.prog 4 #[.int .i64 op, .string p, .int .i64 a, .int .i64 b] w fun ev w' => ev = .returned (.bool true) ∧ Below w.heap.size w w' := by
  have k1 := wrapped' (c := .num b) (op := b) (p := ⟨#[47, 105, 110]⟩) (v := .iface 24 (.int .i64 b)) (w := w) rfl w.heap.size rfl
  have k2 := wrapped' (op := op) (p := p) k1.2 (w.heap.size + 1) (by simp)
  have hS0 : Kept w _ _ _ := ⟨k1.1.trans (k2.1.mono k1.1.size), (hg.below k1.1).below k2.1, k2.2⟩
  have hS := hS0.step ((Below.refl _ _).alloc (Nat.le_refl _) (.cells #[.pointer none] 40))
  have hT : ((((w.alloc (.cells #[.int .i64 b, .string ⟨#[47, 105, 110]⟩, .iface 24 (.int .i64 b)] 42)).alloc (.cells #[.int .i64 op, .string p, .iface 40 (.pointer (some ⟨w.heap.size, 0, none⟩))] 42)).alloc (.cells #[.pointer none] 40))).cell? ⟨w.heap.size + 1 + 1, 0, none⟩ = some (.pointer none) := by rw [show w.heap.size + 1 + 1 = ((w.alloc (.cells #[.int .i64 b, .string ⟨#[47, 105, 110]⟩, .iface 24 (.int .i64 b)] 42)).alloc (.cells #[.int .i64 op, .string p, .iface 40 (.pointer (some ⟨w.heap.size, 0, none⟩))] 42)).heap.size from by simp]; exact newCell _ _ _
  have hF : ((((w.alloc (.cells #[.int .i64 b, .string ⟨#[47, 105, 110]⟩, .iface 24 (.int .i64 b)] 42)).alloc (.cells #[.int .i64 op, .string p, .iface 40 (.pointer (some ⟨w.heap.size, 0, none⟩))] 42)).alloc (.cells #[.pointer none] 40))).frozen? ⟨w.heap.size + 1 + 1, 0, none⟩ = false := by rw [show w.heap.size + 1 + 1 = ((w.alloc (.cells #[.int .i64 b, .string ⟨#[47, 105, 110]⟩, .iface 24 (.int .i64 b)] 42)).alloc (.cells #[.int .i64 op, .string p, .iface 40 (.pointer (some ⟨w.heap.size, 0, none⟩))] 42)).heap.size from by simp]; exact newFrz _ _ _
  clear hS0
  have c2 := Wrap_ch _ rfl op p _ _ k1.2
  clear k1 k2
  go_enter Tryd.func4, Tryd.ntmps4
  go_wp2_with (fail)
  refine c2.mono ?_; rintro ev w' ⟨rfl, rfl⟩
  clear c2
  go_wp2_with (fail)
  refine (Where_flt _ _ _ _ _ _ hS.err hS.holds).mono ?_
  rintro ev w3 ⟨rfl, hk⟩
  replace hS := hS.step hk
  replace hF := frzStep hT hF hk
  replace hT := cellStep hT hk
  clear hk
  go_wp2_with (fail)
  refine (Code_at _ _ _ b rfl hS.err hS.holds).mono ?_
  rintro ev w4 ⟨rfl, hk⟩
  replace hS := hS.step hk
  replace hF := frzStep hT hF hk
  replace hT := cellStep hT hk
  clear hk
  go_wp2_with (fail)
  have hA := As40 _ _ _ _ _ hS.err hS.holds hT hF
  refine hA.mono ?_
  clear hA
  rintro ev w5 (⟨a', op', p', e', he, rfl, w1, hk, rfl⟩ | ⟨hno, _⟩)
  case inr => exact absurd rfl (hno _ _ _ _)
  cases he
  have hlt : w.heap.size + 1 + 1 < w4.heap.size := cell_lt hT
  have hb5 : Below w.heap.size w (w1.setCell ⟨w.heap.size + 1 + 1, 0, none⟩ (.pointer (some ⟨w.heap.size + 1, 0, none⟩))) := (hS.below.trans (hk.mono hS.below.size)).setCell (by show w.heap.size ≤ _; simp; omega) _
  have hT1 : w1.cell? ⟨w.heap.size + 1 + 1, 0, none⟩ = some (.pointer none) := cellStep hT hk
  have hT2 : (w1.setCell ⟨w.heap.size + 1 + 1, 0, none⟩ (.pointer (some ⟨w.heap.size + 1, 0, none⟩))).cell? ⟨w.heap.size + 1 + 1, 0, none⟩ = some (.pointer (some ⟨w.heap.size + 1, 0, none⟩)) := World.cell?_setCell_same' _ _ _ (by rw [hT1]; rfl)
  have hH1 := hS.holds.below hk
  have hS5 : Kept w _ _ (w1.setCell ⟨w.heap.size + 1 + 1, 0, none⟩ (.pointer (some ⟨w.heap.size + 1, 0, none⟩))) :=
    ⟨hb5, hg.below hb5, hH1.setCell ⟨by show w.heap.size + 1 < w.heap.size + 1 + 1; omega, by show w.heap.size < w.heap.size + 1 + 1; omega, trivial⟩⟩
  clear hH1 hT1 hS hT hF hk hb5
  generalize w1.setCell ⟨w.heap.size + 1 + 1, 0, none⟩ (.pointer (some ⟨w.heap.size + 1, 0, none⟩)) = w5 at *
  have hop : w5.cell? ⟨w.heap.size + 1, 0, none⟩ = some (.int .i64 op) := hS5.holds.2.2.1
  by_cases hab : a = b
  · subst hab
    have hbb : (a == a) = true := by simp
    go_wp2_with (fail)
    refine (Is_at _ _ a _ true (by exact hbb) hS5.holds).mono ?_
    rintro ev w6 ⟨rfl, rfl⟩
    go_wp2_with (fail)
    refine (known_c _ hS5.err).mono ?_
    rintro ev w7 ⟨rfl, hk⟩
    go_wp2_with (fail)
    go_ret
    exact ⟨rfl, (hS5.step hk).below⟩
  · have hbb : (b == a) = false := by simp; omega
    have hbc : (a == b) = false := by simp; omega
    have A : Aside (¬ a = b) := hab
    clear hab
    go_wp2_with (fail)
    refine (Is_at _ _ a _ false (by exact hbb) hS5.holds).mono ?_
    rintro ev w6 ⟨rfl, rfl⟩
    go_wp2_with (fail)
    refine (known_c _ hS5.err).mono ?_
    rintro ev w7 ⟨rfl, hk⟩
    go_wp2_with (fail)
    go_ret
    exact ⟨rfl, (hS5.step hk).below⟩
end Go.Proofs.YtgehndnlbbkieaaDoor
