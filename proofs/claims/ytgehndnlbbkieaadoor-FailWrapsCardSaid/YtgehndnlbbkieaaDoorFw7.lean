/- What veneerlaw4 knows: it answers true. -/
import Derived.Test.YtgehndnlbbkieaaDoorFw6
set_option linter.unusedVariables false
set_option linter.unusedSimpArgs false
set_option maxRecDepth 100000
namespace Go.Proofs.YtgehndnlbbkieaaDoor
open Go.RowKit Go.Extern.Stop Go.Stop Go.Extern

/-- what is known of an error, whatever is called meanwhile -/
structure Kept (w0 : World) (c : Ch) (v : Value) (w : World) : Prop where
  below : Below w0.heap.size w0 w
  err : ErrT w
  holds : c.Holds w v
theorem Kept.step {w0 w w' : World} {c : Ch} {v : Value} (h : Kept w0 c v w) (hb : Below w.heap.size w w') : Kept w0 c v w' :=
  ⟨h.below.trans (hb.mono h.below.size), h.err.below hb, h.holds.below hb⟩
theorem Kept.drew {w0 w : World} {c : Ch} {v : Value} (h : Kept w0 c v w) : Kept w0 c v w.drew := h.step (Below.refl _ w).drew

theorem wrapped' {c : Ch} {op : Int} {p : ByteArray} {v : Value} {w : World} (hc : c.Holds w v) (n : Nat) (hn : w.heap.size = n) :
    Below w.heap.size w (w.alloc (.cells #[.int .i64 op, .string p, v] 42)) ∧ (Ch.flt n op p c).Holds (w.alloc (.cells #[.int .i64 op, .string p, v] 42)) (.iface 40 (.pointer (some ⟨n, 0, none⟩))) := by
  subst hn; exact wrapped hc
theorem Code_at (e : Ch) (v : Value) (w : World) (k : Int) (hk : e.code = k) (hg : ErrT w) (he : e.Holds w v) : Calls Tryd.prog 11 #[v] w fun ev w' => ev = .returned (.int .i64 k) ∧ Below w.heap.size w w' := by
  subst hk; exact Code_ch e v w hg he
theorem Is_at (e : Ch) (v : Value) (n : Int) (w : World) (b : Bool) (hb : e.isNum n = b) (he : e.Holds w v) :
    Calls Tryd.prog 13 #[v, .iface 24 (.int .i64 n)] w fun ev w' => ev = .returned (.bool b) ∧ w' = w := by
  subst hb; exact Is24 e v n w he
set_option maxHeartbeats 4000000 in
theorem known_c (w : World) (hg : ErrT w) : Calls Tryd.prog 14 #[] w fun ev w' => ev = .returned (.bool true) ∧ Below w.heap.size w w' := by
  have h1 := wrapped' (c := .num 2) (op := 2) (p := ⟨#[47, 98]⟩) (v := .iface 24 (.int .i64 2)) (w := w) rfl w.heap.size rfl
  have h2 := wrapped' (op := 1) (p := ⟨#[47, 97]⟩) h1.2 (w.heap.size + 1) (by simp)
  have hS : Kept w _ _ _ := ⟨h1.1.trans (h2.1.mono h1.1.size), (hg.below h1.1).below h2.1, h2.2⟩
  have c1 := Wrap_ch (.num 2) rfl 2 ⟨#[47, 98]⟩ _ w rfl
  have c2 := Wrap_ch _ rfl 1 ⟨#[47, 97]⟩ _ _ h1.2
  clear h1 h2
  go_enter Tryd.func14, Tryd.ntmps14
  go_wp2_with (fail)
  refine c1.mono ?_; rintro ev w' ⟨rfl, rfl⟩
  clear c1
  go_wp2_with (fail)
  refine c2.mono ?_; rintro ev w' ⟨rfl, rfl⟩
  clear c2
  go_wp2_with (fail)
  refine (Where_flt _ _ _ _ _ _ hS.err hS.holds).mono ?_
  rintro ev w3 ⟨rfl, hk⟩
  replace hS := hS.step hk
  clear hk
  go_wp2_with (fail)
  refine (Code_at _ _ _ 2 rfl hS.err hS.holds).mono ?_
  rintro ev w4 ⟨rfl, hk⟩
  replace hS := hS.step hk
  clear hk
  go_wp2_with (fail)
  refine (Is_at _ _ _ _ true rfl hS.holds).mono ?_
  rintro ev w5 ⟨rfl, rfl⟩
  go_wp2_with (fail)
  refine (Code_nil _).mono ?_
  rintro ev w6 ⟨rfl, hk⟩
  replace hS := hS.step hk
  clear hk
  go_wp2_with (fail)
  go_ret
  exact ⟨rfl, hS.below⟩
end Go.Proofs.YtgehndnlbbkieaaDoor
