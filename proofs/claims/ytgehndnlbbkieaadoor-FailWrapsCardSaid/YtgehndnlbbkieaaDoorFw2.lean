/- An error that wraps errors: how it lies in memory. -/
import Derived.Test.YtgehndnlbbkieaaDoorFw1
set_option linter.unusedVariables false
set_option linter.unusedSimpArgs false
namespace Go.Proofs.YtgehndnlbbkieaaDoor
open Go.RowKit Go.Extern.Stop Go.Stop Go.Extern

/-- an error that wraps errors: a number; an error in words; a fault -/
inductive Ch where
  | num (k : Int)
  | str (a : Nat)
  | flt (a : Nat) (op : Int) (p : ByteArray) (e : Ch)
def Ch.Holds (w : World) : Ch → Value → Prop
  | .num k, v => v = .iface 24 (.int .i64 k)
  | .str a, v => v = .iface 68 (.pointer (some ⟨a, 0, none⟩)) ∧ a < w.heap.size
  | .flt a op p e, v => v = .iface 40 (.pointer (some ⟨a, 0, none⟩)) ∧ a < w.heap.size ∧ w.cell? ⟨a, 0, none⟩ = some (.int .i64 op) ∧ w.cell? ⟨a, 1, none⟩ = some (.string p) ∧ ∃ u, w.cell? ⟨a, 2, none⟩ = some u ∧ e.Holds w u
def Ch.len : Ch → Nat
  | .flt _ _ _ e => e.len + 1
  | _ => 0
def Ch.num? : Ch → Option Int
  | .num k => some k
  | .str _ => none
  | .flt _ _ _ e => e.num?
theorem Ch.Holds.below {w w' : World} (h : Below w.heap.size w w') : ∀ {e : Ch} {v : Value}, e.Holds w v → e.Holds w' v
  | .num k, v, he => he
  | .str a, v, ⟨h1, h2⟩ => ⟨h1, Nat.lt_of_lt_of_le h2 h.size⟩
  | .flt a op p e, v, ⟨h1, h2, h3, h4, u, h5, h6⟩ => ⟨h1, Nat.lt_of_lt_of_le h2 h.size, (h.cell h2).trans h3, (h.cell h2).trans h4, u, (h.cell h2).trans h5, h6.below h⟩

theorem unwrap_c (a : Nat) (u : Value) (w : World) (h : w.cell? ⟨a, 2, none⟩ = some u) : Calls Tryd.prog 45 #[.pointer (some ⟨a, 0, none⟩)] w fun e w' => e = .returned u ∧ w' = w := by
  go_enter Tryd.func45, Tryd.ntmps45
  go_wp2
  go_ret
  exact ⟨rfl, rfl⟩
end Go.Proofs.YtgehndnlbbkieaaDoor
