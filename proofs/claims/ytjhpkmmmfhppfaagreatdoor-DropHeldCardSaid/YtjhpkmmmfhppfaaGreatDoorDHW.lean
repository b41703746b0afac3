/- The law DropHeld: where it says nothing; a row of bytes that came in. -/
import Derived.Test.YtjhpkmmmfhppfaaGreatDoorDHBase
import Derived.WalkKit
import Derived.Below
set_option linter.unusedVariables false
set_option linter.unusedSimpArgs false
namespace Go.Proofs.YtjhpkmmmfhppfaaGreatDoor.dropHeld
open Go.RowKit Go.Proofs.YtjhpkmmmfhppfaaGreatDoor.Ev
set_option maxRecDepth 100000

theorem walkB (ok : CfgOk Tryz.prog cfg) {way : Int} {n b off cap : Nat} {w : World} {cs : Array Value} {el : TypeId} {fr : Nat × Nat} (hr : runB way n = true) (hw : w.heap[b]? = some (.cells cs el fr)) (hc : n ≤ cap) (hs : off + cap ≤ cs.size)
    (hv : ∀ k, k < n → ∃ (ik : IntKind) (z : Int), cs[off + k]? = some (.int ik z)) :
    Calls Tryz.prog 3 #[.int .i64 way, .slice (some ⟨b, off, none⟩) n cap] w fun e w' => e = .returned (.bool true) ∧ Below w.heap.size w w' := by
  unfold runB isTrue at hr
  split at hr
  · rename_i st' hev
    have hb : ∃ c, Tryz.f3.body = some c := by
      cases h : Tryz.f3.body with
      | some c => exact ⟨c, rfl⟩
      | none => exact absurd (show Tryz.f3.body.isNone = true by rw [h]; rfl) (by rw [show Tryz.f3.body.isNone = false by kernel_rfl]; simp)
    obtain ⟨c, hcb⟩ := hb
    refine (calls_of_row ok Tryz.func3 hcb hev hw hc hs hv).mono fun e w' ⟨u, h1, h2, μ', h3⟩ => ?_
    simp only [vr] at h3
    subst h3
    exact ⟨h1, h2⟩
  · cases hr
set_option maxHeartbeats 4000000 in
theorem guardWay (way : Int) (A : Option Addr) (n cap : Nat) (w : World) (h2 : way ≠ 2) (h3 : way ≠ 3) :
    Calls Tryz.prog 3 #[.int .i64 way, .slice A n cap] w fun e w' => e = .returned (.bool true) ∧ Below w.heap.size w w' := by
  have e2 : (way == 2) = false := by simpa using h2
  have e3 : (way == 3) = false := by simpa using h3
  have n2 : (way != 2) = true := by simpa using h2
  have n3 : (way != 3) = true := by simpa using h3
  clear h2 h3
  go_enter Tryz.func3, Tryz.ntmps3
  go_wp2
  go_ret
  exact ⟨rfl, Below.refl _ _⟩
set_option maxHeartbeats 4000000 in
theorem guardLess (way : Int) (hw : way = 2 ∨ way = 3) (A : Option Addr) (cap : Nat) (w : World) :
    Calls Tryz.prog 3 #[.int .i64 way, .slice A 0 cap] w fun e w' => e = .returned (.bool true) ∧ Below w.heap.size w w' := by
  rcases hw with rfl | rfl
  all_goals
    go_enter Tryz.func3, Tryz.ntmps3
    go_wp2
    go_ret
    exact ⟨rfl, Below.refl _ _⟩
set_option maxHeartbeats 4000000 in
theorem guardMore (way : Int) (hw : way = 2 ∨ way = 3) (A : Option Addr) (n cap : Nat) (w : World) (hn : 60 < n) :
    Calls Tryz.prog 3 #[.int .i64 way, .slice A n cap] w fun e w' => e = .returned (.bool true) ∧ Below w.heap.size w w' := by
  have h1 : decide ((n : Int) < 1) = false := decide_eq_false (by omega)
  have h2 : decide ((n : Int) > 60) = true := decide_eq_true (by omega)
  have h3 : decide (60 < (n : Int)) = true := decide_eq_true (by omega)
  have h4 : ¬ n = 0 := by omega
  have h5 : ¬ n < 1 := by omega
  rcases hw with rfl | rfl
  all_goals
    go_enter Tryz.func3, Tryz.ntmps3
    go_wp2
    go_ret
    exact ⟨rfl, Below.refl _ _⟩
theorem guard (way : Int) (A : Option Addr) (n cap : Nat) (w : World) (h : ¬ ((way = 2 ∨ way = 3) ∧ 1 ≤ n ∧ n ≤ 60)) :
    Calls Tryz.prog 3 #[.int .i64 way, .slice A n cap] w fun e w' => e = .returned (.bool true) ∧ Below w.heap.size w w' := by
  by_cases hw : way = 2 ∨ way = 3
  · by_cases h1 : 1 ≤ n
    · exact guardMore way hw A n cap w (by omega)
    · obtain rfl : n = 0 := by omega
      exact guardLess way hw A cap w
  · exact guardWay way A n cap w (fun e => hw (.inl e)) (fun e => hw (.inr e))
end Go.Proofs.YtjhpkmmmfhppfaaGreatDoor.dropHeld
