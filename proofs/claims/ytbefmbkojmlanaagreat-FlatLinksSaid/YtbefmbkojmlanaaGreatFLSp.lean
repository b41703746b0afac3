/- slices.SortFunc of a disk's nodes by their numbers: what the evaluator is told of it. -/
import Derived.Test.YtbefmbkojmlanaaGreatFLSort
import Derived.Test.YtbefmbkojmlanaaGreatEvSortAt
import Derived.WalkKit
namespace Go.Proofs.YtbefmbkojmlanaaGreat
open Go.RowKit Go.Proofs.YtbefmbkojmlanaaGreat.Ev
open Go.Sort Go.Shelf
set_option maxRecDepth 100000
theorem list8 {l : List Value} (h : l.length = 8) : ∃ v0 v1 v2 v3 v4 v5 v6 v7, l = [v0, v1, v2, v3, v4, v5, v6, v7] := by
  match l, h with
  | [v0, v1, v2, v3, v4, v5, v6, v7], _ => exact ⟨v0, v1, v2, v3, v4, v5, v6, v7, rfl⟩
set_option maxHeartbeats 1000000 in
theorem nodeCmp (a b : List Value) (m n : Int) (W : World) (ha : a.length = 8) (hb : b.length = 8) (h0 : a[0]? = some (.int .i64 m)) (h1 : b[0]? = some (.int .i64 n)) :
    Calls Tryz.prog 23 #[.agg a.toArray, .agg b.toArray] W fun e w' => e = .returned (.int .i64 (Lib.compareInt m n)) ∧ ∃ q os', w' = grow (W.drewN q) os' := by
  obtain ⟨a0, a1, a2, a3, a4, a5, a6, a7, rfl⟩ := list8 ha
  obtain ⟨b0, b1, b2, b3, b4, b5, b6, b7, rfl⟩ := list8 hb
  simp only [List.getElem?_cons_zero, Option.some.injEq] at h0 h1
  subst h0
  subst h1
  clear ha hb
  have hcon := fun W' => AnyG.cmp_Compare_int Tryz.cmp24 m n W'
  change ∀ W', Calls Tryz.prog 24 _ _ _ at hcon
  generalize Lib.compareInt m n = r at hcon ⊢
  go_enter Tryz.func23, Tryz.ntmps23
  go_wp2_with (go_at_call 24; refine (hcon _).mono ?_; rintro e w' ⟨rfl, rfl⟩)
  go_ret
  exact ⟨rfl, 0, _, by rw [alloc_eq_grow, alloc_eq_grow, grow_grow]; rfl⟩
theorem sp22 : SpecOk Tryz.prog 22 (fun args st => evSort 0 8 23 args st) :=
  evSort_sound (sortAt_of Tryz.sort22 (by decide) Tryz.isAgg48 Tryz.sizeOf48 (Go.Proofs.enters_of Tryz.func22 (by kernel_rfl) rfl) (Go.Proofs.enters_of Tryz.func23 (by kernel_rfl) rfl) nodeCmp)
end Go.Proofs.YtbefmbkojmlanaaGreat
