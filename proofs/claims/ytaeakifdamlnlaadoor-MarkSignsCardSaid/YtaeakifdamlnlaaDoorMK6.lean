import Derived.Test.YtaeakifdamlnlaaDoorMK5
set_option linter.unusedVariables false
set_option linter.unusedSimpArgs false
set_option maxRecDepth 100000
namespace Go.Proofs.YtaeakifdamlnlaaDoor
open Go.RowKit
set_option maxHeartbeats 4000000 in
theorem cuts (s : ByteArray) (B I N : Int) (A : Option Addr) (n c : Nat) (w : World)
    (hG : ∀ W, Below w.heap.size w W → Calls Tryd.prog 33 #[diskV B I N A n c, .int .i64 1] W (Got s W)) (op : ByteArray) (hop : op = ⟨#[46, 119, 104, 46, 46, 119, 104, 46, 46, 111, 112, 113]⟩) :
    Calls Tryd.prog 11 #[diskV B I N A n c, .int .i64 1] w fun e w' => e = .returned (.bool (decide (s = op))) ∧ Below w.heap.size w w' := by
  have h24 : ∀ W : World, Below w.heap.size w W → Calls Tryd.prog 24 #[diskV B I N A n c, .int .i64 1, .string op] W fun e w' => e = .returned (.bool (decide (s = op))) ∧ Below W.heap.size W w' :=
    fun W hW => has s op B I N A n c W fun V hV => hG V (hW.trans (hV.mono hW.size))
  clear hG
  generalize decide (s = op) = q at h24 ⊢
  subst hop
  unfold diskV at h24 ⊢
  go_enter Tryd.func11, Tryd.ntmps11
  go_wp2_with (go_at_call 24; refine (h24 _ ((Below.refl _ _).alloc (Nat.le_refl _) _)).mono ?_; rintro e w' ⟨rfl, hbl⟩)
  go_ret
  exact ⟨rfl, below_box hbl⟩
theorem pre_extract (y : ByteArray) : (((pre ++ y).extract 0 4).toList == [46, 119, 104, 46]) = true := by
  have : (pre ++ y).extract 0 4 = pre := by
    apply ByteArray.ext
    rw [ByteArray.data_extract, ByteArray.data_append]
    simp [pre]
  rw [this, ByteArray.toList_eq]
  rfl
set_option maxHeartbeats 4000000 in
theorem kept (y : ByteArray) (hy : y.size ≤ 40) (w : World) :
    Calls Tryd.prog 19 #[.string (pre ++ y)] w fun e w' => e = .returned (.bool true) ∧ w' = w := by
  have h1 := pre_extract y
  have hz : (pre.size : Int) = 4 := rfl
  go_enter Tryd.func19, Tryd.ntmps19
  go_wp2
  go_ret
  exact ⟨by rw [← h1]; rfl, rfl⟩
/-- an answer -/
def Says (e : Ending) : Prop := ∃ q : Bool, e = .returned (.bool q)
set_option maxHeartbeats 4000000 in
theorem named (y : ByteArray) (hy : y.size ≤ 9223372036854775807) (w : World) :
    Calls Tryd.prog 16 #[.string y] w fun e w' => Says e ∧ w' = w := by
  go_enter Tryd.func16, Tryd.ntmps16
  go_wp2
  go_loopw [3] (fun i w1 => ∃ k : Nat, k ≤ y.size ∧ i = .int .i64 k ∧ w1 = w) (fun i _ => y.size - (intOf i).toNat)
  case atStart => exact ⟨0, Nat.zero_le _, rfl, rfl⟩
  case round =>
    obtain ⟨k, hk, rfl, rfl⟩ := hrel
    by_cases hlt : k < y.size
    · go_wp2
      case roundEnd => exact ⟨⟨k + 1, by omega, by go_num, trivial⟩, by simp [intOf]; omega⟩
      all_goals
        go_ret
        exact ⟨⟨_, rfl⟩, rfl⟩
    · obtain rfl : k = y.size := by omega
      clear hlt
      go_wp2
      all_goals
        go_ret
        exact ⟨⟨_, rfl⟩, rfl⟩
end Go.Proofs.YtaeakifdamlnlaaDoor
