/- What Named tells. -/
import Derived.Test.YtanhagilpecnkaaDoorPB1
import Derived.Laws.Cover1
import Derived.Deep.DeepMust
set_option linter.unusedVariables false
set_option linter.unusedSimpArgs false
set_option maxRecDepth 100000
namespace Go.Proofs.YtanhagilpecnkaaDoor
open Go.RowKit Go.Proofs.YtanhagilpecnkaaDoor.PathBack
/-- an answer: a name's, if it is yes -/
def SaysNamed (s : ByteArray) (e : Ending) : Prop := ∃ q : Bool, e = .returned (.bool q) ∧ (q = true → Named s)
def okTo (y : ByteArray) (k : Nat) : Prop := ∀ (j : Nat) (c : UInt8), j < k → y.data.toList[j]? = some c → c ≠ 47 ∧ c ≠ 0
theorem okTo_succ {y : ByteArray} {k : Nat} (h : okTo y k) (hk : k < y.size) (h1 : ¬ ((y[k].toNat : Nat) : Int) = 47) (h2 : ¬ ((y[k].toNat : Nat) : Int) = 0) : okTo y (k + 1) := by
  intro j c hj hc
  rcases Nat.lt_or_ge j k with hlt | hge
  · exact h j c hlt hc
  · obtain rfl : j = k := by omega
    have : c = y[j] := by
      rw [Array.getElem?_toList] at hc
      have := (Array.getElem?_eq_some_iff.1 hc).2
      exact this.symm
    subst this
    exact ⟨fun e => h1 (by rw [e]; rfl), fun e => h2 (by rw [e]; rfl)⟩
theorem named_of {y : ByteArray} (h : okTo y y.size) (h1 : 1 ≤ y.size) (h2 : y.size ≤ 24) (h3 : ¬ y.toList = [46]) (h4 : ¬ y.toList = [46, 46]) : Named y := by
  refine ⟨fun c hc => ?_, h1, h2, ?_, ?_⟩
  · obtain ⟨j, hj, e⟩ := List.getElem_of_mem hc
    exact h j c (by rw [Array.length_toList] at hj; exact hj) (by rw [List.getElem?_eq_getElem hj, e])
  · rintro rfl; exact h3 (by rw [ByteArray.toList_eq])
  · rintro rfl; exact h4 (by rw [ByteArray.toList_eq])
set_option maxHeartbeats 4000000 in
theorem named (y : ByteArray) (hy : y.size ≤ 9223372036854775807) (w : World) :
    Calls Tryd.prog 4 #[.string y] w fun e w' => SaysNamed y e ∧ w' = w := by
  go_enter Tryd.func4, Tryd.ntmps4
  go_wp2
  go_loopw [3] (fun i w1 => ∃ k : Nat, k ≤ y.size ∧ i = .int .i64 k ∧ Hid (okTo y k) ∧ w1 = w) (fun i _ => y.size - (intOf i).toNat)
  case atStart => exact ⟨0, Nat.zero_le _, rfl, (fun j c hj => absurd hj (Nat.not_lt_zero _) : okTo y 0), rfl⟩
  case round =>
    obtain ⟨k, hk, rfl, hok, rfl⟩ := hrel
    by_cases hlt : k < y.size
    · go_wp2
      case roundEnd =>
        rename_i g1 g2
        exact ⟨⟨k + 1, by omega, by go_num, okTo_succ hok.out hlt g1 (by simpa using g2.2), trivial⟩, by simp [intOf]; omega⟩
      all_goals
        go_ret
        exact ⟨⟨_, rfl, fun e => absurd e (by decide)⟩, rfl⟩
    · obtain rfl : k = y.size := by omega
      clear hlt
      go_wp2
      all_goals go_ret
      · exact ⟨⟨_, rfl, fun e => absurd e (by decide)⟩, rfl⟩
      · rename_i g1 g2 g3
        refine ⟨⟨_, rfl, fun e => ?_⟩, rfl⟩
        rw [Bool.and_eq_true, Bool.not_eq_true', Bool.not_eq_true', beq_eq_false_iff_ne, beq_eq_false_iff_ne] at e
        exact named_of hok.out (by omega) (by omega) e.1 e.2
      · exact ⟨⟨_, rfl, fun e => absurd e (by decide)⟩, rfl⟩
      · exact ⟨⟨_, rfl, fun e => absurd e (by decide)⟩, rfl⟩
end Go.Proofs.YtanhagilpecnkaaDoor
