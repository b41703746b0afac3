import Derived.Test.YtaeakifdamlnlaaDoorMK3
import Derived.Deep.RegionHeld3
import Derived.Deep.DeepMust
set_option linter.unusedVariables false
set_option linter.unusedSimpArgs false
set_option maxRecDepth 100000
namespace Go.Proofs.YtaeakifdamlnlaaDoor
open Go.RowKit
/-- ".wh." -/
def pre : ByteArray := ⟨#[46, 119, 104, 46]⟩
theorem white (s : ByteArray) (hs : s.size ≤ 40) (w : World) : Calls Tryd.prog 7 #[.string s] w fun e w' => e = .returned (.string (pre ++ s)) ∧ w' = w := by
  have h : ¬ 9223372036854775807 < 4 + s.size := by omega
  go_enter Tryd.func7, Tryd.ntmps7
  go_wp2
  go_ret
  exact ⟨rfl, rfl⟩
theorem scmp_zero {x y : ByteArray} : scmp x y = 0 ↔ x = y := by
  unfold scmp
  constructor
  · intro h
    split at h
    · omega
    · split at h
      · assumption
      · omega
  · rintro rfl
    have : Op.bytesLess x.toList x.toList = false := by
      generalize x.toList = l
      induction l with
      | nil => rfl
      | cons a l ih => simp [Op.bytesLess, ih]
    simp [this]
/-- what has is told of a directory -/
def Got (s : ByteArray) (W : World) (e : Ending) (w' : World) : Prop :=
  ∃ (m l sz : Int) (A : Option Addr) (n c : Nat) (t : ByteArray) (b o cap : Nat), e = .returned (.tuple #[nodeV 1 2 m l sz (.slice A n c) t (.slice (some ⟨b, o, none⟩) 1 cap), .bool true]) ∧
    NameAt w' b o 1 (fun _ => s) (fun _ => 2) ∧ b < w'.heap.size ∧ Below W.heap.size W w'
set_option maxHeartbeats 4000000 in
theorem has (s x : ByteArray) (B I N : Int) (A : Option Addr) (n c : Nat) (w : World)
    (hG : ∀ W, Below w.heap.size w W → Calls Tryd.prog 33 #[.agg #[.int .i64 B, .int .i64 I, .int .i64 N, .slice A n c], .int .i64 1] W (Got s W)) :
    Calls Tryd.prog 24 #[.agg #[.int .i64 B, .int .i64 I, .int .i64 N, .slice A n c], .int .i64 1, .string x] w fun e w' => e = .returned (.bool (decide (s = x))) ∧ Below w.heap.size w w' := by
  have hF : ∀ (W : World) (b o cap : Nat) (m l sz : Int) (A' : Option Addr) (n' c' : Nat) (t : ByteArray), NameAt W b o 1 (fun _ => s) (fun _ => 2) → b < W.heap.size →
      Calls Tryd.prog 34 #[.agg #[.int .i64 1, .int .i64 2, .int .i64 m, .int .i64 l, .int .i64 sz, .slice A' n' c', .string t, .slice (some ⟨b, o, none⟩) 1 cap], .string x] W fun e w' =>
        (∃ i : Int, e = .returned (.tuple #[.int .i64 i, .bool (decide (s = x))])) ∧ Below W.heap.size W w' := by
    intro W b o cap m l sz A' n' c' t hN hb
    refine (findName b o 1 cap (fun _ => s) (fun _ => 2) x W (by omega) hb hN (fun _ _ _ _ h => h) 1 2 m l sz (.slice A' n' c') t ⟨_, _, _, rfl⟩).mono fun e w' ⟨j, ⟨h1, h2, h3⟩, he, hbl⟩ => ⟨?_, hbl⟩
    subst he
    unfold nameOf
    by_cases hx : s = x
    · have hz := scmp_zero.2 hx
      have : j = 0 := by
        rcases Nat.eq_zero_or_pos j with e | e
        · exact e
        · have := h2 0 e
          dsimp only at this
          omega
      subst this
      rw [if_pos ⟨by omega, hz⟩]
      exact ⟨2, by simp [hx]⟩
    · rw [if_neg (fun e => hx (scmp_zero.1 e.2))]
      exact ⟨0, by simp [hx]⟩
  generalize decide (s = x) = q at hF ⊢
  go_enter Tryd.func24, Tryd.ntmps24
  go_wp2_with (first
    | (go_at_call 33; refine (hG _ ((Below.refl _ _).alloc (Nat.le_refl _) _)).mono ?_; rintro e w' ⟨m, l, sz, A', n', c', t, b, o, cap, rfl, hN, hb, hbl⟩; have hB : Aside (Below w.heap.size w w') := below_box hbl; clear hbl)
    | (go_at_call 34; refine (hF _ _ _ _ _ _ _ _ _ _ _ (hN.on ((Below.refl _ _).alloc (Nat.le_refl _) _) hb) (Nat.lt_of_lt_of_le hb (by simp))).mono ?_; rintro e w'' ⟨⟨ii, rfl⟩, hbl⟩
       have hk : w''.cell? ⟨w'.heap.size, 1, none⟩ = some (.int .i64 2) := (hbl.cell (by simp)).trans (World.cell?_alloc_at _ _ _ _ rfl)
       have hB2 : Aside (Below w.heap.size w w'') := (hB.out.trans ((below_box hbl).mono hB.out.size)); clear hbl hB))
  all_goals
    go_ret
    first
      | exact ⟨rfl, hB2.out⟩
      | (rename_i hq; refine ⟨?_, hB2.out⟩; clear hG hF hB2; cases q <;> first | rfl | exact absurd rfl hq | (exfalso; simp_all))
end Go.Proofs.YtaeakifdamlnlaaDoor
