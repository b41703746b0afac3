/- Rows of texts: Same, slices.Equal. -/
import Derived.Test.YtanhagilpecnkaaDoorRows
import Derived.Test.YtanhagilpecnkaaDoorPB0
import Derived.Test.YtanhagilpecnkaaDoorPBS
import Derived.WalkKit
import Derived.Below
import Derived.Deep.QuietTactic
import Derived.BigQuiet
import Derived.Deep.LoopGhost
import Derived.Lib.ConvBytes
import Derived.Laws.BytesArg
import Derived.Lib.Hide
import Derived.Laws.Strings
set_option linter.unusedVariables false
set_option linter.unusedSimpArgs false
set_option maxRecDepth 100000
namespace Go.Proofs.YtanhagilpecnkaaDoor
open Go.RowKit

theorem toList_ne {x y : ByteArray} (h : ¬ x = y) : (x.toList == y.toList) = false := by
  rw [beq_eq_false_iff_ne, ByteArray.toList_eq, ByteArray.toList_eq]
  exact fun e => h (ByteArray.ext (Array.toList_inj.mp e))
/-- a row of texts that is read -/
def Txt (w : World) (A : Option Addr) (n : Nat) (xs : Nat → ByteArray) : Prop := ∀ j, j < n → ∃ b o, A = some ⟨b, o, none⟩ ∧ w.cell? ⟨b, o + j, none⟩ = some (.string (xs j))
/-- are so many texts one? -/
def sameTo (xs ys : Nat → ByteArray) : Nat → Bool
  | 0 => true
  | n + 1 => sameTo xs ys n && decide (xs n = ys n)
theorem Txt.at_ {w : World} {A : Option Addr} {n : Nat} {xs : Nat → ByteArray} (h : Txt w A n xs) {j : Nat} (hj : j < n) : ∃ b o, A = some ⟨b, o, none⟩ ∧ w.cell? ⟨b, o + j, none⟩ = some (.string (xs j)) := h j hj

set_option maxHeartbeats 2000000 in
theorem refSame_ne (A B : Option Addr) (m n ca cb : Nat) (w : World) (hne : ¬ m = n) :
    Calls Tryd.prog 7 #[.slice A m ca, .slice B n cb] w fun e w' => e = .returned (.bool false) ∧ w' = w := by
  have h1 : ((m : Int) == (n : Int)) = false := by simpa using (fun h : (m : Int) = n => hne (by omega))
  have h2 : ((m : Int) != (n : Int)) = true := by simpa using (fun h : (m : Int) = n => hne (by omega))
  have h3 : (m == n) = false := by simpa using hne
  have h4 : (m != n) = true := by simpa using hne
  clear hne
  go_enter Tryd.func7, Tryd.ntmps7
  go_wp2
  go_ret
  exact ⟨rfl, rfl⟩

theorem sameTo_succ_t {xs ys : Nat → ByteArray} {k : Nat} (h : sameTo xs ys k = true) (he : xs k = ys k) : sameTo xs ys (k + 1) = true := by simp [sameTo, h, he]
theorem sameTo_false {xs ys : Nat → ByteArray} : ∀ {n k : Nat}, k < n → xs k ≠ ys k → sameTo xs ys n = false
  | n + 1, k, hk, he => by
    rcases Nat.lt_or_ge k n with h | h
    · simp [sameTo, sameTo_false h he]
    · obtain rfl : k = n := by omega
      simp [sameTo, he]
set_option maxHeartbeats 4000000 in
theorem refSame_eq (b o b' o' n ca cb : Nat) (xs ys : Nat → ByteArray) (w : World) (hn : n ≤ 9223372036854775807)
    (ha : ∀ j, j < n → w.cell? ⟨b, o + j, none⟩ = some (.string (xs j))) (hb : ∀ j, j < n → w.cell? ⟨b', o' + j, none⟩ = some (.string (ys j))) :
    Calls Tryd.prog 7 #[.slice (some ⟨b, o, none⟩) n ca, .slice (some ⟨b', o', none⟩) n cb] w fun e w' => e = .returned (.bool (sameTo xs ys n)) ∧ ∃ q, w' = w.drewN q := by
  have A : Hid ((∀ j, j < n → w.cell? ⟨b, o + j, none⟩ = some (.string (xs j))) ∧ (∀ j, j < n → w.cell? ⟨b', o' + j, none⟩ = some (.string (ys j)))) := ⟨ha, hb⟩
  clear ha hb
  go_enter Tryd.func7, Tryd.ntmps7
  go_wp2
  go_loopw [5] (fun i w1 => ∃ k q : Nat, k ≤ n ∧ i = .int .i64 k ∧ Hid (sameTo xs ys k = true) ∧ w1 = w.drewN q) (fun i _ => n - (intOf i).toNat)
  case atStart => exact ⟨0, 0, Nat.zero_le _, rfl, rfl, rfl⟩
  case round =>
    obtain ⟨k, q, hk, rfl, hs, rfl⟩ := hrel
    by_cases hlt : k < n
    · have h1 := A.out.1 k hlt
      have h2 := A.out.2 k hlt
      by_cases he : xs k = ys k
      · have hs2 := Lib.hid (sameTo_succ_t hs.out he)
        rw [← he] at h2
        generalize xs k = x at h1 h2
        clear he hs
        go_wp2
        go_quiet (fail)
        go_wp2
        go_roundw
        case rel => exact ⟨k + 1, _, by omega, by go_num, hs2, rfl⟩
        case measure => simp [intOf]; omega
      · have hs2 := Lib.hid (sameTo_false hlt he)
        have q1 : ((xs k).toList == (ys k).toList) = false := toList_ne he
        have q2 : decide (xs k = ys k) = false := decide_eq_false he
        generalize xs k = x at h1 q1 q2
        generalize ys k = y at h2 q1 q2
        clear he hs
        go_wp2
        go_quiet (fail)
        go_wp2
        go_ret
        exact ⟨by rw [hs2.out]; rfl, q + nq, World.drewN_drewN ..⟩
    · obtain rfl : k = n := by omega
      clear hlt
      go_wp2
      go_ret
      exact ⟨by rw [hs.out]; rfl, _, rfl⟩
set_option maxHeartbeats 2000000 in
theorem refSame_zero (A B : Option Addr) (ca cb : Nat) (w : World) :
    Calls Tryd.prog 7 #[.slice A 0 ca, .slice B 0 cb] w fun e w' => e = .returned (.bool true) ∧ w' = w := by
  go_enter Tryd.func7, Tryd.ntmps7
  go_wp2
  refine wp_loop_rounds 1 ?_
  rw [rounds_succ]
  go_wp2
  go_ret
  exact ⟨rfl, rfl⟩
set_option maxHeartbeats 2000000 in
theorem slEqual_ne (A B : Option Addr) (m n ca cb : Nat) (w : World) (hne : ¬ m = n) :
    Calls Tryd.prog 15 #[.slice A m ca, .slice B n cb] w fun e w' => e = .returned (.bool false) ∧ w' = w := by
  have h1 : ((m : Int) == (n : Int)) = false := by simpa using (fun h : (m : Int) = n => hne (by omega))
  have h2 : ((m : Int) != (n : Int)) = true := by simpa using (fun h : (m : Int) = n => hne (by omega))
  have h3 : (m == n) = false := by simpa using hne
  have h4 : (m != n) = true := by simpa using hne
  clear hne
  go_enter Tryd.func15, Tryd.ntmps15
  go_wp2
  go_ret
  exact ⟨rfl, rfl⟩

set_option maxHeartbeats 4000000 in
theorem slEqual_eq (b o b' o' n ca cb : Nat) (xs ys : Nat → ByteArray) (w : World) (hn : n ≤ 9223372036854775807)
    (ha : ∀ j, j < n → w.cell? ⟨b, o + j, none⟩ = some (.string (xs j))) (hb : ∀ j, j < n → w.cell? ⟨b', o' + j, none⟩ = some (.string (ys j))) :
    Calls Tryd.prog 15 #[.slice (some ⟨b, o, none⟩) n ca, .slice (some ⟨b', o', none⟩) n cb] w fun e w' => e = .returned (.bool (sameTo xs ys n)) ∧ ∃ q, w' = w.drewN q := by
  have A : Hid ((∀ j, j < n → w.cell? ⟨b, o + j, none⟩ = some (.string (xs j))) ∧ (∀ j, j < n → w.cell? ⟨b', o' + j, none⟩ = some (.string (ys j)))) := ⟨ha, hb⟩
  clear ha hb
  go_enter Tryd.func15, Tryd.ntmps15
  go_wp2
  go_loopw [13] (fun i w1 => ∃ k q : Nat, k ≤ n ∧ i = .int .i64 k ∧ Hid (sameTo xs ys k = true) ∧ w1 = w.drewN q) (fun i _ => n - (intOf i).toNat)
  case atStart => exact ⟨0, 0, Nat.zero_le _, rfl, rfl, rfl⟩
  case round =>
    obtain ⟨k, q, hk, rfl, hs, rfl⟩ := hrel
    by_cases hlt : k < n
    · have h1 := A.out.1 k hlt
      have h2 := A.out.2 k hlt
      by_cases he : xs k = ys k
      · have hs2 := Lib.hid (sameTo_succ_t hs.out he)
        rw [← he] at h2
        generalize xs k = x at h1 h2
        clear he hs
        go_wp2
        go_quiet (fail)
        go_wp2
        go_roundw
        case rel => exact ⟨k + 1, _, by omega, by go_num, hs2, rfl⟩
        case measure => simp [intOf]; omega
      · have hs2 := Lib.hid (sameTo_false hlt he)
        have q1 : ((xs k).toList == (ys k).toList) = false := toList_ne he
        have q2 : decide (xs k = ys k) = false := decide_eq_false he
        generalize xs k = x at h1 q1 q2
        generalize ys k = y at h2 q1 q2
        clear he hs
        go_wp2
        go_quiet (fail)
        go_wp2
        go_ret
        exact ⟨by rw [hs2.out]; rfl, q + nq, World.drewN_drewN ..⟩
    · obtain rfl : k = n := by omega
      clear hlt
      go_wp2
      go_ret
      exact ⟨by rw [hs.out]; rfl, _, rfl⟩
set_option maxHeartbeats 2000000 in
theorem slEqual_zero (A B : Option Addr) (ca cb : Nat) (w : World) :
    Calls Tryd.prog 15 #[.slice A 0 ca, .slice B 0 cb] w fun e w' => e = .returned (.bool true) ∧ w' = w := by
  go_enter Tryd.func15, Tryd.ntmps15
  go_wp2
  refine wp_loop_rounds 1 ?_
  rw [rounds_succ]
  go_wp2
  go_ret
  exact ⟨rfl, rfl⟩
/-- a value is a row of texts that lie in the memory, and these are they -/
def Nms (w : World) (a : Value) (n : Nat) (xs : Nat → ByteArray) : Prop :=
  n ≤ 9223372036854775807 ∧ ∃ A ca, a = .slice A n ca ∧ (n = 0 ∨ ∃ b o, A = some ⟨b, o, none⟩ ∧ b < w.heap.size ∧ ∀ j, j < n → w.cell? ⟨b, o + j, none⟩ = some (.string (xs j)))
theorem Nms.on {w W : World} {a : Value} {n : Nat} {xs : Nat → ByteArray} (h : Nms w a n xs) (hW : Below w.heap.size w W) : Nms W a n xs := by
  obtain ⟨hn, A, ca, rfl, h⟩ := h
  refine ⟨hn, A, ca, rfl, ?_⟩
  rcases h with h | ⟨b, o, rfl, hb, hc⟩
  · exact .inl h
  · exact .inr ⟨b, o, rfl, Nat.lt_of_lt_of_le hb hW.size, fun j hj => by rw [hW.cell hb]; exact hc j hj⟩
theorem drew0 {w w' : World} (h : w' = w) : ∃ q, w' = w.drewN q := ⟨0, h⟩
theorem nmsEq {w : World} {a b : Value} {m n : Nat} {xs ys : Nat → ByteArray} (ha : Nms w a m xs) (hb : Nms w b n ys) (W : World) (hW : Below w.heap.size w W) :
    Calls Tryd.prog 15 #[a, b] W fun e w' => e = .returned (.bool (decide (m = n) && sameTo xs ys n)) ∧ ∃ q, w' = W.drewN q := by
  obtain ⟨hm, A, ca, eA, ka⟩ := ha.on hW
  obtain ⟨hn, B, cb, eB, kb⟩ := hb.on hW
  clear hW ha hb
  subst eA eB
  by_cases hne : m = n
  · subst hne
    by_cases h0 : m = 0
    · subst h0
      clear ka kb hm hn
      refine (slEqual_zero A B ca cb W).mono ?_
      rintro e w' ⟨rfl, hw⟩
      exact ⟨rfl, drew0 hw⟩
    · obtain ⟨b1, o1, rfl, _, hc1⟩ := ka.resolve_left h0
      obtain ⟨b2, o2, rfl, _, hc2⟩ := kb.resolve_left h0
      refine (slEqual_eq b1 o1 b2 o2 m ca cb xs ys W hm hc1 hc2).mono ?_
      rintro e w' ⟨rfl, hw⟩
      exact ⟨by rw [decide_eq_true (rfl : m = m)]; rfl, hw⟩
  · refine (slEqual_ne A B m n ca cb W hne).mono ?_
    rintro e w' ⟨rfl, hw⟩
    exact ⟨by rw [decide_eq_false hne]; rfl, drew0 hw⟩
theorem nmsSame {w : World} {a b : Value} {m n : Nat} {xs ys : Nat → ByteArray} (ha : Nms w a m xs) (hb : Nms w b n ys) (W : World) (hW : Below w.heap.size w W) :
    Calls Tryd.prog 7 #[a, b] W fun e w' => e = .returned (.bool (decide (m = n) && sameTo xs ys n)) ∧ ∃ q, w' = W.drewN q := by
  obtain ⟨hm, A, ca, eA, ka⟩ := ha.on hW
  obtain ⟨hn, B, cb, eB, kb⟩ := hb.on hW
  clear hW ha hb
  subst eA eB
  by_cases hne : m = n
  · subst hne
    by_cases h0 : m = 0
    · subst h0
      clear ka kb hm hn
      refine (refSame_zero A B ca cb W).mono ?_
      rintro e w' ⟨rfl, hw⟩
      exact ⟨rfl, drew0 hw⟩
    · obtain ⟨b1, o1, rfl, _, hc1⟩ := ka.resolve_left h0
      obtain ⟨b2, o2, rfl, _, hc2⟩ := kb.resolve_left h0
      refine (refSame_eq b1 o1 b2 o2 m ca cb xs ys W hm hc1 hc2).mono ?_
      rintro e w' ⟨rfl, hw⟩
      exact ⟨by rw [decide_eq_true (rfl : m = m)]; rfl, hw⟩
  · refine (refSame_ne A B m n ca cb W hne).mono ?_
    rintro e w' ⟨rfl, hw⟩
    exact ⟨by rw [decide_eq_false hne]; rfl, drew0 hw⟩
/-- WHAT model.Same SAYS OF TWO REPLIES. -/
theorem sameTo_self (xs : Nat → ByteArray) : ∀ n, sameTo xs xs n = true
  | 0 => rfl
  | n + 1 => by simp [sameTo, sameTo_self xs n]
end Go.Proofs.YtanhagilpecnkaaDoor
