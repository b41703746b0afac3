import Derived.Test.YtaeakifdamlnlaaDoorMK1
set_option linter.unusedVariables false
set_option linter.unusedSimpArgs false
set_option maxRecDepth 100000
namespace Go.Proofs.YtaeakifdamlnlaaDoor
open Go.RowKit
/-- a row of names that lies in memory -/
def NameAt (w : World) (b o n : Nat) (nm : Nat → ByteArray) (ino : Nat → Int) : Prop :=
  ∀ j, j < n → w.cell? ⟨b, o + j * 2, none⟩ = some (.string (nm j)) ∧ w.cell? ⟨b, o + j * 2 + 1, none⟩ = some (.int .i64 (ino j))
theorem NameAt.on {w w' : World} {b o n : Nat} {nm : Nat → ByteArray} {ino : Nat → Int} (h : NameAt w b o n nm ino) {B : Nat} (hb : Below B w w') (hB : b < B) : NameAt w' b o n nm ino :=
  fun j hj => ⟨(hb.cell hB).trans (h j hj).1, (hb.cell hB).trans (h j hj).2⟩
set_option maxHeartbeats 4000000 in
theorem bsf (b o n cap : Nat) (nm : Nat → ByteArray) (ino : Nat → Int) (x : ByteArray) (w : World) (hn : n < 4611686018427387904) (hb : b < w.heap.size) (hN : NameAt w b o n nm ino)
    (hmono : ∀ s t, s ≤ t → t < n → scmp (nm t) x < 0 → scmp (nm s) x < 0) :
    Calls Tryd.prog 54 #[.slice (some ⟨b, o, none⟩) n cap, .string x, .func (.func 55) #[] #[]] w fun e w' =>
      ∃ i, i ≤ n ∧ (∀ t, t < i → scmp (nm t) x < 0) ∧ (∀ t, i ≤ t → t < n → 0 ≤ scmp (nm t) x) ∧ e = .returned (.tuple #[.int .i64 (i : Nat), .bool (decide (i < n) && decide (scmp (nm i) x = 0))]) ∧ Below w.heap.size w w' := by
  have HN : Aside (NameAt w b o n nm ino) := hN
  have M : Aside _ := hmono
  clear hN hmono
  have hc : ∀ (W : World) (y : ByteArray) (i : Int), Calls Tryd.prog 55 #[.agg #[.string y, .int .i64 i], .string x] W fun e w' => e = .returned (.int .i64 (scmp y x)) ∧ Below W.heap.size W w' := fun W y i => clos y x i W
  go_enter Tryd.func54, Tryd.ntmps54
  go_wp2
  go_loopg [9, 10] n (fun kx s9 s10 wr => ∃ lo hi : Nat, s9 = .int .i64 lo ∧ s10 = .int .i64 hi ∧ lo ≤ hi ∧ hi ≤ n ∧ hi - lo ≤ kx ∧ Aside (Below w.heap.size w wr) ∧
    Aside ((∀ t, t < lo → scmp (nm t) x < 0) ∧ (∀ t, hi ≤ t → t < n → 0 ≤ scmp (nm t) x)))
  case atStart => exact ⟨0, n, rfl, rfl, Nat.zero_le _, Nat.le_refl _, by omega, Below.refl _ _, (⟨fun t ht => absurd ht (Nat.not_lt_zero _), fun t h1 h2 => by omega⟩ : (∀ t, t < 0 → scmp (nm t) x < 0) ∧ (∀ t, n ≤ t → t < n → 0 ≤ scmp (nm t) x))⟩
  case round =>
    obtain ⟨lo, hi, rfl, rfl, hlh, hin, hg, S1, I⟩ := hrel
    by_cases hlt : lo < hi
    · have c1 := (HN.out.on S1.out hb ((lo + hi) / 2) (by omega)).1
      have c2 := (HN.out.on S1.out hb ((lo + hi) / 2) (by omega)).2
      generalize hy : nm ((lo + hi) / 2) = y at c1
      have Y : Aside (nm ((lo + hi) / 2) = y) := hy
      clear hy
      generalize ino ((lo + hi) / 2) = iy at c2
      have hcc := hc wr y iy
      clear hc
      obtain ⟨d, hd⟩ : ∃ d, scmp y x = d := ⟨_, rfl⟩
      rw [hd] at hcc
      have D : Aside (scmp y x = d) := hd
      clear hd
      by_cases hyx : d < 0
      · go_wp2_with (go_at_call 55; refine hcc.mono ?_; rintro e w' ⟨rfl, hbl⟩)
        go_roundg (hi - ((lo + hi) / 2 + 1))
        case measure => omega
        case rel =>
          have I2 : Aside ((∀ t, t < (lo + hi) / 2 + 1 → scmp (nm t) x < 0) ∧ (∀ t, hi ≤ t → t < n → 0 ≤ scmp (nm t) x)) := ⟨fun t ht => M.out t ((lo + hi) / 2) (by omega) (by omega) (by rw [Y.out, D.out]; exact hyx), I.out.2⟩
          exact ⟨(lo + hi) / 2 + 1, hi, by rw [show ((lo : Int) + (hi : Int)) / 2 + 1 = (((lo + hi) / 2 + 1 : Nat) : Int) by omega], rfl, by omega, hin, Nat.le_refl _, S1.out.trans (hbl.mono S1.out.size), I2⟩
      · go_wp2_with (go_at_call 55; refine hcc.mono ?_; rintro e w' ⟨rfl, hbl⟩)
        go_roundg ((lo + hi) / 2 - lo)
        case measure => omega
        case rel =>
          have I2 : Aside ((∀ t, t < lo → scmp (nm t) x < 0) ∧ (∀ t, (lo + hi) / 2 ≤ t → t < n → 0 ≤ scmp (nm t) x)) := ⟨I.out.1, fun t ht htn => Int.not_lt.1 fun h => by have := M.out ((lo + hi) / 2) t ht htn h; rw [Y.out, D.out] at this; omega⟩
          exact ⟨lo, (lo + hi) / 2, rfl, by rw [show ((lo : Int) + (hi : Int)) / 2 = (((lo + hi) / 2 : Nat) : Int) by omega], by omega, by omega, Nat.le_refl _, S1.out.trans (hbl.mono S1.out.size), I2⟩
    · obtain rfl : hi = lo := by omega
      by_cases hn' : hi < n
      · have c1 := (HN.out.on S1.out hb hi hn').1
        have c2 := (HN.out.on S1.out hb hi hn').2
        generalize hy : nm hi = y at c1
        have Y : Aside (nm hi = y) := hy
        clear hy
        generalize ino hi = iy at c2
        have hcc := hc wr y iy
        clear hc
        obtain ⟨d, hd⟩ : ∃ d, scmp y x = d := ⟨_, rfl⟩
        rw [hd] at hcc
        have D : Aside (scmp y x = d) := hd
        clear hd
        by_cases hyx : d = 0
        · go_wp2_with (go_at_call 55; refine hcc.mono ?_; rintro e w' ⟨rfl, hbl⟩)
          go_ret2
          exact ⟨hi, hin, I.out.1, I.out.2, by rw [Y.out, D.out]; simp [hn', hyx], S1.out.trans (hbl.mono S1.out.size)⟩
        · go_wp2_with (go_at_call 55; refine hcc.mono ?_; rintro e w' ⟨rfl, hbl⟩)
          go_ret2
          exact ⟨hi, hin, I.out.1, I.out.2, by rw [Y.out, D.out]; simp [hn', hyx], S1.out.trans (hbl.mono S1.out.size)⟩
      · clear hc
        go_wp2
        go_ret2
        exact ⟨hi, hin, I.out.1, I.out.2, by simp [hn'], S1.out⟩
end Go.Proofs.YtaeakifdamlnlaaDoor
