/- Whiteout and hidden names: the law's own functions walked. No condition. -/
import Derived.Test.YtaeakifdamlnlaaDoorRows
import Derived.WalkKit
import Derived.Below
import Derived.Deep.QuietTactic
import Derived.BigQuiet
import Derived.Deep.LoopGhost
import Derived.Lib.Hide
import Derived.Laws.Strings
import Derived.Laws.Cover1
import Derived.Deep.RegionHeld3
import Derived.Deep.DeepMust
set_option linter.unusedVariables false
set_option linter.unusedSimpArgs false
set_option maxRecDepth 100000
namespace Go.Proofs.YtaeakifdamlnlaaDoor
open Go.RowKit

theorem toList_ne {x y : ByteArray} (h : ¬ x = y) : (x.toList == y.toList) = false := by
  rw [beq_eq_false_iff_ne, ByteArray.toList_eq, ByteArray.toList_eq]
  exact fun e => h (ByteArray.ext (Array.toList_inj.mp e))
/-- what cmp.Compare tells of two texts -/
def scmp (x y : ByteArray) : Int := if Op.bytesLess x.toList y.toList = true then -1 else if x = y then 0 else 1
set_option maxHeartbeats 2000000 in
theorem cmpStr (x y : ByteArray) (w : World) : Calls Tryd.prog 56 #[.string x, .string y] w fun e w' => e = .returned (.int .i64 (scmp x y)) ∧ w' = w := by
  have hd : ∃ d, scmp x y = d ∧ ((Op.bytesLess x.toList y.toList = true ∧ d = -1) ∨ (Op.bytesLess x.toList y.toList = false ∧ (x.toList == y.toList) = true ∧ d = 0) ∨ (Op.bytesLess x.toList y.toList = false ∧ (x.toList == y.toList) = false ∧ d = 1)) := by
    refine ⟨_, rfl, ?_⟩
    unfold scmp
    by_cases h : Op.bytesLess x.toList y.toList = true
    · exact .inl ⟨h, if_pos h⟩
    · rw [if_neg h]
      have h' := Bool.eq_false_iff.2 h
      by_cases e : x = y
      · exact .inr (.inl ⟨h', by rw [e]; simp, if_pos e⟩)
      · exact .inr (.inr ⟨h', toList_ne e, if_neg e⟩)
  obtain ⟨d, hd, hc⟩ := hd
  rw [hd]
  clear hd
  rcases hc with ⟨h1, rfl⟩ | ⟨h1, h2, rfl⟩ | ⟨h1, h2, rfl⟩
  all_goals
    go_enter Tryd.func56, Tryd.ntmps56
    go_wp2
    go_ret
    exact ⟨rfl, rfl⟩
/-- the closure that find.place hands on -/
theorem clos (x y : ByteArray) (i : Int) (w : World) : Calls Tryd.prog 55 #[.agg #[.string x, .int .i64 i], .string y] w fun e w' => e = .returned (.int .i64 (scmp x y)) ∧ Below w.heap.size w w' := by
  have hc : ∀ W, Calls Tryd.prog 56 #[.string x, .string y] W fun e w' => e = .returned (.int .i64 (scmp x y)) ∧ w' = W := fun W => cmpStr x y W
  generalize scmp x y = d at hc ⊢
  go_enter Tryd.func55, Tryd.ntmps55
  go_wp2_with (go_at_call 56; refine (hc _).mono ?_; rintro e w' ⟨rfl, rfl⟩)
  go_ret
  exact ⟨rfl, (Below.refl _ _).alloc (Nat.le_refl _) _⟩
end Go.Proofs.YtaeakifdamlnlaaDoor
set_option linter.unusedVariables false
set_option linter.unusedSimpArgs false
set_option maxRecDepth 100000
namespace Go.Proofs.YtaeakifdamlnlaaDoor
open Go.RowKit
/-- a row of names that lies in memory -/
def NameAt (w : World) (b o n : Nat) (nm : Nat → ByteArray) (ino : Nat → Int) : Prop :=
  ∀ j, j < n → w.cell? ⟨b, o + j * 2, none⟩ = some (.string (nm j)) ∧ w.cell? ⟨b, o + j * 2 + 1, none⟩ = some (.int .i64 (ino j))
theorem NameAt.on {w w' : World} {b o n : Nat} {nm : Nat → ByteArray} {ino : Nat → Int} (h : NameAt w b o n nm ino) {B : Nat} (hb : Below B w w') (hB : b < B) : NameAt w' b o n nm ino :=
  fun j hj => ⟨(hb.cell hB).trans (h j hj).1, (hb.cell hB).trans (h j hj).2⟩
set_option maxHeartbeats 4000000 in
theorem bsf (b o n cap : Nat) (nm : Nat → ByteArray) (ino : Nat → Int) (x : ByteArray) (w : World) (hn : n < 4611686018427387904) (hb : b < w.heap.size) (hN : NameAt w b o n nm ino)
    (hmono : ∀ s t, s ≤ t → t < n → scmp (nm t) x < 0 → scmp (nm s) x < 0) :
    Calls Tryd.prog 54 #[.slice (some ⟨b, o, none⟩) n cap, .string x, .func (.func 55) #[] #[]] w fun e w' =>
      ∃ i, i ≤ n ∧ (∀ t, t < i → scmp (nm t) x < 0) ∧ (∀ t, i ≤ t → t < n → 0 ≤ scmp (nm t) x) ∧ e = .returned (.tuple #[.int .i64 (i : Nat), .bool (decide (i < n) && decide (scmp (nm i) x = 0))]) ∧ Below w.heap.size w w' := by
  have HN : Aside (NameAt w b o n nm ino) := hN
  have M : Aside _ := hmono
  clear hN hmono
  have hc : ∀ (W : World) (y : ByteArray) (i : Int), Calls Tryd.prog 55 #[.agg #[.string y, .int .i64 i], .string x] W fun e w' => e = .returned (.int .i64 (scmp y x)) ∧ Below W.heap.size W w' := fun W y i => clos y x i W
  go_enter Tryd.func54, Tryd.ntmps54
  go_wp2
  go_loopg [9, 10] n (fun kx s9 s10 wr => ∃ lo hi : Nat, s9 = .int .i64 lo ∧ s10 = .int .i64 hi ∧ lo ≤ hi ∧ hi ≤ n ∧ hi - lo ≤ kx ∧ Aside (Below w.heap.size w wr) ∧
    Aside ((∀ t, t < lo → scmp (nm t) x < 0) ∧ (∀ t, hi ≤ t → t < n → 0 ≤ scmp (nm t) x)))
  case atStart => exact ⟨0, n, rfl, rfl, Nat.zero_le _, Nat.le_refl _, by omega, Below.refl _ _, (⟨fun t ht => absurd ht (Nat.not_lt_zero _), fun t h1 h2 => by omega⟩ : (∀ t, t < 0 → scmp (nm t) x < 0) ∧ (∀ t, n ≤ t → t < n → 0 ≤ scmp (nm t) x))⟩
  case round =>
    obtain ⟨lo, hi, rfl, rfl, hlh, hin, hg, S1, I⟩ := hrel
    by_cases hlt : lo < hi
    · have c1 := (HN.out.on S1.out hb ((lo + hi) / 2) (by omega)).1
      have c2 := (HN.out.on S1.out hb ((lo + hi) / 2) (by omega)).2
      generalize hy : nm ((lo + hi) / 2) = y at c1
      have Y : Aside (nm ((lo + hi) / 2) = y) := hy
      clear hy
      generalize ino ((lo + hi) / 2) = iy at c2
      have hcc := hc wr y iy
      clear hc
      obtain ⟨d, hd⟩ : ∃ d, scmp y x = d := ⟨_, rfl⟩
      rw [hd] at hcc
      have D : Aside (scmp y x = d) := hd
      clear hd
      by_cases hyx : d < 0
      · go_wp2_with (go_at_call 55; refine hcc.mono ?_; rintro e w' ⟨rfl, hbl⟩)
        go_roundg (hi - ((lo + hi) / 2 + 1))
        case measure => omega
        case rel =>
          have I2 : Aside ((∀ t, t < (lo + hi) / 2 + 1 → scmp (nm t) x < 0) ∧ (∀ t, hi ≤ t → t < n → 0 ≤ scmp (nm t) x)) := ⟨fun t ht => M.out t ((lo + hi) / 2) (by omega) (by omega) (by rw [Y.out, D.out]; exact hyx), I.out.2⟩
          exact ⟨(lo + hi) / 2 + 1, hi, by rw [show ((lo : Int) + (hi : Int)) / 2 + 1 = (((lo + hi) / 2 + 1 : Nat) : Int) by omega], rfl, by omega, hin, Nat.le_refl _, S1.out.trans (hbl.mono S1.out.size), I2⟩
      · go_wp2_with (go_at_call 55; refine hcc.mono ?_; rintro e w' ⟨rfl, hbl⟩)
        go_roundg ((lo + hi) / 2 - lo)
        case measure => omega
        case rel =>
          have I2 : Aside ((∀ t, t < lo → scmp (nm t) x < 0) ∧ (∀ t, (lo + hi) / 2 ≤ t → t < n → 0 ≤ scmp (nm t) x)) := ⟨I.out.1, fun t ht htn => Int.not_lt.1 fun h => by have := M.out ((lo + hi) / 2) t ht htn h; rw [Y.out, D.out] at this; omega⟩
          exact ⟨lo, (lo + hi) / 2, rfl, by rw [show ((lo : Int) + (hi : Int)) / 2 = (((lo + hi) / 2 : Nat) : Int) by omega], by omega, by omega, Nat.le_refl _, S1.out.trans (hbl.mono S1.out.size), I2⟩
    · obtain rfl : hi = lo := by omega
      by_cases hn' : hi < n
      · have c1 := (HN.out.on S1.out hb hi hn').1
        have c2 := (HN.out.on S1.out hb hi hn').2
        generalize hy : nm hi = y at c1
        have Y : Aside (nm hi = y) := hy
        clear hy
        generalize ino hi = iy at c2
        have hcc := hc wr y iy
        clear hc
        obtain ⟨d, hd⟩ : ∃ d, scmp y x = d := ⟨_, rfl⟩
        rw [hd] at hcc
        have D : Aside (scmp y x = d) := hd
        clear hd
        by_cases hyx : d = 0
        · go_wp2_with (go_at_call 55; refine hcc.mono ?_; rintro e w' ⟨rfl, hbl⟩)
          go_ret2
          exact ⟨hi, hin, I.out.1, I.out.2, by rw [Y.out, D.out]; simp [hn', hyx], S1.out.trans (hbl.mono S1.out.size)⟩
        · go_wp2_with (go_at_call 55; refine hcc.mono ?_; rintro e w' ⟨rfl, hbl⟩)
          go_ret2
          exact ⟨hi, hin, I.out.1, I.out.2, by rw [Y.out, D.out]; simp [hn', hyx], S1.out.trans (hbl.mono S1.out.size)⟩
      · clear hc
        go_wp2
        go_ret2
        exact ⟨hi, hin, I.out.1, I.out.2, by simp [hn'], S1.out⟩
end Go.Proofs.YtaeakifdamlnlaaDoor
set_option linter.unusedVariables false
set_option linter.unusedSimpArgs false
set_option maxRecDepth 100000
namespace Go.Proofs.YtaeakifdamlnlaaDoor
open Go.RowKit
/-- a node as a value -/
abbrev nodeV (i k m l s : Int) (B : Value) (t : ByteArray) (N : Value) : Value := .agg #[.int .i64 i, .int .i64 k, .int .i64 m, .int .i64 l, .int .i64 s, B, .string t, N]
/-- what a search tells -/
def Found (n : Nat) (nm : Nat → ByteArray) (x : ByteArray) (i : Nat) : Prop := i ≤ n ∧ (∀ t, t < i → scmp (nm t) x < 0) ∧ (∀ t, i ≤ t → t < n → 0 ≤ scmp (nm t) x)
theorem below_box {w w' : World} {o : Obj} (h : Below (w.alloc o).heap.size (w.alloc o) w') : Below w.heap.size w w' :=
  ((Below.refl w.heap.size w).alloc (Nat.le_refl _) o).trans (h.mono (by simp))
set_option maxHeartbeats 4000000 in
theorem place (b o n cap : Nat) (nm : Nat → ByteArray) (ino : Nat → Int) (x : ByteArray) (w : World) (hn : n < 4611686018427387904) (hb : b < w.heap.size) (hN : NameAt w b o n nm ino)
    (hmono : ∀ s t, s ≤ t → t < n → scmp (nm t) x < 0 → scmp (nm s) x < 0) (i k m l s : Int) (B : Value) (t : ByteArray) (hB : ∃ A n c, B = .slice A n c) :
    Calls Tryd.prog 42 #[nodeV i k m l s B t (.slice (some ⟨b, o, none⟩) n cap), .string x] w fun e w' =>
      ∃ j, Found n nm x j ∧ e = .returned (.tuple #[.int .i64 (j : Nat), .bool (decide (j < n) && decide (scmp (nm j) x = 0))]) ∧ Below w.heap.size w w' := by
  obtain ⟨A', n', c', rfl⟩ := hB
  have hc : ∀ W, Below w.heap.size w W → Calls Tryd.prog 54 #[.slice (some ⟨b, o, none⟩) n cap, .string x, .func (.func 55) #[] #[]] W fun e w' =>
      ∃ j, Found n nm x j ∧ e = .returned (.tuple #[.int .i64 (j : Nat), .bool (decide (j < n) && decide (scmp (nm j) x = 0))]) ∧ Below W.heap.size W w' :=
    fun W hW => (bsf b o n cap nm ino x W hn (Nat.lt_of_lt_of_le hb hW.size) (hN.on hW hb) hmono).mono fun e w' ⟨j, h1, h2, h3, h4, h5⟩ => ⟨j, ⟨h1, h2, h3⟩, h4, h5⟩
  clear hmono hN
  generalize hQ : (fun j => decide (j < n) && decide (scmp (nm j) x = 0)) = Q at hc
  have hQ' : ∀ j, (decide (j < n) && decide (scmp (nm j) x = 0)) = Q j := fun j => by rw [← hQ]
  simp only [hQ'] at hc ⊢
  clear hQ hQ'
  unfold nodeV
  go_enter Tryd.func42, Tryd.ntmps42
  go_wp2_with (go_at_call 54; refine (hc _ ((Below.refl _ _).alloc (Nat.le_refl _) _)).mono ?_; rintro e w' ⟨j, hj, rfl, hbl⟩)
  go_ret2
  exact ⟨j, hj, rfl, below_box hbl⟩
/-- the number that a name has, if it is there -/
def nameOf (n : Nat) (nm : Nat → ByteArray) (ino : Nat → Int) (x : ByteArray) (j : Nat) : Value := if j < n ∧ scmp (nm j) x = 0 then .tuple #[.int .i64 (ino j), .bool true] else .tuple #[.int .i64 0, .bool false]
set_option maxHeartbeats 4000000 in
theorem findName (b o n cap : Nat) (nm : Nat → ByteArray) (ino : Nat → Int) (x : ByteArray) (w : World) (hn : n < 4611686018427387904) (hb : b < w.heap.size) (hN : NameAt w b o n nm ino)
    (hmono : ∀ s t, s ≤ t → t < n → scmp (nm t) x < 0 → scmp (nm s) x < 0) (i k m l s : Int) (B : Value) (t : ByteArray) (hB : ∃ A n c, B = .slice A n c) :
    Calls Tryd.prog 34 #[nodeV i k m l s B t (.slice (some ⟨b, o, none⟩) n cap), .string x] w fun e w' =>
      ∃ j, Found n nm x j ∧ e = .returned (nameOf n nm ino x j) ∧ Below w.heap.size w w' := by
  have hc : ∀ W, Below w.heap.size w W → Calls Tryd.prog 42 #[nodeV i k m l s B t (.slice (some ⟨b, o, none⟩) n cap), .string x] W fun e w' =>
      ∃ j, Found n nm x j ∧ ((Aside (j < n ∧ scmp (nm j) x = 0) ∧ e = .returned (.tuple #[.int .i64 (j : Nat), .bool true])) ∨ (Aside (¬ (j < n ∧ scmp (nm j) x = 0)) ∧ e = .returned (.tuple #[.int .i64 (j : Nat), .bool false]))) ∧ Below W.heap.size W w' :=
    fun W hW => (place b o n cap nm ino x W hn (Nat.lt_of_lt_of_le hb hW.size) (hN.on hW hb) hmono i k m l s B t hB).mono fun e w' ⟨j, h1, h2, h3⟩ => ⟨j, h1, by
      by_cases h : j < n ∧ scmp (nm j) x = 0
      · exact .inl ⟨h, by rw [h2]; simp [h.1, h.2]⟩
      · refine .inr ⟨h, ?_⟩
        have : (decide (j < n) && decide (scmp (nm j) x = 0)) = false := by
          rw [← Bool.not_eq_true, Bool.and_eq_true, decide_eq_true_eq, decide_eq_true_eq]; exact h
        rw [h2, this], h3⟩
  obtain ⟨A', n', c', rfl⟩ := hB
  have HN : Aside (NameAt w b o n nm ino) := hN
  clear hN hmono
  unfold nodeV at hc ⊢
  go_enter Tryd.func34, Tryd.ntmps34
  go_wp2_with (go_at_call 42; refine (hc _ ((Below.refl _ _).alloc (Nat.le_refl _) _)).mono ?_; rintro e w' ⟨j, hj, ⟨hf, rfl⟩ | ⟨hf, rfl⟩, hbl⟩ <;> first
    | (have hi := (HN.out.on (below_box hbl) hb j hf.out.1).2
       have hq : w'.cell? ⟨w.heap.size, 7, none⟩ = some (.slice (some ⟨b, o, none⟩) n cap) := (hbl.cell (by simp)).trans (World.cell?_alloc_at _ _ _ _ rfl)
       have hjn : j < n := hf.out.1
       have hB : Aside (Below w.heap.size w w') := below_box hbl
       generalize hid : ino j = id at hi
       have ID : Aside (ino j = id) := hid
       clear hbl hid)
    | (have hB : Aside (Below w.heap.size w w') := below_box hbl
       clear hbl))
  · go_ret2
    exact ⟨j, hj, by unfold nameOf; rw [if_pos hf.out, ID.out]; rfl, hB.out⟩
  · go_ret2
    exact ⟨j, hj, by unfold nameOf; rw [if_neg hf.out]; rfl, hB.out⟩
end Go.Proofs.YtaeakifdamlnlaaDoor
set_option linter.unusedVariables false
set_option linter.unusedSimpArgs false
set_option maxRecDepth 100000
namespace Go.Proofs.YtaeakifdamlnlaaDoor
open Go.RowKit
/-- ".wh." -/
def pre : ByteArray := ⟨#[46, 119, 104, 46]⟩
theorem white (s : ByteArray) (hs : s.size ≤ 40) (w : World) : Calls Tryd.prog 7 #[.string s] w fun e w' => e = .returned (.string (pre ++ s)) ∧ w' = w := by
  have h : ¬ 9223372036854775807 < 4 + s.size := by omega
  go_enter Tryd.func7, Tryd.ntmps7
  go_wp2
  go_ret
  exact ⟨rfl, rfl⟩
theorem scmp_zero {x y : ByteArray} : scmp x y = 0 ↔ x = y := by
  unfold scmp
  constructor
  · intro h
    split at h
    · omega
    · split at h
      · assumption
      · omega
  · rintro rfl
    have : Op.bytesLess x.toList x.toList = false := by
      generalize x.toList = l
      induction l with
      | nil => rfl
      | cons a l ih => simp [Op.bytesLess, ih]
    simp [this]
/-- what has is told of a directory -/
def Got (s : ByteArray) (W : World) (e : Ending) (w' : World) : Prop :=
  ∃ (m l sz : Int) (A : Option Addr) (n c : Nat) (t : ByteArray) (b o cap : Nat), e = .returned (.tuple #[nodeV 1 2 m l sz (.slice A n c) t (.slice (some ⟨b, o, none⟩) 1 cap), .bool true]) ∧
    NameAt w' b o 1 (fun _ => s) (fun _ => 2) ∧ b < w'.heap.size ∧ Below W.heap.size W w'
set_option maxHeartbeats 4000000 in
theorem has (s x : ByteArray) (B I N : Int) (A : Option Addr) (n c : Nat) (w : World)
    (hG : ∀ W, Below w.heap.size w W → Calls Tryd.prog 33 #[.agg #[.int .i64 B, .int .i64 I, .int .i64 N, .slice A n c], .int .i64 1] W (Got s W)) :
    Calls Tryd.prog 24 #[.agg #[.int .i64 B, .int .i64 I, .int .i64 N, .slice A n c], .int .i64 1, .string x] w fun e w' => e = .returned (.bool (decide (s = x))) ∧ Below w.heap.size w w' := by
  have hF : ∀ (W : World) (b o cap : Nat) (m l sz : Int) (A' : Option Addr) (n' c' : Nat) (t : ByteArray), NameAt W b o 1 (fun _ => s) (fun _ => 2) → b < W.heap.size →
      Calls Tryd.prog 34 #[.agg #[.int .i64 1, .int .i64 2, .int .i64 m, .int .i64 l, .int .i64 sz, .slice A' n' c', .string t, .slice (some ⟨b, o, none⟩) 1 cap], .string x] W fun e w' =>
        (∃ i : Int, e = .returned (.tuple #[.int .i64 i, .bool (decide (s = x))])) ∧ Below W.heap.size W w' := by
    intro W b o cap m l sz A' n' c' t hN hb
    refine (findName b o 1 cap (fun _ => s) (fun _ => 2) x W (by omega) hb hN (fun _ _ _ _ h => h) 1 2 m l sz (.slice A' n' c') t ⟨_, _, _, rfl⟩).mono fun e w' ⟨j, ⟨h1, h2, h3⟩, he, hbl⟩ => ⟨?_, hbl⟩
    subst he
    unfold nameOf
    by_cases hx : s = x
    · have hz := scmp_zero.2 hx
      have : j = 0 := by
        rcases Nat.eq_zero_or_pos j with e | e
        · exact e
        · have := h2 0 e
          dsimp only at this
          omega
      subst this
      rw [if_pos ⟨by omega, hz⟩]
      exact ⟨2, by simp [hx]⟩
    · rw [if_neg (fun e => hx (scmp_zero.1 e.2))]
      exact ⟨0, by simp [hx]⟩
  generalize decide (s = x) = q at hF ⊢
  go_enter Tryd.func24, Tryd.ntmps24
  go_wp2_with (first
    | (go_at_call 33; refine (hG _ ((Below.refl _ _).alloc (Nat.le_refl _) _)).mono ?_; rintro e w' ⟨m, l, sz, A', n', c', t, b, o, cap, rfl, hN, hb, hbl⟩; have hB : Aside (Below w.heap.size w w') := below_box hbl; clear hbl)
    | (go_at_call 34; refine (hF _ _ _ _ _ _ _ _ _ _ _ (hN.on ((Below.refl _ _).alloc (Nat.le_refl _) _) hb) (Nat.lt_of_lt_of_le hb (by simp))).mono ?_; rintro e w'' ⟨⟨ii, rfl⟩, hbl⟩
       have hk : w''.cell? ⟨w'.heap.size, 1, none⟩ = some (.int .i64 2) := (hbl.cell (by simp)).trans (World.cell?_alloc_at _ _ _ _ rfl)
       have hB2 : Aside (Below w.heap.size w w'') := (hB.out.trans ((below_box hbl).mono hB.out.size)); clear hbl hB))
  all_goals
    go_ret
    first
      | exact ⟨rfl, hB2.out⟩
      | (rename_i hq; refine ⟨?_, hB2.out⟩; clear hG hF hB2; cases q <;> first | rfl | exact absurd rfl hq | (exfalso; simp_all))
end Go.Proofs.YtaeakifdamlnlaaDoor
set_option linter.unusedVariables false
set_option linter.unusedSimpArgs false
set_option maxRecDepth 100000
namespace Go.Proofs.YtaeakifdamlnlaaDoor
open Go.RowKit
abbrev diskV (B I N : Int) (A : Option Addr) (n c : Nat) : Value := .agg #[.int .i64 B, .int .i64 I, .int .i64 N, .slice A n c]
/-- a disk that lies boxed -/
theorem keepBox {N : Nat} {u V V' : World} {v0 v1 v2 v3 : Value} (h : Below V.heap.size V V') (hS : Below N u V ∧ N + 1 ≤ V.heap.size ∧ V.cell? ⟨N, 0, none⟩ = some v0 ∧ V.cell? ⟨N, 1, none⟩ = some v1 ∧ V.cell? ⟨N, 2, none⟩ = some v2 ∧ V.cell? ⟨N, 3, none⟩ = some v3) :
    Below N u V' ∧ N + 1 ≤ V'.heap.size ∧ V'.cell? ⟨N, 0, none⟩ = some v0 ∧ V'.cell? ⟨N, 1, none⟩ = some v1 ∧ V'.cell? ⟨N, 2, none⟩ = some v2 ∧ V'.cell? ⟨N, 3, none⟩ = some v3 := by
  obtain ⟨hb, hs, c0, c1, c2, c3⟩ := hS
  exact ⟨hb.trans (h.mono (by omega)), Nat.le_trans hs h.size, (h.cell (Nat.lt_of_lt_of_le (by dsimp only; omega) hs)).trans c0, (h.cell (Nat.lt_of_lt_of_le (by dsimp only; omega) hs)).trans c1, (h.cell (Nat.lt_of_lt_of_le (by dsimp only; omega) hs)).trans c2, (h.cell (Nat.lt_of_lt_of_le (by dsimp only; omega) hs)).trans c3⟩
set_option maxHeartbeats 4000000 in
theorem hides (s y : ByteArray) (hy : y.size ≤ 40) (B I N : Int) (A : Option Addr) (n c : Nat) (w : World)
    (hG : ∀ W, Below w.heap.size w W → Calls Tryd.prog 33 #[diskV B I N A n c, .int .i64 1] W (Got s W)) :
    Calls Tryd.prog 9 #[diskV B I N A n c, .int .i64 1, .string y] w fun e w' => e = .returned (.bool (decide (s = pre ++ y))) ∧ Below w.heap.size w w' := by
  have h7 : ∀ W : World, Calls Tryd.prog 7 #[.string y] W fun e w' => e = .returned (.string (pre ++ y)) ∧ Below W.heap.size W w' := fun W => (white y hy W).mono fun e w' ⟨h1, h2⟩ => ⟨h1, by rw [h2]; exact Below.refl _ _⟩
  have h24 : ∀ W : World, Below w.heap.size w W → Calls Tryd.prog 24 #[diskV B I N A n c, .int .i64 1, .string (pre ++ y)] W fun e w' => e = .returned (.bool (decide (s = pre ++ y))) ∧ Below W.heap.size W w' :=
    fun W hW => has s (pre ++ y) B I N A n c W fun V hV => hG V (hW.trans (hV.mono hW.size))
  clear hG
  generalize decide (s = pre ++ y) = q at h24 ⊢
  generalize pre ++ y = z at h7 h24
  unfold diskV at h24 ⊢
  go_enter Tryd.func9, Tryd.ntmps9
  go_wp2
  generalize hW : w.alloc (.cells #[.int .i64 B, .int .i64 I, .int .i64 N, .slice A n c] 24) = W
  have hB0 : Below w.heap.size w W := by rw [← hW]; exact (Below.refl _ _).alloc (Nat.le_refl _) _
  have hsz : w.heap.size + 1 ≤ W.heap.size := by rw [← hW]; simp
  have a0 : W.cell? ⟨w.heap.size, 0, none⟩ = some (.int .i64 B) := by rw [← hW, World.cell?_alloc_at _ _ _ _ rfl]; rfl
  have a1 : W.cell? ⟨w.heap.size, 1, none⟩ = some (.int .i64 I) := by rw [← hW, World.cell?_alloc_at _ _ _ _ rfl]; rfl
  have a2 : W.cell? ⟨w.heap.size, 2, none⟩ = some (.int .i64 N) := by rw [← hW, World.cell?_alloc_at _ _ _ _ rfl]; rfl
  have a3 : W.cell? ⟨w.heap.size, 3, none⟩ = some (.slice A n c) := by rw [← hW, World.cell?_alloc_at _ _ _ _ rfl]; rfl
  clear hW
  go_region_held3 (fun w' => Below w.heap.size w w' ∧ w.heap.size + 1 ≤ w'.heap.size ∧ w'.cell? ⟨w.heap.size, 0, none⟩ = some (.int .i64 B) ∧ w'.cell? ⟨w.heap.size, 1, none⟩ = some (.int .i64 I) ∧ w'.cell? ⟨w.heap.size, 2, none⟩ = some (.int .i64 N) ∧ w'.cell? ⟨w.heap.size, 3, none⟩ = some (.slice A n c)) (first | (exact keepBox hbl (by assumption)) | (refine ⟨Below.drew (by assumption), ?_⟩; go_keep) | go_keep)
    (first
      | (go_at_call 7; go_must (refine (h7 _).mono ?_; rintro e w' ⟨rfl, hbl⟩))
      | (go_at_call 24; go_must (refine (h24 _ ?_).mono ?_; exact And.left (by assumption); rintro e w' ⟨rfl, hbl⟩)))
  go_wp2
  go_ret
  exact ⟨rfl, And.left (by assumption)⟩
end Go.Proofs.YtaeakifdamlnlaaDoor
set_option linter.unusedVariables false
set_option linter.unusedSimpArgs false
set_option maxRecDepth 100000
namespace Go.Proofs.YtaeakifdamlnlaaDoor
open Go.RowKit
set_option maxHeartbeats 4000000 in
theorem cuts (s : ByteArray) (B I N : Int) (A : Option Addr) (n c : Nat) (w : World)
    (hG : ∀ W, Below w.heap.size w W → Calls Tryd.prog 33 #[diskV B I N A n c, .int .i64 1] W (Got s W)) (op : ByteArray) (hop : op = ⟨#[46, 119, 104, 46, 46, 119, 104, 46, 46, 111, 112, 113]⟩) :
    Calls Tryd.prog 11 #[diskV B I N A n c, .int .i64 1] w fun e w' => e = .returned (.bool (decide (s = op))) ∧ Below w.heap.size w w' := by
  have h24 : ∀ W : World, Below w.heap.size w W → Calls Tryd.prog 24 #[diskV B I N A n c, .int .i64 1, .string op] W fun e w' => e = .returned (.bool (decide (s = op))) ∧ Below W.heap.size W w' :=
    fun W hW => has s op B I N A n c W fun V hV => hG V (hW.trans (hV.mono hW.size))
  clear hG
  generalize decide (s = op) = q at h24 ⊢
  subst hop
  unfold diskV at h24 ⊢
  go_enter Tryd.func11, Tryd.ntmps11
  go_wp2_with (go_at_call 24; refine (h24 _ ((Below.refl _ _).alloc (Nat.le_refl _) _)).mono ?_; rintro e w' ⟨rfl, hbl⟩)
  go_ret
  exact ⟨rfl, below_box hbl⟩
theorem pre_extract (y : ByteArray) : (((pre ++ y).extract 0 4).toList == [46, 119, 104, 46]) = true := by
  have : (pre ++ y).extract 0 4 = pre := by
    apply ByteArray.ext
    rw [ByteArray.data_extract, ByteArray.data_append]
    simp [pre]
  rw [this, ByteArray.toList_eq]
  rfl
set_option maxHeartbeats 4000000 in
theorem kept (y : ByteArray) (hy : y.size ≤ 40) (w : World) :
    Calls Tryd.prog 19 #[.string (pre ++ y)] w fun e w' => e = .returned (.bool true) ∧ w' = w := by
  have h1 := pre_extract y
  have hz : (pre.size : Int) = 4 := rfl
  go_enter Tryd.func19, Tryd.ntmps19
  go_wp2
  go_ret
  exact ⟨by rw [← h1]; rfl, rfl⟩
/-- an answer -/
def Says (e : Ending) : Prop := ∃ q : Bool, e = .returned (.bool q)
set_option maxHeartbeats 4000000 in
theorem named (y : ByteArray) (hy : y.size ≤ 9223372036854775807) (w : World) :
    Calls Tryd.prog 16 #[.string y] w fun e w' => Says e ∧ w' = w := by
  go_enter Tryd.func16, Tryd.ntmps16
  go_wp2
  go_loopw [3] (fun i w1 => ∃ k : Nat, k ≤ y.size ∧ i = .int .i64 k ∧ w1 = w) (fun i _ => y.size - (intOf i).toNat)
  case atStart => exact ⟨0, Nat.zero_le _, rfl, rfl⟩
  case round =>
    obtain ⟨k, hk, rfl, rfl⟩ := hrel
    by_cases hlt : k < y.size
    · go_wp2
      case roundEnd => exact ⟨⟨k + 1, by omega, by go_num, trivial⟩, by simp [intOf]; omega⟩
      all_goals
        go_ret
        exact ⟨⟨_, rfl⟩, rfl⟩
    · obtain rfl : k = y.size := by omega
      clear hlt
      go_wp2
      all_goals
        go_ret
        exact ⟨⟨_, rfl⟩, rfl⟩
end Go.Proofs.YtaeakifdamlnlaaDoor
