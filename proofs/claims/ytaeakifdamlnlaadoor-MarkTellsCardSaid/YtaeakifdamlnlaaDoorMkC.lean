/- More of the disk's own functions, walked. Conditions: those each theorem states. -/
import Derived.Test.YtaeakifdamlnlaaDoorMkB
import Derived.Lib.BufferWrite
set_option linter.unusedVariables false
set_option linter.unusedSimpArgs false
set_option maxRecDepth 100000
namespace Go.Proofs.YtaeakifdamlnlaaDoor
open Go.RowKit Go.Lib
/-- the state of a file that is being copied -/
structure FInv (w0 : World) (s : Int) (g cap n k : Nat) (wr : World) : Prop where
  c0 : wr.cell? ⟨w0.heap.size, 0, none⟩ = some (.int .i64 s)
  c1 : wr.cell? ⟨w0.heap.size, 1, none⟩ = some (.slice (some ⟨g, 0, none⟩) n cap)
  r0 : ∃ u, wr.cell? ⟨w0.heap.size + 1, 0, none⟩ = some u
  r1 : ∃ u, wr.cell? ⟨w0.heap.size + 1, 1, none⟩ = some u
  f0 : wr.frozen? ⟨w0.heap.size + 1, 0, none⟩ = false
  f1 : wr.frozen? ⟨w0.heap.size + 1, 1, none⟩ = false
  own : ∃ f : Nat → Bk, wr.ownsRow (w0.heap.size + 2) 69 2 (.slice (some ⟨g, 0, none⟩) n cap) n (bkCells n f) ∧ ∀ j, k ≤ j → j < n → Drow w0 (f j).D (f j).m (f j).k
  below : Below w0.heap.size w0 wr
  size : w0.heap.size + 2 ≤ wr.heap.size
  far : w0.heap.size + 2 ≤ g
  lt : g < wr.heap.size
theorem FInv.on {w0 : World} {s : Int} {g cap n k : Nat} {wr w' : World} (h : FInv w0 s g cap n k wr) (hb : Below wr.heap.size wr w') : FInv w0 s g cap n k w' where
  c0 := (hb.cell (Nat.lt_of_lt_of_le (by dsimp only; omega) h.size)).trans h.c0
  c1 := (hb.cell (Nat.lt_of_lt_of_le (by dsimp only; omega) h.size)).trans h.c1
  r0 := h.r0.imp fun u hu => (hb.cell (Nat.lt_of_lt_of_le (by dsimp only; omega) h.size)).trans hu
  r1 := h.r1.imp fun u hu => (hb.cell (Nat.lt_of_lt_of_le (by dsimp only; omega) h.size)).trans hu
  f0 := (hb.frozen (Nat.lt_of_lt_of_le (by dsimp only; omega) h.size)).trans h.f0
  f1 := (hb.frozen (Nat.lt_of_lt_of_le (by dsimp only; omega) h.size)).trans h.f1
  own := by
    obtain ⟨f, ho, hd⟩ := h.own
    refine ⟨f, ⟨ho.1, ?_⟩, hd⟩
    rcases ho.2 with hh | ⟨g', cap', cur, hv, hbg, hg, rest⟩
    · exact .inl hh
    · have : g' < wr.heap.size := by
        rcases Nat.lt_or_ge g' wr.heap.size with h | h
        · exact h
        · rw [Array.getElem?_eq_none h] at hg; cases hg
      exact .inr ⟨g', cap', cur, hv, hbg, (hb.block _ this).trans hg, rest⟩
  below := h.below.trans (hb.mono h.below.size)
  size := Nat.le_trans h.size hb.size
  far := h.far
  lt := Nat.lt_of_lt_of_le h.lt hb.size
theorem bkCells_congr {f g : Nat → Bk} : ∀ n, (∀ j, j < n → f j = g j) → bkCells n f = bkCells n g
  | 0, _ => rfl
  | n + 1, h => by rw [bkCells_succ, bkCells_succ, bkCells_congr n fun j hj => h j (by omega), h n (Nat.lt_succ_self n)]
def upd (f : Nat → Bk) (k : Nat) (D : Option Addr) (m kk : Nat) : Nat → Bk := fun j => if j = k then ⟨(f k).z, D, m, kk⟩ else f j
theorem bkCells_set (f : Nat → Bk) (D : Option Addr) (m kk : Nat) : ∀ n k, k < n → (bkCells n f).set (k * 2 + 1) (.slice D m kk) = bkCells n (upd f k D m kk)
  | 0, k, h => absurd h (Nat.not_lt_zero _)
  | n + 1, k, h => by
    have hl := bkCells_length f n
    rw [bkCells_succ, bkCells_succ]
    rcases Nat.lt_or_ge k n with hk | hk
    · rw [List.set_append_left _ _ (by omega), bkCells_set f D m kk n k hk]
      have : upd f k D m kk n = f n := if_neg (by omega)
      rw [this]
    · obtain rfl : k = n := by omega
      rw [List.set_append_right _ _ (by omega), hl, show k * 2 + 1 - k * 2 = 1 by omega]
      have h1 : bkCells k (upd f k D m kk) = bkCells k f := bkCells_congr k fun j hj => if_neg (by omega)
      have h2 : upd f k D m kk k = ⟨(f k).z, D, m, kk⟩ := if_pos rfl
      rw [h1, h2]
      rfl
theorem FInv.stored {w0 : World} {s : Int} {g cap n k : Nat} {wr : World} (h : FInv w0 s g cap n k wr) (hk : k < n) (B : Option Addr) (m k' : Nat) : FInv w0 s g cap n (k + 1) (wr.setCell ⟨g, k * 2 + 1, none⟩ (.slice B m k')) where
  c0 := (World.cell?_setCell_far _ _ _ _ (by have := h.far; dsimp only; omega)).trans h.c0
  c1 := (World.cell?_setCell_far _ _ _ _ (by have := h.far; dsimp only; omega)).trans h.c1
  r0 := h.r0.imp fun u hu => (World.cell?_setCell_far _ _ _ _ (by have := h.far; dsimp only; omega)).trans hu
  r1 := h.r1.imp fun u hu => (World.cell?_setCell_far _ _ _ _ (by have := h.far; dsimp only; omega)).trans hu
  f0 := by rw [World.frozen?_setCell]; exact h.f0
  f1 := by rw [World.frozen?_setCell]; exact h.f1
  own := by
    obtain ⟨f, ho, hd⟩ := h.own
    have h1 := (ho.stored (k * 2 + 1) (.slice B m k')).1
    rw [bkCells_set f B m k' n k hk] at h1
    exact ⟨_, h1, fun j hj hjn => by
      have : upd f k B m k' j = f j := if_neg (by omega)
      rw [this]; exact hd j (by omega) hjn⟩
  below := h.below.setCell (by have := h.far; dsimp only; omega) _
  size := by simpa [World.setCell] using h.size
  far := h.far
  lt := by simpa [World.setCell] using h.lt
theorem FInv.drew {w0 : World} {s : Int} {g cap n k : Nat} {wr : World} (h : FInv w0 s g cap n k wr) : FInv w0 s g cap n k wr.drew :=
  ⟨h.c0, h.c1, h.r0, h.r1, h.f0, h.f1, h.own, h.below.drew, h.size, h.far, h.lt⟩
theorem bkCells_get (f : Nat → Bk) : ∀ n k, k < n → (bkCells n f)[k * 2 + 1]? = some (.slice (f k).D (f k).m (f k).k)
  | 0, k, h => absurd h (Nat.not_lt_zero _)
  | n + 1, k, h => by
    have hl := bkCells_length f n
    rw [bkCells_succ]
    rcases Nat.lt_or_ge k n with hk | hk
    · rw [List.getElem?_append_left (by omega), bkCells_get f n k hk]
    · obtain rfl : k = n := by omega
      rw [List.getElem?_append_right (by omega), hl, show k * 2 + 1 - k * 2 = 1 by omega]
      rfl
theorem fstart {w w' : World} {s : Int} {A : Option Addr} {n c : Nat} {v : Value} (h0 : 0 < n)
    (hv : OwnB w ((w.alloc (.cells #[.int .i64 s, .slice A n c] 39)).alloc (.cells #[.int .i64 0, .slice none 0 0] 39)).heap.size w' v n)
    (hbl : Below ((w.alloc (.cells #[.int .i64 s, .slice A n c] 39)).alloc (.cells #[.int .i64 0, .slice none 0 0] 39)).heap.size ((w.alloc (.cells #[.int .i64 s, .slice A n c] 39)).alloc (.cells #[.int .i64 0, .slice none 0 0] 39)) w') :
    ∃ g cap, v = .slice (some ⟨g, 0, none⟩) n cap ∧ n ≤ cap ∧ FInv w s g cap n 0 (w'.setCell ⟨w.heap.size, 1, none⟩ (.slice (some ⟨g, 0, none⟩) n cap)) := by
  have hsz : ((w.alloc (.cells #[.int .i64 s, .slice A n c] 39)).alloc (.cells #[.int .i64 0, .slice none 0 0] 39)).heap.size = w.heap.size + 2 := by simp
  have hW := hbl.size
  rw [hsz] at hv hW
  rcases hv with ⟨rfl, _⟩ | ⟨_, g, cap, f, rfl, hown, hd⟩
  · omega
  · have k0 : w'.cell? ⟨w.heap.size, 0, none⟩ = some (.int .i64 s) := (hbl.cell (by simp; omega)).trans (by rw [World.cell?_alloc_past _ _ _ (by simp), World.cell?_alloc_at _ _ _ _ rfl]; rfl)
    have k1 : w'.cell? ⟨w.heap.size, 1, none⟩ = some (.slice A n c) := (hbl.cell (by simp; omega)).trans (by rw [World.cell?_alloc_past _ _ _ (by simp), World.cell?_alloc_at _ _ _ _ rfl]; rfl)
    have r0 : w'.cell? ⟨w.heap.size + 1, 0, none⟩ = some (.int .i64 0) := (hbl.cell (by simp)).trans (by rw [World.cell?_alloc_at _ _ _ _ (by simp)]; rfl)
    have r1 : w'.cell? ⟨w.heap.size + 1, 1, none⟩ = some (.slice none 0 0) := (hbl.cell (by simp)).trans (by rw [World.cell?_alloc_at _ _ _ _ (by simp)]; rfl)
    have f0 : w'.frozen? ⟨w.heap.size + 1, 0, none⟩ = false := (hbl.frozen (by simp)).trans (by simp)
    have f1 : w'.frozen? ⟨w.heap.size + 1, 1, none⟩ = false := (hbl.frozen (by simp)).trans (by simp)
    obtain ⟨hg1, hg2⟩ := hown.lt g rfl
    have hnc : n ≤ cap := by
      rcases hown.2 with ⟨hh, _⟩ | ⟨g', cap', cur, hh, _, _, hnc, _⟩
      · cases hh
      · cases hh; exact hnc
    refine ⟨g, cap, rfl, hnc, ⟨?_, ?_, ⟨.int .i64 0, ?_⟩, ⟨.slice none 0 0, ?_⟩, ?_, ?_, ⟨f, ?_, fun j _ hj => hd j hj⟩, ?_, ?_, hg1, ?_⟩⟩
    · rw [World.cell?_setCell_other (h := by simp)]; exact k0
    · exact World.cell?_setCell_same' _ _ _ (by rw [k1]; rfl)
    · rw [World.cell?_setCell_far _ _ _ _ (by simp)]; exact r0
    · rw [World.cell?_setCell_far _ _ _ _ (by simp)]; exact r1
    · rw [World.frozen?_setCell]; exact f0
    · rw [World.frozen?_setCell]; exact f1
    · exact hown.kept (grownBy_setCell w' w.heap.size 1 _) (.inr (by simp [Value.ownBlock]; omega))
    · exact ((((Below.refl w.heap.size w).alloc (Nat.le_refl _) _).alloc (by simp) _).trans (hbl.mono (by simp; omega))).setCell (Nat.le_refl _) _
    · simpa [World.setCell] using hW
    · simpa [World.setCell] using hg2
theorem res52 (tmps : Array Value) (W : World) (b : Nat) (u v : Value) (h2 : tmps.getD 2 undef = .pointer (some ⟨b, 0, none⟩)) (c0 : W.cell? ⟨b, 0, none⟩ = some u) (c1 : W.cell? ⟨b, 1, none⟩ = some v) :
    (results Tryd.f52 tmps).run Tryd.prog W = .ok (.agg #[u, v]) W := by
  have hr : Tryd.f52.results = #[.cell 2 39] := by rfl
  have h2' : tmps[2]?.getD undef = .pointer (some ⟨b, 0, none⟩) := by simpa using h2
  simp [results, hr, h2', asAddr]
  go_simp
set_option maxHeartbeats 4000000 in
theorem file_ (s : Int) (A : Option Addr) (n c : Nat) (w : World) (h : Brow w A n c) (h0 : 0 < n) :
    Calls Tryd.prog 52 #[.agg #[.int .i64 s, .slice A n c]] w fun e w' => ∃ A' c', e = .returned (.agg #[.int .i64 s, .slice A' n c']) ∧ Below w.heap.size w w' := by
  have hc : ∀ W, Below w.heap.size w W → Calls Tryd.prog 63 #[.slice A n c] W fun e w' => ∃ v, e = .returned v ∧ Aside (OwnB w W.heap.size w' v n) ∧ Below W.heap.size W w' := fun W hW => cloneBlocks A n c w W h hW
  have hmx : n ≤ 4398046511104 := h.1
  clear h
  go_enter Tryd.func52, Tryd.ntmps52
  go_wp2_with (go_at_call 63; refine (hc _ (((Below.refl _ _).alloc (Nat.le_refl _) _).alloc (by simp) _)).mono ?_; rintro e w' ⟨v, rfl, hv, hbl⟩
    <;> (have k1 : w'.cell? ⟨w.heap.size, 1, none⟩ = some (.slice A n c) := (hbl.cell (by simp; omega)).trans (by rw [World.cell?_alloc_past _ _ _ (by simp), World.cell?_alloc_at _ _ _ _ rfl]; rfl)
         have k0 : w'.cell? ⟨w.heap.size, 0, none⟩ = some (.int .i64 s) := (hbl.cell (by simp; omega)).trans (by rw [World.cell?_alloc_past _ _ _ (by simp), World.cell?_alloc_at _ _ _ _ rfl]; rfl)
         have f1 : w'.frozen? ⟨w.heap.size, 1, none⟩ = false := (hbl.frozen (by simp; omega)).trans (by simp)
         have hform : ∃ g cap, v = .slice (some ⟨g, 0, none⟩) n cap ∧ n ≤ cap ∧ Aside (FInv w s g cap n 0 (w'.setCell ⟨w.heap.size, 1, none⟩ (.slice (some ⟨g, 0, none⟩) n cap))) := fstart h0 hv.out hbl
         obtain ⟨g, cap, rfl, hnc, hF⟩ := hform
         clear hv))
  go_loopw [11] (fun i wr => ∃ k : Nat, k ≤ n ∧ i = .int .i64 k ∧ Aside (FInv w s g cap n k wr)) (fun i _ => n - (RowKit.intOf i).toNat)
  case atStart => exact ⟨0, Nat.zero_le _, rfl, hF.out⟩
  case round =>
    obtain ⟨k, hk, rfl, hI⟩ := hrel
    by_cases hlt : k < n
    · obtain ⟨f, hown, hD⟩ := hI.out.own
      have c1 := hI.out.c1
      have cK : wr.cell? ⟨g, k * 2 + 1, none⟩ = some (.slice (f k).D (f k).m (f k).k) := by
        rw [hown.cellAt (k * 2 + 1) (by omega), bkCells_get f n k hlt]
      have fK := hown.frozenAt (k * 2 + 1)
      have hd := hD k (Nat.le_refl _) hlt
      have hc64 : ∀ W, Below w.heap.size w W → Calls Tryd.prog 64 #[.slice (f k).D (f k).m (f k).k] W fun e w' => ∃ B k', e = .returned (.slice B (f k).m k') ∧ Below W.heap.size W w' := fun W hW => (cloneBytes _ _ _ W (hd.on hW)).mono fun e w' ⟨B, k', g1, _, g3⟩ => ⟨B, k', g1, g3⟩
      generalize (f k).D = D at cK hc64
      generalize (f k).m = m at cK hc64
      generalize (f k).k = kk at cK hc64
      clear hown hD hd
      go_wp2
      go_region_with (go_at_call 64; refine (hc64 _ ?_).mono ?_; exact hI.out.below.drew; rintro e w2 ⟨B, k', rfl, hbl2⟩; have hF2 := hI.out.drew.on hbl2; have HF2 : Aside (FInv w s g cap n k w2) := hF2; have c1' := hF2.c1; have cK' : w2.cell? ⟨g, k * 2 + 1, none⟩ = some (.slice D m kk) := (hbl2.cell (by exact hI.out.lt)).trans cK; have fK' : w2.frozen? ⟨g, k * 2 + 1, none⟩ = false := (hbl2.frozen (by exact hI.out.lt)).trans fK; clear hbl2 hF2)
      all_goals
        have hI3 : Aside (FInv w s g cap n (k + 1) (w2.setCell ⟨g, k * 2 + 1, none⟩ (.slice B m k'))) := HF2.out.stored hlt B m k'
        clear HF2 c1' cK' fK' hc64 c1 cK fK hI
        go_wp2
        go_roundw
        case rel => exact ⟨k + 1, Nat.succ_le_of_lt hlt, by go_num, hI3⟩
        case measure => simp [RowKit.intOf]; omega
    · obtain rfl : k = n := by omega
      have c0 := hI.out.c0
      have c1 := hI.out.c1
      obtain ⟨u0, r0⟩ := hI.out.r0
      obtain ⟨u1, r1⟩ := hI.out.r1
      have f0 := hI.out.f0
      have f1' := hI.out.f1
      have hBw : Aside (Below w.heap.size w wr) := hI.out.below
      clear hI hF
      go_wp2
      have hAB : (⟨w.heap.size + 1, 0, none⟩ : Addr) ≠ ⟨w.heap.size + 1, 1, none⟩ := by simp
      refine bodyPost_ret_by (res52 _ _ (w.heap.size + 1) (.int .i64 s) (.slice (some ⟨g, 0, none⟩) k cap) rfl ?_ ?_) rfl ⟨_, cap, rfl, (hBw.out.setCell (by dsimp only; omega) _).setCell (by dsimp only; omega) _⟩
      · rw [World.cell?_setCell_other (h := hAB.symm)]; exact World.cell?_setCell_same' _ _ _ (by rw [r0]; rfl)
      · exact World.cell?_setCell_same' _ _ _ (by rw [World.cell?_setCell_other (h := hAB), r1]; rfl)
end Go.Proofs.YtaeakifdamlnlaaDoor
set_option linter.unusedVariables false
set_option linter.unusedSimpArgs false
set_option maxRecDepth 100000
namespace Go.Proofs.YtaeakifdamlnlaaDoor
open Go.RowKit Go.Lib
set_option maxHeartbeats 4000000 in
theorem file0 (s : Int) (A : Option Addr) (c : Nat) (w : World) (h : Brow w A 0 c) :
    Calls Tryd.prog 52 #[.agg #[.int .i64 s, .slice A 0 c]] w fun e w' => ∃ A' c', e = .returned (.agg #[.int .i64 s, .slice A' 0 c']) ∧ Below w.heap.size w w' := by
  have hc : ∀ W, Below w.heap.size w W → Calls Tryd.prog 63 #[.slice A 0 c] W fun e w' => ∃ B k, e = .returned (.slice B 0 k) ∧ Below W.heap.size W w' := fun W hW => (cloneBlocks A 0 c w W h hW).mono fun e w' ⟨v, h1, h2, h3⟩ => by
    rcases h2 with ⟨_, B, k, rfl, _⟩ | ⟨_, g, cap, f, rfl, _⟩
    · exact ⟨B, k, h1, h3⟩
    · exact ⟨_, cap, h1, h3⟩
  clear h
  go_enter Tryd.func52, Tryd.ntmps52
  go_wp2_with (go_at_call 63; refine (hc _ (((Below.refl _ _).alloc (Nat.le_refl _) _).alloc (by simp) _)).mono ?_; rintro e w' ⟨B, k, rfl, hbl⟩
    <;> (have k1 : w'.cell? ⟨w.heap.size, 1, none⟩ = some (.slice A 0 c) := (hbl.cell (by simp; omega)).trans (by rw [World.cell?_alloc_past _ _ _ (by simp), World.cell?_alloc_at _ _ _ _ rfl]; rfl)
         have k0 : w'.cell? ⟨w.heap.size, 0, none⟩ = some (.int .i64 s) := (hbl.cell (by simp; omega)).trans (by rw [World.cell?_alloc_past _ _ _ (by simp), World.cell?_alloc_at _ _ _ _ rfl]; rfl)
         have f1 : w'.frozen? ⟨w.heap.size, 1, none⟩ = false := (hbl.frozen (by simp; omega)).trans (by simp)
         have r0 : w'.cell? ⟨w.heap.size + 1, 0, none⟩ = some (.int .i64 0) := (hbl.cell (by simp)).trans (by rw [World.cell?_alloc_at _ _ _ _ (by simp)]; rfl)
         have r1 : w'.cell? ⟨w.heap.size + 1, 1, none⟩ = some (.slice none 0 0) := (hbl.cell (by simp)).trans (by rw [World.cell?_alloc_at _ _ _ _ (by simp)]; rfl)
         have g0 : w'.frozen? ⟨w.heap.size + 1, 0, none⟩ = false := (hbl.frozen (by simp)).trans (by simp)
         have g1 : w'.frozen? ⟨w.heap.size + 1, 1, none⟩ = false := (hbl.frozen (by simp)).trans (by simp)
         have hB : Aside (Below w.heap.size w w') := (((Below.refl w.heap.size w).alloc (Nat.le_refl _) _).alloc (by simp) _).trans (hbl.mono (by simp; omega))
         clear hbl))
  refine wp_loop_rounds 1 ?_
  rw [rounds_succ]
  go_wp2
  have hAB : (⟨w.heap.size + 1, 0, none⟩ : Addr) ≠ ⟨w.heap.size + 1, 1, none⟩ := by simp
  have hX0 : (⟨w.heap.size, 1, none⟩ : Addr) ≠ ⟨w.heap.size + 1, 0, none⟩ := by simp
  have hX1 : (⟨w.heap.size, 1, none⟩ : Addr) ≠ ⟨w.heap.size + 1, 1, none⟩ := by simp
  refine bodyPost_ret_by (res52 _ _ (w.heap.size + 1) (.int .i64 s) (.slice B 0 k) rfl ?_ ?_) rfl ⟨_, k, rfl, ((hB.out.setCell (Nat.le_refl _) _).setCell (by dsimp only; omega) _).setCell (by dsimp only; omega) _⟩
  · rw [World.cell?_setCell_other (h := hAB.symm)]; exact World.cell?_setCell_same' _ _ _ (by rw [World.cell?_setCell_other (h := hX0), r0]; rfl)
  · exact World.cell?_setCell_same' _ _ _ (by rw [World.cell?_setCell_other (h := hAB), World.cell?_setCell_other (h := hX1), r1]; rfl)
/-- a file, copied: of the same size, as many blocks -/
theorem file (s : Int) (A : Option Addr) (n c : Nat) (w : World) (h : Brow w A n c) :
    Calls Tryd.prog 52 #[.agg #[.int .i64 s, .slice A n c]] w fun e w' => ∃ A' c', e = .returned (.agg #[.int .i64 s, .slice A' n c']) ∧ Below w.heap.size w w' := by
  rcases Nat.eq_zero_or_pos n with rfl | h0
  · exact file0 s A c w h
  · exact file_ s A n c w h h0
end Go.Proofs.YtaeakifdamlnlaaDoor
set_option linter.unusedVariables false
set_option linter.unusedSimpArgs false
set_option maxRecDepth 100000
namespace Go.Proofs.YtaeakifdamlnlaaDoor
open Go.RowKit Go.Lib
/-- the cells of a block that holds a node, and none of them is frozen -/
structure Box8 (w : World) (b : Nat) (i k m l s : Int) (B : Value) (t : ByteArray) (N : Value) : Prop where
  c0 : w.cell? ⟨b, 0, none⟩ = some (.int .i64 i)
  c1 : w.cell? ⟨b, 1, none⟩ = some (.int .i64 k)
  c2 : w.cell? ⟨b, 2, none⟩ = some (.int .i64 m)
  c3 : w.cell? ⟨b, 3, none⟩ = some (.int .i64 l)
  c4 : w.cell? ⟨b, 4, none⟩ = some (.int .i64 s)
  c5 : w.cell? ⟨b, 5, none⟩ = some B
  c6 : w.cell? ⟨b, 6, none⟩ = some (.string t)
  c7 : w.cell? ⟨b, 7, none⟩ = some N
  fz : ∀ j, w.frozen? ⟨b, j, none⟩ = false
  lt : b < w.heap.size
theorem Box8.on {w w' : World} {b : Nat} {i k m l s : Int} {B : Value} {t : ByteArray} {N : Value} (h : Box8 w b i k m l s B t N) (hb : Below w.heap.size w w') : Box8 w' b i k m l s B t N :=
  ⟨(hb.cell h.lt).trans h.c0, (hb.cell h.lt).trans h.c1, (hb.cell h.lt).trans h.c2, (hb.cell h.lt).trans h.c3, (hb.cell h.lt).trans h.c4, (hb.cell h.lt).trans h.c5, (hb.cell h.lt).trans h.c6, (hb.cell h.lt).trans h.c7,
    fun j => (hb.frozen h.lt).trans (h.fz j), Nat.lt_of_lt_of_le h.lt hb.size⟩
theorem box8_alloc (w : World) (i k m l s : Int) (B : Value) (t : ByteArray) (N : Value) (e : TypeId) {b : Nat} (hb : b = w.heap.size) : Box8 (w.alloc (.cells #[.int .i64 i, .int .i64 k, .int .i64 m, .int .i64 l, .int .i64 s, B, .string t, N] e)) b i k m l s B t N := by
  subst hb
  refine ⟨?_, ?_, ?_, ?_, ?_, ?_, ?_, ?_, fun j => by simp, by simp⟩
  all_goals (rw [World.cell?_alloc_at _ _ _ _ rfl]; rfl)
theorem Box8.past {w : World} {b : Nat} {i k m l s : Int} {B : Value} {t : ByteArray} {N : Value} (h : Box8 w b i k m l s B t N) (o : Obj) : Box8 (w.alloc o) b i k m l s B t N := h.on ((Below.refl _ _).alloc (Nat.le_refl _) _)
/-- the blocks are turned -/
theorem Box8.set45 {w : World} {b : Nat} {i k m l s : Int} {B : Value} {t : ByteArray} {N : Value} (h : Box8 w b i k m l s B t N) (s' : Int) (B' : Value) :
    Box8 ((w.setCell ⟨b, 4, none⟩ (.int .i64 s')).setCell ⟨b, 5, none⟩ B') b i k m l s' B' t N := by
  have e : ∀ j, j ≠ 4 → j ≠ 5 → ((w.setCell ⟨b, 4, none⟩ (.int .i64 s')).setCell ⟨b, 5, none⟩ B').cell? ⟨b, j, none⟩ = w.cell? ⟨b, j, none⟩ := fun j h4 h5 => by
    rw [World.cell?_setCell_other (h := fun e => h5 (by injection e with _ e2; exact e2.symm)), World.cell?_setCell_other (h := fun e => h4 (by injection e with _ e2; exact e2.symm))]
  refine ⟨(e 0 (by decide) (by decide)).trans h.c0, (e 1 (by decide) (by decide)).trans h.c1, (e 2 (by decide) (by decide)).trans h.c2, (e 3 (by decide) (by decide)).trans h.c3, ?_, ?_, (e 6 (by decide) (by decide)).trans h.c6, (e 7 (by decide) (by decide)).trans h.c7, fun j => ?_, ?_⟩
  · rw [World.cell?_setCell_other (h := by simp)]; exact World.cell?_setCell_same' _ _ _ (by rw [h.c4]; rfl)
  · exact World.cell?_setCell_same' _ _ _ (by rw [World.cell?_setCell_other (h := by simp), h.c5]; rfl)
  · rw [World.frozen?_setCell, World.frozen?_setCell]; exact h.fz j
  · simpa [World.setCell] using h.lt
theorem Box8.set7 {w : World} {b : Nat} {i k m l s : Int} {B : Value} {t : ByteArray} {N : Value} (h : Box8 w b i k m l s B t N) (N' : Value) : Box8 (w.setCell ⟨b, 7, none⟩ N') b i k m l s B t N' := by
  have e : ∀ j, j ≠ 7 → (w.setCell ⟨b, 7, none⟩ N').cell? ⟨b, j, none⟩ = w.cell? ⟨b, j, none⟩ := fun j h7 => by rw [World.cell?_setCell_other (h := fun e => h7 (by injection e with _ e2; exact e2.symm))]
  refine ⟨(e 0 (by decide)).trans h.c0, (e 1 (by decide)).trans h.c1, (e 2 (by decide)).trans h.c2, (e 3 (by decide)).trans h.c3, (e 4 (by decide)).trans h.c4, (e 5 (by decide)).trans h.c5, (e 6 (by decide)).trans h.c6, ?_, fun j => ?_, ?_⟩
  · exact World.cell?_setCell_same' _ _ _ (by rw [h.c7]; rfl)
  · rw [World.frozen?_setCell]; exact h.fz j
  · simpa [World.setCell] using h.lt
/-- what happens elsewhere -/
theorem Box8.far {w : World} {b : Nat} {i k m l s : Int} {B : Value} {t : ByteArray} {N : Value} (h : Box8 w b i k m l s B t N) (p : Addr) (v : Value) (hp : p.block ≠ b) : Box8 (w.setCell p v) b i k m l s B t N := by
  have e : ∀ j, (w.setCell p v).cell? ⟨b, j, none⟩ = w.cell? ⟨b, j, none⟩ := fun j => World.cell?_setCell_far _ _ _ _ hp
  exact ⟨(e 0).trans h.c0, (e 1).trans h.c1, (e 2).trans h.c2, (e 3).trans h.c3, (e 4).trans h.c4, (e 5).trans h.c5, (e 6).trans h.c6, (e 7).trans h.c7, fun j => by rw [World.frozen?_setCell]; exact h.fz j, by simpa [World.setCell] using h.lt⟩
end Go.Proofs.YtaeakifdamlnlaaDoor
set_option linter.unusedVariables false
set_option linter.unusedSimpArgs false
set_option maxRecDepth 100000
namespace Go.Proofs.YtaeakifdamlnlaaDoor
open Go.RowKit Go.Lib
theorem Nrow.on {w w' : World} {A : Option Addr} {n : Nat} {nm : Nat → ByteArray} {ino : Nat → Int} (h : Nrow w A n nm ino) (hb : Below w.heap.size w w') : Nrow w' A n nm ino := by
  obtain ⟨h1, h2⟩ := h
  refine ⟨h1, ?_⟩
  rcases h2 with h | ⟨b, o, rfl, hlt, hc⟩
  · exact .inl h
  · exact .inr ⟨b, o, rfl, Nat.lt_of_lt_of_le hlt hb.size, hc.on hb hlt⟩
theorem res41 (tmps : Array Value) (W : World) (b : Nat) (i k m l s : Int) (B : Value) (t : ByteArray) (N : Value) (h2 : tmps.getD 2 undef = .pointer (some ⟨b, 0, none⟩)) (h : Box8 W b i k m l s B t N) :
    (results Tryd.f41 tmps).run Tryd.prog W = .ok (.agg #[.int .i64 i, .int .i64 k, .int .i64 m, .int .i64 l, .int .i64 s, B, .string t, N]) W := by
  have hr : Tryd.f41.results = #[.cell 2 42] := by rfl
  have h2' : tmps[2]?.getD undef = .pointer (some ⟨b, 0, none⟩) := by simpa using h2
  obtain ⟨c0, c1, c2, c3, c4, c5, c6, c7, -, -⟩ := h
  simp [results, hr, h2', asAddr]
  go_simp
theorem nrow_far {w : World} {A : Option Addr} {n base : Nat} {nm : Nat → ByteArray} {ino : Nat → Int} (h : Nrow w A n nm ino ∧ (n = 0 ∨ ∀ b o, A = some ⟨b, o, none⟩ → base ≤ b)) (p : Addr) (v : Value) (hp : p.block < base) :
    Nrow (w.setCell p v) A n nm ino ∧ (n = 0 ∨ ∀ b o, A = some ⟨b, o, none⟩ → base ≤ b) := by
  refine ⟨⟨h.1.1, ?_⟩, h.2⟩
  rcases h.1.2 with h0 | ⟨b, o, rfl, hlt, hc⟩
  · exact .inl h0
  · rcases h.2 with h0 | h2
    · exact .inl h0
    · have hb := h2 b o rfl
      exact .inr ⟨b, o, rfl, by simpa [World.setCell] using hlt, fun j hj => ⟨(World.cell?_setCell_far _ _ _ _ (by dsimp only; omega)).trans (hc j hj).1, (World.cell?_setCell_far _ _ _ _ (by dsimp only; omega)).trans (hc j hj).2⟩⟩
/-- a node is stored whole -/
theorem Box8.store {w : World} {b : Nat} {i k m l s : Int} {B : Value} {t : ByteArray} {N : Value} (h : Box8 w b i k m l s B t N) (i' k' m' l' s' : Int) (B' : Value) (t' : ByteArray) (N' : Value) :
    Box8 ((((((((w.setCell ⟨b, 0, none⟩ (.int .i64 i')).setCell ⟨b, 1, none⟩ (.int .i64 k')).setCell ⟨b, 2, none⟩ (.int .i64 m')).setCell ⟨b, 3, none⟩ (.int .i64 l')).setCell ⟨b, 4, none⟩ (.int .i64 s')).setCell ⟨b, 5, none⟩ B').setCell ⟨b, 6, none⟩ (.string t')).setCell ⟨b, 7, none⟩ N') b i' k' m' l' s' B' t' N' := by
  have st : ∀ {W : World} {j : Nat} {u v : Value}, W.cell? ⟨b, j, none⟩ = some u → (W.setCell ⟨b, j, none⟩ v).cell? ⟨b, j, none⟩ = some v := fun h => World.cell?_setCell_same' _ _ _ (by rw [h]; rfl)
  have ot : ∀ {W : World} {j r : Nat} {u v : Value}, j ≠ r → W.cell? ⟨b, r, none⟩ = some u → (W.setCell ⟨b, j, none⟩ v).cell? ⟨b, r, none⟩ = some u := fun hne h => by
    rw [World.cell?_setCell_other (h := fun e => hne (by injection e with _ e2))]; exact h
  obtain ⟨c0, c1, c2, c3, c4, c5, c6, c7, fz, lt⟩ := h
  refine ⟨?_, ?_, ?_, ?_, ?_, ?_, ?_, ?_, fun j => ?_, ?_⟩
  · exact ot (by decide) (ot (by decide) (ot (by decide) (ot (by decide) (ot (by decide) (ot (by decide) (ot (by decide) (st c0)))))))
  · exact ot (by decide) (ot (by decide) (ot (by decide) (ot (by decide) (ot (by decide) (ot (by decide) (st (ot (by decide) c1)))))))
  · exact ot (by decide) (ot (by decide) (ot (by decide) (ot (by decide) (ot (by decide) (st (ot (by decide) (ot (by decide) c2)))))))
  · exact ot (by decide) (ot (by decide) (ot (by decide) (ot (by decide) (st (ot (by decide) (ot (by decide) (ot (by decide) c3)))))))
  · exact ot (by decide) (ot (by decide) (ot (by decide) (st (ot (by decide) (ot (by decide) (ot (by decide) (ot (by decide) c4)))))))
  · exact ot (by decide) (ot (by decide) (st (ot (by decide) (ot (by decide) (ot (by decide) (ot (by decide) (ot (by decide) c5)))))))
  · exact ot (by decide) (st (ot (by decide) (ot (by decide) (ot (by decide) (ot (by decide) (ot (by decide) (ot (by decide) c6)))))))
  · exact st (ot (by decide) (ot (by decide) (ot (by decide) (ot (by decide) (ot (by decide) (ot (by decide) (ot (by decide) c7)))))))
  · simp only [World.frozen?_setCell]; exact fz j
  · simpa [World.setCell] using lt
set_option maxHeartbeats 4000000 in
theorem node (d : Nd) (nm : Nat → ByteArray) (ino : Nat → Int) (w : World) (hB : Brow w d.bA d.bn d.bc) (hN : Nrow w d.nA d.nn nm ino) (hnil : d.nA = none → True) :
    Calls Tryd.prog 41 #[d.val] w fun e w' => ∃ (bA : Option Addr) (bc : Nat) (N : Value), e = .returned (.agg #[.int .i64 d.i, .int .i64 d.k, .int .i64 d.m, .int .i64 d.l, .int .i64 d.s, .slice bA d.bn bc, .string d.t, N]) ∧ NamesV w.heap.size w' N d.nn nm ino ∧ Below w.heap.size w w' := by
  have h52 : ∀ W, Below w.heap.size w W → Calls Tryd.prog 52 #[.agg #[.int .i64 d.s, .slice d.bA d.bn d.bc]] W fun e w' => ∃ A' c', e = .returned (.agg #[.int .i64 d.s, .slice A' d.bn c']) ∧ Below W.heap.size W w' := fun W hW => file d.s d.bA d.bn d.bc W (hB.on hW)
  have h53 : ∀ W, Below w.heap.size w W → Calls Tryd.prog 53 #[.slice d.nA d.nn d.nc] W fun e w' => ∃ v, e = .returned v ∧ NamesV W.heap.size w' v d.nn nm ino ∧ Below W.heap.size W w' := fun W hW => cloneNames d.nA d.nn d.nc nm ino W (hN.on hW) hnil
  clear hB hN hnil
  obtain ⟨i, k, m, l, s, bA, bn, bc, t, nA, nn, nc⟩ := d
  dsimp only [Nd.val] at h52 h53 ⊢
  go_enter Tryd.func41, Tryd.ntmps41
  go_wp2_with (first
    | (go_at_call 52; go_must (
        refine (h52 _ (((Below.refl _ _).alloc (Nat.le_refl _) _).alloc (by simp) _)).mono ?_
        rintro e w1 ⟨A', c', rfl, hb1⟩
        have X1 : Box8 w1 w.heap.size i k m l s (.slice bA bn bc) t (.slice nA nn nc) := ((box8_alloc w _ _ _ _ _ _ _ _ _ rfl).past _).on hb1
        have Y1 : Box8 w1 (w.heap.size + 1) 0 0 0 0 0 (.slice none 0 0) ⟨#[]⟩ (.slice none 0 0) := (box8_alloc _ _ _ _ _ _ _ _ _ _ (by simp)).on hb1
        have HB1 : Aside (Below w.heap.size w w1) := (((Below.refl w.heap.size w).alloc (Nat.le_refl _) _).alloc (by simp) _).trans (hb1.mono (by simp; omega))
        have HS1 : Aside (w.heap.size + 2 ≤ w1.heap.size) := (show w.heap.size + 2 ≤ w1.heap.size by have := hb1.size; simp at this; omega)
        have X2 := X1.set45 s (.slice A' bn c')
        have HX2 : Aside (Box8 ((w1.setCell ⟨w.heap.size, 4, none⟩ (.int .i64 s)).setCell ⟨w.heap.size, 5, none⟩ (.slice A' bn c')) w.heap.size i k m l s (.slice A' bn c') t (.slice nA nn nc)) := X2
        have HY1 : Aside (Box8 w1 (w.heap.size + 1) 0 0 0 0 0 (.slice none 0 0) ⟨#[]⟩ (.slice none 0 0)) := Y1
        have a4 := X1.c4
        have a5 := X1.c5
        have q4 := X1.fz 4
        have q5 := X1.fz 5
        have b7 := X2.c7
        clear X1 Y1 X2 hb1))
    | (go_at_call 53; go_must (
        refine (h53 _ ((HB1.out.setCell (Nat.le_refl _) _).setCell (Nat.le_refl _) _)).mono ?_
        rintro e w2 ⟨NN, rfl, ⟨A2, c2, rfl, hN2, hN3⟩, hb2⟩
        have hs1 : w.heap.size + 2 ≤ w1.heap.size := HS1.out
        have HN : Aside (Nrow w2 A2 nn nm ino ∧ (nn = 0 ∨ ∀ b o, A2 = some ⟨b, o, none⟩ → w.heap.size + 2 ≤ b)) := ⟨hN2, hN3.imp id fun hh b o e => Nat.le_trans hs1 (by simpa [World.setCell] using hh b o e)⟩
        have HB2 : Aside (Below w.heap.size w w2) := ((HB1.out.setCell (Nat.le_refl _) _).setCell (Nat.le_refl _) _).trans (hb2.mono (by simp [World.setCell]; omega))
        clear hs1 hN2 hN3
        have X3 := HX2.out.on hb2
        have Y3 := ((HY1.out.far ⟨w.heap.size, 4, none⟩ (.int .i64 s) (by simp)).far ⟨w.heap.size, 5, none⟩ (.slice A' bn c') (by simp)).on hb2
        have X4 := X3.set7 (.slice A2 nn c2)
        have Y4 := Y3.far ⟨w.heap.size, 7, none⟩ (.slice A2 nn c2) (by simp)
        have d7 := X3.c7
        have p7 := X3.fz 7
        obtain ⟨e0, e1, e2, e3, e4, e5, e6, e7, ez, el⟩ := X4
        have HY4 : Aside (Box8 (w2.setCell ⟨w.heap.size, 7, none⟩ (.slice A2 nn c2)) (w.heap.size + 1) 0 0 0 0 0 (.slice none 0 0) ⟨#[]⟩ (.slice none 0 0)) := Y4
        obtain ⟨g0, g1, g2, g3, g4, g5, g6, g7, gz, gl⟩ := Y4
        have z0 := gz 0
        have z1 := gz 1
        have z2 := gz 2
        have z3 := gz 3
        have z4 := gz 4
        have z5 := gz 5
        have z6 := gz 6
        have z7 := gz 7
        clear gz gl ez el X3 Y3 hb2)))
  have hfin := nrow_far (nrow_far (nrow_far (nrow_far (nrow_far (nrow_far (nrow_far (nrow_far (nrow_far HN.out ⟨w.heap.size, 7, none⟩ (.slice A2 nn c2) (by dsimp only; omega)) ⟨w.heap.size + 1, 0, none⟩ (.int .i64 i) (by dsimp only; omega)) ⟨w.heap.size + 1, 1, none⟩ (.int .i64 k) (by dsimp only; omega)) ⟨w.heap.size + 1, 2, none⟩ (.int .i64 m) (by dsimp only; omega))
    ⟨w.heap.size + 1, 3, none⟩ (.int .i64 l) (by dsimp only; omega)) ⟨w.heap.size + 1, 4, none⟩ (.int .i64 s) (by dsimp only; omega)) ⟨w.heap.size + 1, 5, none⟩ (.slice A' bn c') (by dsimp only; omega)) ⟨w.heap.size + 1, 6, none⟩ (.string t) (by dsimp only; omega)) ⟨w.heap.size + 1, 7, none⟩ (.slice A2 nn c2) (by dsimp only; omega)
  refine bodyPost_ret_by (res41 _ _ (w.heap.size + 1) i k m l s (.slice A' bn c') t (.slice A2 nn c2) rfl (HY4.out.store i k m l s (.slice A' bn c') t (.slice A2 nn c2))) rfl
    ⟨A', c', .slice A2 nn c2, rfl, ⟨A2, c2, rfl, hfin.1, hfin.2.imp id fun h b o e => Nat.le_trans (by omega) (h b o e)⟩, ?_⟩
  exact ((((((((HB2.out.setCell (Nat.le_refl _) _).setCell (by dsimp only; omega) _).setCell (by dsimp only; omega) _).setCell (by dsimp only; omega) _).setCell (by dsimp only; omega) _).setCell (by dsimp only; omega) _).setCell (by dsimp only; omega) _).setCell (by dsimp only; omega) _).setCell (by dsimp only; omega) _
end Go.Proofs.YtaeakifdamlnlaaDoor
set_option linter.unusedVariables false
set_option linter.unusedSimpArgs false
set_option maxRecDepth 100000
namespace Go.Proofs.YtaeakifdamlnlaaDoor
open Go.RowKit Go.Lib
/-- a row of nodes whose numbers rise, with what they hold -/
structure NodesOk (w : World) (A : Option Addr) (n : Nat) (nd : Nat → Nd) (nm : Nat → Nat → ByteArray) (ino : Nat → Nat → Int) : Prop where
  max : n ≤ 4398046511104
  at_ : n = 0 ∨ ∃ b o, A = some ⟨b, o, none⟩ ∧ b < w.heap.size ∧ NodesAt w b o n nd
  blocks : ∀ j, j < n → Brow w (nd j).bA (nd j).bn (nd j).bc
  names : ∀ j, j < n → Nrow w (nd j).nA (nd j).nn (nm j) (ino j)
  nils : ∀ j, j < n → (nd j).nA = none → True
def Rises (n : Nat) (nd : Nat → Nd) : Prop := ∀ s t, s < t → t < n → (nd s).i < (nd t).i
/-- what Get tells -/
def GotNode (base : Nat) (n : Nat) (nd : Nat → Nd) (nm : Nat → Nat → ByteArray) (ino : Nat → Nat → Int) (x : Int) (e : Ending) (w' : World) : Prop :=
  (∃ j, j < n ∧ (nd j).i = x ∧ ∃ (bA : Option Addr) (bc : Nat) (N : Value), e = .returned (.tuple #[.agg #[.int .i64 (nd j).i, .int .i64 (nd j).k, .int .i64 (nd j).m, .int .i64 (nd j).l, .int .i64 (nd j).s, .slice bA (nd j).bn bc, .string (nd j).t, N], .bool true]) ∧ NamesV base w' N (nd j).nn (nm j) (ino j)) ∨
  ((∀ j, j < n → (nd j).i ≠ x) ∧ e = .returned (.tuple #[.agg #[.int .i64 0, .int .i64 0, .int .i64 0, .int .i64 0, .int .i64 0, .slice none 0 0, .string ⟨#[]⟩, .slice none 0 0], .bool false]))
theorem res33 (tmps : Array Value) (W : World) (b : Nat) (i k m l s : Int) (B : Value) (t : ByteArray) (N : Value) (q : Bool) (h4 : tmps.getD 4 undef = .pointer (some ⟨b, 0, none⟩)) (h5 : tmps.getD 5 undef = .bool q) (h : Box8 W b i k m l s B t N) :
    (results Tryd.f33 tmps).run Tryd.prog W = .ok (.tuple #[.agg #[.int .i64 i, .int .i64 k, .int .i64 m, .int .i64 l, .int .i64 s, B, .string t, N], .bool q]) W := by
  have hr : Tryd.f33.results = #[.cell 4 42, .tmp 5] := by rfl
  have h4' : tmps[4]?.getD undef = .pointer (some ⟨b, 0, none⟩) := by simpa using h4
  have h5' : tmps[5]?.getD undef = .bool q := by simpa using h5
  obtain ⟨c0, c1, c2, c3, c4, c5, c6, c7, -, -⟩ := h
  simp [results, hr, h4', h5', asAddr]
  go_simp
theorem none_of {n : Nat} {nd : Nat → Nd} {x : Int} {j : Nat} (hr : Rises n nd) (hf : FoundN n nd x j) (hq : ¬ (j < n ∧ (nd j).i = x)) : ∀ t, t < n → (nd t).i ≠ x := by
  intro t ht e
  obtain ⟨h1, h2, h3⟩ := hf
  rcases Nat.lt_trichotomy t j with h | h | h
  · have := h2 t h
    unfold icmp at this
    rw [if_neg (by omega), if_pos e] at this
    omega
  · subst h; exact hq ⟨ht, e⟩
  · have hj : j < n := by omega
    have h4 := hr j t h ht
    have h5 := h3 j (Nat.le_refl _) hj
    unfold icmp at h5
    rw [if_pos (by omega)] at h5
    omega
theorem mono_of {n : Nat} {nd : Nat → Nd} (x : Int) (hr : Rises n nd) : ∀ s t, s ≤ t → t < n → icmp (nd t).i x < 0 → icmp (nd s).i x < 0 := by
  intro s t hst ht h
  rcases Nat.eq_or_lt_of_le hst with rfl | hlt
  · exact h
  · have h1 := hr s t hlt ht
    unfold icmp at h ⊢
    split at h
    · rw [if_pos (by omega)]; omega
    · split at h <;> omega
set_option maxHeartbeats 4000000 in
theorem getD (B I N : Int) (b o n cap : Nat) (nd : Nat → Nd) (nm : Nat → Nat → ByteArray) (ino : Nat → Nat → Int) (x : Int) (w : World) (hb : b < w.heap.size) (hat : NodesAt w b o n nd) (ho : NodesOk w (some ⟨b, o, none⟩) n nd nm ino) (hr : Rises n nd) :
    Calls Tryd.prog 33 #[diskV B I N (some ⟨b, o, none⟩) n cap, .int .i64 x] w fun e w' => GotNode w.heap.size n nd nm ino x e w' ∧ Below w.heap.size w w' := by
  have hmx : n ≤ 4398046511104 := ho.max
  have h40 : ∀ W, Below w.heap.size w W → Calls Tryd.prog 40 #[.agg #[.int .i64 B, .int .i64 I, .int .i64 N, .slice (some ⟨b, o, none⟩) n cap], .int .i64 x] W fun e w' =>
      ∃ j, ((Aside (j < n ∧ (nd j).i = x) ∧ e = .returned (.tuple #[.int .i64 (j : Nat), .bool true])) ∨ (Aside (∀ t, t < n → (nd t).i ≠ x) ∧ e = .returned (.tuple #[.int .i64 (j : Nat), .bool false]))) ∧ Below W.heap.size W w' :=
    fun W hW => (placeD B I N b o n cap nd x W (by omega) (Nat.lt_of_lt_of_le hb hW.size) (hat.on hW hb) (mono_of x hr)).mono fun e w' ⟨j, h1, h2, h3⟩ => ⟨j, h2.imp id fun ⟨g1, g2⟩ => ⟨none_of hr h1 g1.out, g2⟩, h3⟩
  have h41 : ∀ j, j < n → ∀ W, Below w.heap.size w W → Calls Tryd.prog 41 #[(nd j).val] W fun e w' => ∃ (bA : Option Addr) (bc : Nat) (N : Value), e = .returned (.agg #[.int .i64 (nd j).i, .int .i64 (nd j).k, .int .i64 (nd j).m, .int .i64 (nd j).l, .int .i64 (nd j).s, .slice bA (nd j).bn bc, .string (nd j).t, N]) ∧ NamesV W.heap.size w' N (nd j).nn (nm j) (ino j) ∧ Below W.heap.size W w' :=
    fun j hj W hW => node (nd j) (nm j) (ino j) W ((ho.blocks j hj).on hW) ((ho.names j hj).on hW) (ho.nils j hj)
  have H41 : Aside _ := h41
  have HAT : Aside (NodesAt w b o n nd) := hat
  clear h41 hat ho hr
  unfold diskV
  go_enter Tryd.func33, Tryd.ntmps33
  go_wp2_with (first
    | (go_at_call 40; go_must (
        refine (h40 _ (((Below.refl _ _).alloc (Nat.le_refl _) _).alloc (by simp) _)).mono ?_
        rintro e w1 ⟨j, hcase, hb1⟩
        have HB1 : Aside (Below w.heap.size w w1) := (((Below.refl w.heap.size w).alloc (Nat.le_refl _) _).alloc (by simp) _).trans (hb1.mono (by simp; omega))
        have Y1 : Box8 w1 (w.heap.size + 1) 0 0 0 0 0 (.slice none 0 0) ⟨#[]⟩ (.slice none 0 0) := (box8_alloc _ _ _ _ _ _ _ _ _ _ (by simp)).on hb1
        have HY1 : Aside (Box8 w1 (w.heap.size + 1) 0 0 0 0 0 (.slice none 0 0) ⟨#[]⟩ (.slice none 0 0)) := Y1
        have d3 : w1.cell? ⟨w.heap.size, 3, none⟩ = some (.slice (some ⟨b, o, none⟩) n cap) := (hb1.cell (by simp; omega)).trans (by rw [World.cell?_alloc_past _ _ _ (by simp), World.cell?_alloc_at _ _ _ _ rfl]; rfl)
        clear hb1
        (obtain ⟨hj, rfl⟩ | ⟨hj, rfl⟩ := hcase) <;> first
          | (have hjn : j < n := hj.out.1
             obtain ⟨c0, c1, c2, c3, c4, c5, c6, c7⟩ := HAT.out.on HB1.out hb j hjn
             have h41 := H41.out j hjn
             generalize hd : nd j = d at c0 c1 c2 c3 c4 c5 c6 c7 h41
             have HD : Aside (nd j = d) := hd
             clear hd Y1
             unfold Nd.val at h41)
          | (obtain ⟨g0, g1, g2, g3, g4, g5, g6, g7, gz, gl⟩ := Y1
             have z0 := gz 0
             have z1 := gz 1
             have z2 := gz 2
             have z3 := gz 3
             have z4 := gz 4
             have z5 := gz 5
             have z6 := gz 6
             have z7 := gz 7
             clear gz gl)))
    | (go_at_call 41; go_must (
        refine (h41 _ HB1.out).mono ?_
        rintro e w2 ⟨bA, bc, NN, rfl, hNV, hb2⟩
        obtain ⟨A2, c2', rfl, hN2, hN3⟩ := hNV
        have Y2 := HY1.out.on hb2
        have HY2 : Aside (Box8 w2 (w.heap.size + 1) 0 0 0 0 0 (.slice none 0 0) ⟨#[]⟩ (.slice none 0 0)) := Y2
        have HB2 : Aside (Below w.heap.size w w2) := HB1.out.trans (hb2.mono HB1.out.size)
        have HN : Aside (Nrow w2 A2 d.nn (nm j) (ino j) ∧ (d.nn = 0 ∨ ∀ b o, A2 = some ⟨b, o, none⟩ → w1.heap.size ≤ b)) := ⟨hN2, hN3⟩
        have HS : Aside (w.heap.size + 2 ≤ w1.heap.size) := (show w.heap.size + 2 ≤ w1.heap.size by have := HY1.out.lt; omega)
        clear hN2 hN3 hb2
        obtain ⟨g0, g1, g2, g3, g4, g5, g6, g7, gz, gl⟩ := Y2
        have z0 := gz 0
        have z1 := gz 1
        have z2 := gz 2
        have z3 := gz 3
        have z4 := gz 4
        have z5 := gz 5
        have z6 := gz 6
        have z7 := gz 7
        clear gz gl)))
  · have hsz := HS.out
    have hfin := nrow_far (nrow_far (nrow_far (nrow_far (nrow_far (nrow_far (nrow_far (nrow_far HN.out ⟨w.heap.size + 1, 0, none⟩ (.int .i64 d.i) (by dsimp only; omega)) ⟨w.heap.size + 1, 1, none⟩ (.int .i64 d.k) (by dsimp only; omega)) ⟨w.heap.size + 1, 2, none⟩ (.int .i64 d.m) (by dsimp only; omega))
      ⟨w.heap.size + 1, 3, none⟩ (.int .i64 d.l) (by dsimp only; omega)) ⟨w.heap.size + 1, 4, none⟩ (.int .i64 d.s) (by dsimp only; omega)) ⟨w.heap.size + 1, 5, none⟩ (.slice bA d.bn bc) (by dsimp only; omega)) ⟨w.heap.size + 1, 6, none⟩ (.string d.t) (by dsimp only; omega)) ⟨w.heap.size + 1, 7, none⟩ (.slice A2 d.nn c2') (by dsimp only; omega)
    refine bodyPost_ret_by (res33 _ _ (w.heap.size + 1) d.i d.k d.m d.l d.s (.slice bA d.bn bc) d.t (.slice A2 d.nn c2') true rfl rfl (HY2.out.store d.i d.k d.m d.l d.s (.slice bA d.bn bc) d.t (.slice A2 d.nn c2'))) rfl ⟨.inl ⟨j, hj.out.1, hj.out.2, ?_⟩, ?_⟩
    · rw [HD.out]
      exact ⟨bA, bc, .slice A2 d.nn c2', rfl, ⟨A2, c2', rfl, hfin.1, hfin.2.imp id fun h b o e => Nat.le_trans (by omega) (h b o e)⟩⟩
    · exact (((((((HB2.out.setCell (by dsimp only; omega) _).setCell (by dsimp only; omega) _).setCell (by dsimp only; omega) _).setCell (by dsimp only; omega) _).setCell (by dsimp only; omega) _).setCell (by dsimp only; omega) _).setCell (by dsimp only; omega) _).setCell (by dsimp only; omega) _
  · refine bodyPost_ret_by (res33 _ _ (w.heap.size + 1) 0 0 0 0 0 (.slice none 0 0) ⟨#[]⟩ (.slice none 0 0) false rfl rfl (HY1.out.store 0 0 0 0 0 (.slice none 0 0) ⟨#[]⟩ (.slice none 0 0))) rfl ⟨.inr ⟨hj.out, rfl⟩, ?_⟩
    exact (((((((HB1.out.setCell (by dsimp only; omega) _).setCell (by dsimp only; omega) _).setCell (by dsimp only; omega) _).setCell (by dsimp only; omega) _).setCell (by dsimp only; omega) _).setCell (by dsimp only; omega) _).setCell (by dsimp only; omega) _).setCell (by dsimp only; omega) _
end Go.Proofs.YtaeakifdamlnlaaDoor
set_option linter.unusedVariables false
set_option linter.unusedSimpArgs false
set_option maxRecDepth 100000
namespace Go.Proofs.YtaeakifdamlnlaaDoor
open Go.RowKit Go.Lib
theorem less_trans : ∀ (x y z : List UInt8), Op.bytesLess x y = true → Op.bytesLess y z = true → Op.bytesLess x z = true
  | [], [], z, h, _ => by simp [Op.bytesLess] at h
  | [], b :: y, [], _, h => by simp [Op.bytesLess] at h
  | [], b :: y, c :: z, _, _ => by simp [Op.bytesLess]
  | a :: x, [], z, h, _ => by simp [Op.bytesLess] at h
  | a :: x, b :: y, [], _, h => by simp [Op.bytesLess] at h
  | a :: x, b :: y, c :: z, h1, h2 => by
    have ih := less_trans x y z
    simp only [Op.bytesLess, Bool.or_eq_true, decide_eq_true_eq, Bool.and_eq_true, beq_iff_eq] at h1 h2 ⊢
    rcases h1 with h1 | ⟨rfl, h1⟩
    · rcases h2 with h2 | ⟨rfl, h2⟩
      · exact .inl (UInt8.lt_trans h1 h2)
      · exact .inl h1
    · rcases h2 with h2 | ⟨rfl, h2⟩
      · exact .inl h2
      · exact .inr ⟨rfl, ih h1 h2⟩
/-- names that rise -/
def RisesN (n : Nat) (nm : Nat → ByteArray) : Prop := ∀ s t, s < t → t < n → Op.bytesLess (nm s).toList (nm t).toList = true
theorem scmp_neg {x y : ByteArray} : scmp x y < 0 ↔ Op.bytesLess x.toList y.toList = true := by
  unfold scmp
  constructor
  · intro h
    split at h
    · assumption
    · split at h <;> omega
  · intro h
    rw [if_pos h]; omega
theorem monoN {n : Nat} {nm : Nat → ByteArray} (x : ByteArray) (hr : RisesN n nm) : ∀ s t, s ≤ t → t < n → scmp (nm t) x < 0 → scmp (nm s) x < 0 := by
  intro s t hst ht h
  rcases Nat.eq_or_lt_of_le hst with rfl | hlt
  · exact h
  · exact scmp_neg.2 (less_trans _ _ _ (hr s t hlt ht) (scmp_neg.1 h))
theorem there_of {n : Nat} {nm : Nat → ByteArray} {x : ByteArray} {j : Nat} (hr : RisesN n nm) (hf : Found n nm x j) : (j < n ∧ scmp (nm j) x = 0) ↔ ∃ t, t < n ∧ nm t = x := by
  constructor
  · rintro ⟨h1, h2⟩
    exact ⟨j, h1, scmp_zero.1 h2⟩
  · rintro ⟨t, ht, e⟩
    obtain ⟨h1, h2, h3⟩ := hf
    rcases Nat.lt_trichotomy t j with h | h | h
    · have := h2 t h
      rw [scmp_zero.2 e] at this
      omega
    · subst h
      exact ⟨ht, scmp_zero.2 e⟩
    · have h4 := scmp_neg.2 (hr j t h ht)
      rw [e] at h4
      have h5 := h3 j (Nat.le_refl _) (by omega)
      omega
set_option maxHeartbeats 4000000 in
/-- a search in no names -/
theorem bsf0 (A : Option Addr) (cap : Nat) (x : ByteArray) (w : World) : Calls Tryd.prog 54 #[.slice A 0 cap, .string x, .func (.func 55) #[] #[]] w fun e w' => e = .returned (.tuple #[.int .i64 0, .bool false]) ∧ w' = w := by
  go_enter Tryd.func54, Tryd.ntmps54
  go_wp2
  refine wp_loop_rounds 1 ?_
  rw [rounds_succ]
  go_wp2
  go_ret2
  exact ⟨rfl, rfl⟩
/-- find.Name over names that rise: is it there? its number -/
theorem findAny (v : Value) (base n : Nat) (nm : Nat → ByteArray) (ino : Nat → Int) (x : ByteArray) (w : World) (hv : NamesV base w v n nm ino) (hr : RisesN n nm) (i k m l s : Int) (BA : Option Addr) (bn bc : Nat) (t : ByteArray) :
    Calls Tryd.prog 34 #[.agg #[.int .i64 i, .int .i64 k, .int .i64 m, .int .i64 l, .int .i64 s, .slice BA bn bc, .string t, v], .string x] w fun e w' =>
      ∃ (u : Int) (q : Bool), e = .returned (.tuple #[.int .i64 u, .bool q]) ∧ (q = true ↔ ∃ j, j < n ∧ nm j = x) ∧ Below w.heap.size w w' := by
  obtain ⟨A, c, rfl, ⟨hmx, h⟩, -⟩ := hv
  by_cases h0 : n = 0
  · subst h0
    clear h hmx
    have h42 : ∀ W, Calls Tryd.prog 42 #[.agg #[.int .i64 i, .int .i64 k, .int .i64 m, .int .i64 l, .int .i64 s, .slice BA bn bc, .string t, .slice A 0 c], .string x] W fun e w' => e = .returned (.tuple #[.int .i64 0, .bool false]) ∧ Below W.heap.size W w' := by
      intro W
      have hb := fun V => bsf0 A c x V
      go_enter Tryd.func42, Tryd.ntmps42
      go_wp2_with (go_at_call 54; refine (hb _).mono ?_; rintro e w' ⟨rfl, rfl⟩)
      go_ret2
      exact ⟨rfl, (Below.refl _ _).alloc (Nat.le_refl _) _⟩
    go_enter Tryd.func34, Tryd.ntmps34
    go_wp2_with (go_at_call 42; refine (h42 _).mono ?_; rintro e w' ⟨rfl, hbl⟩)
    go_ret2
    exact ⟨0, false, rfl, ⟨fun h => (by cases h), fun ⟨j, hj, _⟩ => absurd hj (Nat.not_lt_zero _)⟩, below_box hbl⟩
  · obtain ⟨b, o, rfl, hb, hN⟩ := h.resolve_left h0
    refine (findName b o n c nm ino x w (by omega) hb hN (monoN x hr) i k m l s (.slice BA bn bc) t ⟨_, _, _, rfl⟩).mono fun e w' ⟨j, hf, he, hbl⟩ => ?_
    have ht := there_of hr hf
    unfold nameOf at he
    by_cases hq : j < n ∧ scmp (nm j) x = 0
    · rw [if_pos hq] at he
      exact ⟨_, true, he, ⟨fun _ => ht.1 hq, fun _ => rfl⟩, hbl⟩
    · rw [if_neg hq] at he
      exact ⟨_, false, he, ⟨fun h => (by cases h), fun h => absurd (ht.2 h) hq⟩, hbl⟩
end Go.Proofs.YtaeakifdamlnlaaDoor
set_option linter.unusedVariables false
set_option linter.unusedSimpArgs false
set_option maxRecDepth 100000
namespace Go.Proofs.YtaeakifdamlnlaaDoor
open Go.RowKit Go.Lib
/-- has a directory a name? -/
def HasName (n : Nat) (nd : Nat → Nd) (nm : Nat → Nat → ByteArray) (dir : Int) (x : ByteArray) : Prop := ∃ j, j < n ∧ (nd j).i = dir ∧ (nd j).k = 2 ∧ ∃ t, t < (nd j).nn ∧ nm j t = x
theorem Rises.one {n : Nat} {nd : Nat → Nd} (h : Rises n nd) {s t : Nat} (hs : s < n) (ht : t < n) (e : (nd s).i = (nd t).i) : s = t := by
  rcases Nat.lt_trichotomy s t with hh | hh | hh
  · have := h s t hh ht; omega
  · exact hh
  · have := h t s hh hs; omega
theorem hasIff {n : Nat} {nd : Nat → Nd} {nm : Nat → Nat → ByteArray} {dir : Int} {x : ByteArray} {j : Nat} (hr : Rises n nd) (hj : j < n ∧ (nd j).i = dir) : HasName n nd nm dir x ↔ (nd j).k = 2 ∧ ∃ t, t < (nd j).nn ∧ nm j t = x := by
  constructor
  · rintro ⟨j', h1, h2, h3, h4⟩
    obtain rfl := hr.one hj.1 h1 (hj.2.trans h2.symm)
    exact ⟨h3, h4⟩
  · rintro ⟨h1, h2⟩
    exact ⟨j, hj.1, hj.2, h1, h2⟩
theorem NamesV.on {base : Nat} {w w' : World} {v : Value} {n : Nat} {nm : Nat → ByteArray} {ino : Nat → Int} (h : NamesV base w v n nm ino) (hb : Below w.heap.size w w') : NamesV base w' v n nm ino := by
  obtain ⟨A, c, rfl, h1, h2⟩ := h
  exact ⟨A, c, rfl, h1.on hb, h2⟩
set_option maxHeartbeats 4000000 in
theorem hasG (B I N : Int) (A : Option Addr) (n cap : Nat) (nd : Nat → Nd) (nm : Nat → Nat → ByteArray) (ino : Nat → Nat → Int) (dir : Int) (x : ByteArray) (w : World) (hr : Rises n nd) (hrn : ∀ j, j < n → RisesN (nd j).nn (nm j))
    (hG : ∀ W, Below w.heap.size w W → Calls Tryd.prog 33 #[diskV B I N A n cap, .int .i64 dir] W fun e w' => GotNode W.heap.size n nd nm ino dir e w' ∧ Below W.heap.size W w') :
    Calls Tryd.prog 24 #[diskV B I N A n cap, .int .i64 dir, .string x] w fun e w' => ∃ q : Bool, e = .returned (.bool q) ∧ (q = true ↔ HasName n nd nm dir x) ∧ Below w.heap.size w w' := by
  have H34 : Aside (∀ (W : World) (base : Nat) (v : Value) (n : Nat) (nm : Nat → ByteArray) (ino : Nat → Int), NamesV base W v n nm ino → RisesN n nm → ∀ (i k m l s : Int) (BA : Option Addr) (bn bc : Nat) (t : ByteArray),
      Calls Tryd.prog 34 #[.agg #[.int .i64 i, .int .i64 k, .int .i64 m, .int .i64 l, .int .i64 s, .slice BA bn bc, .string t, v], .string x] W fun e w' => ∃ (u : Int) (q : Bool), e = .returned (.tuple #[.int .i64 u, .bool q]) ∧ (q = true ↔ ∃ j, j < n ∧ nm j = x) ∧ Below W.heap.size W w') :=
    fun W base v n nm ino h1 h2 i k m l s BA bn bc t => findAny v base n nm ino x W h1 h2 i k m l s BA bn bc t
  have HR : Aside (Rises n nd ∧ ∀ j, j < n → RisesN (nd j).nn (nm j)) := ⟨hr, hrn⟩
  clear hr hrn
  unfold diskV at hG ⊢
  go_enter Tryd.func24, Tryd.ntmps24
  go_wp2_with (first
    | (go_at_call 33; go_must (
        refine (hG _ ((Below.refl _ _).alloc (Nat.le_refl _) _)).mono ?_
        rintro e w1 ⟨hgot, hb1⟩
        have HB1 : Aside (Below w.heap.size w w1) := below_box hb1
        clear hb1
        (obtain ⟨j, hj, hi, bA, bc, NN, rfl, A2, c2, rfl, hN⟩ | ⟨hno, rfl⟩ := hgot) <;> first
          | (have HJ : Aside (j < n ∧ (nd j).i = dir) := ⟨hj, hi⟩
             have HNV : Aside (NamesV (w.alloc (.cells #[.int .i64 B, .int .i64 I, .int .i64 N, .slice A n cap] 24)).heap.size w1 (.slice A2 (nd j).nn c2) (nd j).nn (nm j) (ino j)) := (show NamesV _ _ _ _ _ _ from ⟨A2, c2, rfl, hN⟩)
             have H34' := fun W (hW : Below w1.heap.size w1 W) => H34.out W _ _ _ _ _ (HNV.out.on hW) (HR.out.2 j hj) (nd j).i (nd j).k (nd j).m (nd j).l (nd j).s bA (nd j).bn bc (nd j).t
             clear hN hj hi)
          | (have HNO : Aside (∀ j, j < n → (nd j).i ≠ dir) := hno
             have H34' := fun W (hW : Below w1.heap.size w1 W) => H34.out W 0 (.slice none 0 0) 0 (fun _ => ByteArray.empty) (fun _ => 0) ⟨none, 0, rfl, ⟨by omega, .inl rfl⟩, .inl rfl⟩ (fun s t _ h => absurd h (Nat.not_lt_zero _)) 0 0 0 0 0 none 0 0 ⟨#[]⟩
             clear hno)))
    | (go_at_call 34; go_must (
        refine (H34' _ ((Below.refl _ _).alloc (Nat.le_refl _) _)).mono ?_
        rintro e w2 ⟨u, q, rfl, hq, hb2⟩
        have HQ : Aside (q = true ↔ _) := hq
        have HB2 : Aside (Below w.heap.size w w2) := HB1.out.trans ((below_box hb2).mono HB1.out.size)
        first
          | (have hk : w2.cell? ⟨w1.heap.size, 1, none⟩ = some (.int .i64 (nd j).k) := (hb2.cell (by simp)).trans (by rw [World.cell?_alloc_at _ _ _ _ rfl]; rfl)
             generalize hkk : (nd j).k = kk at hk
             have HK : Aside ((nd j).k = kk) := hkk
             clear hkk hq hb2
             by_cases hk2 : kk = 2 <;> cases q)
          | (have hk : w2.cell? ⟨w1.heap.size, 1, none⟩ = some (.int .i64 0) := (hb2.cell (by simp)).trans (by rw [World.cell?_alloc_at _ _ _ _ rfl]; rfl)
             clear hq hb2
             cases q))))
  all_goals go_ret
  all_goals first
    | exact ⟨true, rfl, ⟨fun _ => (hasIff HR.out.1 HJ.out).2 ⟨HK.out.trans hk2, HQ.out.1 trivial⟩, fun _ => rfl⟩, HB2.out⟩
    | exact ⟨false, rfl, ⟨fun h => (by cases h), fun h => (HQ.out.2 ((hasIff HR.out.1 HJ.out).1 h).2).elim⟩, HB2.out⟩
    | exact ⟨false, rfl, ⟨fun h => (by cases h), fun h => absurd (HK.out.symm.trans ((hasIff HR.out.1 HJ.out).1 h).1) hk2⟩, HB2.out⟩
    | exact ⟨false, rfl, ⟨fun h => (by cases h), fun ⟨j', h1, h2, _⟩ => absurd h2 (HNO.out j' h1)⟩, HB2.out⟩
    | exact ⟨false, rfl, ⟨fun h => (by cases h), fun h => HQ.out.2 ((hasIff HR.out.1 HJ.out).1 h).2⟩, HB2.out⟩
    | exact ⟨true, rfl, ⟨fun _ => (hasIff HR.out.1 HJ.out).2 ⟨HK.out.trans hk2, HQ.out.1 rfl⟩, fun _ => rfl⟩, HB2.out⟩
    | (exfalso; obtain ⟨t, ht, _⟩ := HQ.out.1 trivial; omega)
    | exact ⟨kk == 2, rfl, ⟨fun h => absurd (by simpa using h) hk2, fun h => absurd (HK.out.symm.trans ((hasIff HR.out.1 HJ.out).1 h).1) hk2⟩, HB2.out⟩
    | trace_state
end Go.Proofs.YtaeakifdamlnlaaDoor
set_option linter.unusedVariables false
set_option linter.unusedSimpArgs false
set_option maxRecDepth 100000
namespace Go.Proofs.YtaeakifdamlnlaaDoor
open Go.RowKit Go.Lib
/-- an answer that tells whether p holds -/
def Answers (p : Prop) (e : Ending) : Prop := ∃ q : Bool, e = .returned (.bool q) ∧ (q = true ↔ p)
set_option maxHeartbeats 4000000 in
theorem hidesG (y : ByteArray) (hy : y.size ≤ 40) (B I N : Int) (A : Option Addr) (n c : Nat) (dir : Int) (p : Prop) (w : World)
    (hh : ∀ W, Below w.heap.size w W → Calls Tryd.prog 24 #[diskV B I N A n c, .int .i64 dir, .string (pre ++ y)] W fun e w' => Answers p e ∧ Below W.heap.size W w') :
    Calls Tryd.prog 9 #[diskV B I N A n c, .int .i64 dir, .string y] w fun e w' => Answers p e ∧ Below w.heap.size w w' := by
  have h7 : ∀ W : World, Calls Tryd.prog 7 #[.string y] W fun e w' => e = .returned (.string (pre ++ y)) ∧ Below W.heap.size W w' := fun W => (white y hy W).mono fun e w' ⟨h1, h2⟩ => ⟨h1, by rw [h2]; exact Below.refl _ _⟩
  generalize pre ++ y = z at h7 hh
  have h24 : ∀ W, Below w.heap.size w W → Calls Tryd.prog 24 #[.agg #[.int .i64 B, .int .i64 I, .int .i64 N, .slice A n c], .int .i64 dir, .string z] W fun e w' => ∃ q : Bool, e = .returned (.bool q) ∧ Aside (q = true ↔ p) ∧ Below W.heap.size W w' := fun W hW => (hh W hW).mono fun e w' ⟨⟨q, h1, h2⟩, h3⟩ => ⟨q, h1, h2, h3⟩
  clear hh
  unfold diskV
  go_enter Tryd.func9, Tryd.ntmps9
  go_wp2
  generalize hW : w.alloc (.cells #[.int .i64 B, .int .i64 I, .int .i64 N, .slice A n c] 24) = W
  have hB0 : Below w.heap.size w W := by rw [← hW]; exact (Below.refl _ _).alloc (Nat.le_refl _) _
  have hsz : w.heap.size + 1 ≤ W.heap.size := by rw [← hW]; simp
  have a0 : W.cell? ⟨w.heap.size, 0, none⟩ = some (.int .i64 B) := by rw [← hW, World.cell?_alloc_at _ _ _ _ rfl]; rfl
  have a1 : W.cell? ⟨w.heap.size, 1, none⟩ = some (.int .i64 I) := by rw [← hW, World.cell?_alloc_at _ _ _ _ rfl]; rfl
  have a2 : W.cell? ⟨w.heap.size, 2, none⟩ = some (.int .i64 N) := by rw [← hW, World.cell?_alloc_at _ _ _ _ rfl]; rfl
  have a3 : W.cell? ⟨w.heap.size, 3, none⟩ = some (.slice A n c) := by rw [← hW, World.cell?_alloc_at _ _ _ _ rfl]; rfl
  clear hW
  go_region_held3 (fun w' => Below w.heap.size w w' ∧ w.heap.size + 1 ≤ w'.heap.size ∧ w'.cell? ⟨w.heap.size, 0, none⟩ = some (.int .i64 B) ∧ w'.cell? ⟨w.heap.size, 1, none⟩ = some (.int .i64 I) ∧ w'.cell? ⟨w.heap.size, 2, none⟩ = some (.int .i64 N) ∧ w'.cell? ⟨w.heap.size, 3, none⟩ = some (.slice A n c)) (first | (exact keepBox hbl (by assumption)) | (refine ⟨Below.drew (by assumption), ?_⟩; go_keep) | go_keep)
    (first
      | (go_at_call 7; go_must (refine (h7 _).mono ?_; rintro e w' ⟨rfl, hbl⟩))
      | (go_at_call 24; go_must (refine (h24 _ ?_).mono ?_; exact And.left (by assumption); rintro e w' ⟨q, rfl, hq, hbl⟩)))
  go_wp2
  go_ret
  exact ⟨⟨q, rfl, hq.out⟩, And.left (by assumption)⟩
set_option maxHeartbeats 4000000 in
theorem cutsG (B I N : Int) (A : Option Addr) (n c : Nat) (dir : Int) (p : Prop) (w : World) (op : ByteArray) (hop : op = ⟨#[46, 119, 104, 46, 46, 119, 104, 46, 46, 111, 112, 113]⟩)
    (hh : ∀ W, Below w.heap.size w W → Calls Tryd.prog 24 #[diskV B I N A n c, .int .i64 dir, .string op] W fun e w' => Answers p e ∧ Below W.heap.size W w') :
    Calls Tryd.prog 11 #[diskV B I N A n c, .int .i64 dir] w fun e w' => Answers p e ∧ Below w.heap.size w w' := by
  have h24 : ∀ W, Below w.heap.size w W → Calls Tryd.prog 24 #[.agg #[.int .i64 B, .int .i64 I, .int .i64 N, .slice A n c], .int .i64 dir, .string op] W fun e w' => ∃ q : Bool, e = .returned (.bool q) ∧ Aside (q = true ↔ p) ∧ Below W.heap.size W w' := fun W hW => (hh W hW).mono fun e w' ⟨⟨q, h1, h2⟩, h3⟩ => ⟨q, h1, h2, h3⟩
  clear hh
  subst hop
  unfold diskV
  go_enter Tryd.func11, Tryd.ntmps11
  go_wp2_with (go_at_call 24; refine (h24 _ ((Below.refl _ _).alloc (Nat.le_refl _) _)).mono ?_; rintro e w' ⟨q, rfl, hq, hbl⟩)
  go_ret
  exact ⟨⟨q, rfl, hq.out⟩, below_box hbl⟩
end Go.Proofs.YtaeakifdamlnlaaDoor
