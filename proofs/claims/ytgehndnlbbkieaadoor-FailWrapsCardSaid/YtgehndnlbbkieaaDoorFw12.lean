/- FailWraps answers true. -/
import Derived.Test.YtgehndnlbbkieaaDoorFw11
set_option maxRecDepth 100000
set_option linter.unusedVariables false
set_option linter.unusedSimpArgs false
namespace Go.Proofs.YtgehndnlbbkieaaDoor
open Go.RowKit Go.Extern.Stop Go.Stop Go.Extern
/-- what holds at a round's head where the number is nought -/
structure At0 (w : World) (j : Nat) (e : Value) (wr : World) : Prop where
  below : Below w.heap.size w wr
  zero : wr.cell? ⟨w.heap.size, 0, none⟩ = some (.slice none 0 0)
  one : wr.cell? ⟨w.heap.size, 1, none⟩ = some (.int .i64 0)
  fr0 : wr.frozen? ⟨w.heap.size, 0, none⟩ = false
  fr1 : wr.frozen? ⟨w.heap.size, 1, none⟩ = false
  chain : (j = 0 ∧ e = .iface 24 (.int .i64 0)) ∨ (0 < j ∧ e = .nilIface)
theorem At0.next {w : World} {j : Nat} {e : Value} {wr : World} (h : At0 w j e wr) {w3 : World} (hb : Below wr.heap.size wr w3) :
    At0 w (j + 1) .nilIface ((w3.setCell ⟨w.heap.size, 0, none⟩ (.slice none 0 0)).setCell ⟨w.heap.size, 1, none⟩ (.int .i64 0)) := by
  have hlt : w.heap.size < wr.heap.size := cell_lt h.one
  have hbw : Below w.heap.size w w3 := h.below.trans (hb.mono (Nat.le_of_lt hlt))
  have hAB : (⟨w.heap.size, 0, none⟩ : Addr) ≠ ⟨w.heap.size, 1, none⟩ := by simp
  have h0 := cellStep h.zero hb
  have h1 := cellStep h.one hb
  have f0 := frzStep h.zero h.fr0 hb
  have f1 := frzStep h.one h.fr1 hb
  refine ⟨(hbw.setCell (Nat.le_refl _) _).setCell (Nat.le_refl _) _, ?_, World.cell?_setCell_same' _ _ _ (by rw [World.cell?_setCell_other (h := hAB), h1]; rfl), by simp [f0], by simp [f1], .inr ⟨Nat.succ_pos j, rfl⟩⟩
  rw [World.cell?_setCell_other (h := hAB.symm)]; exact World.cell?_setCell_same' _ _ _ (by rw [h0]; rfl)
theorem At0.wrap {w : World} {j : Nat} {e : Value} {wr : World} (h : At0 w j e wr) (op : Int) (p : ByteArray) (w2 : World) : Calls Tryd.prog 7 #[.int .i64 op, .string p, e] w2 fun ev w' => ev = .returned .nilIface ∧ w' = w2 := by
  rcases h.chain with ⟨_, rfl⟩ | ⟨_, rfl⟩
  · exact Wrap_zero op p w2
  · exact Wrap_nil op p w2
set_option maxHeartbeats 8000000 in
theorem wraps_zero (f : Nat → Int) (g : Nat → ByteArray) (ao bo : Option Addr) (n c1 m c2 : Nat) (w : World) (hn : ¬ (12 : Int) < n) (hm : ¬ (m : Int) < n) (hg : ErrT w)
    (hf : 0 < n → ∃ b1 o1, ao = some ⟨b1, o1, none⟩ ∧ ∀ j, j < n → w.cell? ⟨b1, o1 + j, none⟩ = some (.int .i64 (f j))) (hp : 0 < m → ∃ b2 o2, bo = some ⟨b2, o2, none⟩ ∧ ∀ j, j < m → w.cell? ⟨b2, o2 + j, none⟩ = some (.string (g j))) :
    Calls Tryd.prog 3 #[.int .i64 0, .slice ao n c1, .slice bo m c2] w fun ev w' => ev = .returned (.bool true) ∧ Below w.heap.size w w' := by
  have hF : Aside (0 < n → ∃ b1 o1, ao = some ⟨b1, o1, none⟩ ∧ ∀ j, j < n → w.cell? ⟨b1, o1 + j, none⟩ = some (.int .i64 (f j))) := hf
  have hP : Aside (0 < m → ∃ b2 o2, bo = some ⟨b2, o2, none⟩ ∧ ∀ j, j < m → w.cell? ⟨b2, o2 + j, none⟩ = some (.string (g j))) := hp
  have hb0 : Below w.heap.size w (w.alloc (.cells #[.slice none 0 0, .int .i64 0] 29)) := (Below.refl _ w).alloc (Nat.le_refl _) _
  have hA0 : At0 w 0 (.iface 24 (.int .i64 0)) (w.alloc (.cells #[.slice none 0 0, .int .i64 0] 29)) :=
    ⟨hb0, newTwo0 _ _ _ _, newTwo1 _ _ _ _, newTwoF _ _ _ _ 0, newTwoF _ _ _ _ 1, .inl ⟨rfl, rfl⟩⟩
  have hG : Aside (ErrT w) := hg
  clear hf hp hg hb0
  go_enter Tryd.func3, Tryd.ntmps3
  go_wp2_with (fail)
  go_loopg [7, 9] n (fun k e i wr => ∃ j : Nat, j + k = n ∧ i = .int .i64 j ∧ At0 w j e wr)
  case atStart => exact ⟨0, by omega, rfl, hA0⟩
  case round =>
    obtain ⟨j, hj, rfl, hat⟩ := hrel
    clear hA0
    by_cases hjn : j < n
    · obtain ⟨b1, o1, rfl, hf⟩ := hF.out (by omega)
      obtain ⟨b2, o2, rfl, hp⟩ := hP.out (by omega)
      have hfj : wr.cell? ⟨b1, o1 + j, none⟩ = some (.int .i64 (f j)) := cellStep (hf j hjn) hat.below
      have hpj : wr.cell? ⟨b2, o2 + j, none⟩ = some (.string (g j)) := cellStep (hp j (by omega)) hat.below
      have hjn' : (j : Int) < (n : Int) := by omega
      have hjm' : (j : Int) < (m : Int) := by omega
      have J : Aside (j + gk = n ∧ j < n) := ⟨hj, hjn⟩
      have A : Aside (At0 w j u7 wr) := hat
      have hx0 := hat.zero
      have hx1 := hat.one
      have z0 := hat.fr0
      have z1 := hat.fr1
      have hcall := hat.wrap (f j) (g j) wr.drew
      clear hat hj hjn hf hp hF hP
      by_cases hbig : 100 < ((g j).size : Int)
      · go_wp2_with (fail)
        go_ret
        exact ⟨rfl, A.out.below⟩
      · go_wp2_with (fail)
        go_region_held3 (fun w' => w'.cell? ⟨b1, o1 + j, none⟩ = some (.int .i64 (f j)) ∧ w'.cell? ⟨b2, o2 + j, none⟩ = some (.string (g j))) (first | exact ⟨hfj, hpj⟩) (first
          | (go_at_call 7; refine hcall.mono ?_; rintro ev w2 ⟨rfl, rfl⟩))
        all_goals go_wp2_with (fail)
        go_region_with (
          go_at_call 8
          refine (RWrap_zero _ _ _).mono ?_
          rintro ev w3 ⟨rfl, hb3⟩
          have hb4 : Below wr.heap.size wr w3 := ((Below.refl _ wr).drew.drew).trans hb3
          have y0 := cellStep hx0 hb4
          have y1 := cellStep hx1 hb4
          have v0 := frzStep hx0 z0 hb4
          have v1 := frzStep hx1 z1 hb4
          have D : Aside (Below wr.heap.size wr w3) := hb4
          clear hb3 hb4)
        all_goals (
          go_wp2_with (fail)
          go_roundg (gk - 1)
          case measure => have := J.out; omega
          case rel => exact ⟨j + 1, by have := J.out; omega, by simp, A.out.next D.out⟩)
    · obtain rfl : j = n := by omega
      have hk0 : gk = 0 := by omega
      subst hk0
      have hx0 := hat.zero
      have hx1 := hat.one
      have hgr := hG.out.below hat.below
      have hbl := hat.below
      have hW : Calls Tryd.prog 9 #[u7] wr fun ev w' => ev = .returned (.tuple #[.int .i64 0, .string ⟨#[]⟩, .bool false]) ∧ Below wr.heap.size wr w' := by
        rcases hat.chain with ⟨_, rfl⟩ | ⟨_, rfl⟩
        · exact Where_no (.num 0) _ _ (fun _ _ _ _ h => by cases h) hgr rfl
        · exact Where_nil _
      have hC : Aside (∀ w2, Below wr.heap.size wr w2 → Calls Tryd.prog 11 #[u7] w2 fun ev w' => ev = .returned (.int .i64 0) ∧ Below w2.heap.size w2 w') := fun w2 hb => by
        rcases hat.chain with ⟨_, rfl⟩ | ⟨_, rfl⟩
        · exact Code_at (.num 0) _ _ 0 rfl (hgr.below hb) rfl
        · exact Code_nil _
      have hlt : w.heap.size < wr.heap.size := cell_lt hx1
      have hend : Aside ((j = 0 ∧ u7 = .iface 24 (.int .i64 0)) ∨ (0 < j ∧ u7 = .nilIface)) := hat.chain
      have B : Aside (ErrT wr ∧ Below w.heap.size w wr ∧ w.heap.size < wr.heap.size) := ⟨hgr, hbl, hlt⟩
      clear hgr hbl hat hj hjn
      go_wp2_with (fail)
      refine hW.mono ?_
      rintro ev w2 ⟨rfl, hk⟩
      have hR := RWhere_nil 0 w2
      replace hx0 := cellStep hx0 hk
      replace hx1 := cellStep hx1 hk
      have K2 : Aside (Below wr.heap.size wr w2) := hk
      clear hW hk
      go_wp2_with (fail)
      refine hR.mono ?_
      rintro ev w3 ⟨rfl, hk⟩
      replace hx0 := cellStep hx0 hk
      replace hx1 := cellStep hx1 hk
      have K3 : Aside (Below wr.heap.size wr w3) := K2.out.trans (hk.mono K2.out.size)
      clear hR hk
      go_wp2_with (fail)
      have hc11 := hC.out w3.drew K3.out.drew
      go_region_held3 (fun w' => w'.cell? ⟨w.heap.size, 0, none⟩ = some (.slice none 0 0) ∧ w'.cell? ⟨w.heap.size, 1, none⟩ = some (.int .i64 0)) (first | exact T5.out | exact T4.out | exact ⟨hx0, hx1⟩) (first
        | (go_at_call 11; refine hc11.mono ?_; rintro ev w4 ⟨rfl, hk⟩; have T4 : Aside (w4.cell? ⟨w.heap.size, 0, none⟩ = some (.slice none 0 0) ∧ w4.cell? ⟨w.heap.size, 1, none⟩ = some (.int .i64 0)) := ⟨cellStep hx0 ((Below.refl _ w3).drew.trans hk), cellStep hx1 ((Below.refl _ w3).drew.trans hk)⟩; have S4 : Aside (Below wr.heap.size wr w4) := K3.out.drew.trans (hk.mono K3.out.size); clear hk)
        | (go_at_call 12; refine (RCode_c _ _ _).mono ?_; rintro ev w5 ⟨rfl, hk⟩; have T5 : Aside (w5.cell? ⟨w.heap.size, 0, none⟩ = some (.slice none 0 0) ∧ w5.cell? ⟨w.heap.size, 1, none⟩ = some (.int .i64 0)) := ⟨cellStep T4.out.1 hk, cellStep T4.out.2 hk⟩; have S5 : Aside (Below wr.heap.size wr w5) := S4.out.trans (hk.mono S4.out.size); clear hk))
      have hK : Below w.heap.size w w5 := B.out.2.1.trans (S5.out.mono (Nat.le_of_lt B.out.2.2))
      have hg5 : ErrT w5 := B.out.1.below S5.out
      clear T4 T5 S4 S5 K2 K3 hx0 hx1 hG hF hP hc11 hC
      rcases hend.out with ⟨rfl, rfl⟩ | ⟨hj0, rfl⟩
      · go_wp2_with (fail)
        refine (known_c _ hg5).mono ?_
        rintro ev w8 ⟨rfl, hk⟩
        replace hK := hK.trans (hk.mono hK.size)
        clear hk
        go_wp2_with (fail)
        go_ret
        exact ⟨rfl, hK⟩
      · have hj1 : ((j : Int) == 0) = false := by simp; omega
        clear hj0 hend
        go_wp2_with (fail)
        refine (known_c _ hg5).mono ?_
        rintro ev w8 ⟨rfl, hk⟩
        replace hK := hK.trans (hk.mono hK.size)
        clear hk
        go_wp2_with (fail)
        go_ret
        exact ⟨rfl, hK⟩
theorem FailWraps_c (code : Int) (f : Nat → Int) (g : Nat → ByteArray) (ao bo : Option Addr) (n c1 m c2 : Nat) (w : World) (hg : ErrT w)
    (hf : 0 < n → ∃ b1 o1, ao = some ⟨b1, o1, none⟩ ∧ ∀ j, j < n → w.cell? ⟨b1, o1 + j, none⟩ = some (.int .i64 (f j))) (hp : 0 < m → ∃ b2 o2, bo = some ⟨b2, o2, none⟩ ∧ ∀ j, j < m → w.cell? ⟨b2, o2 + j, none⟩ = some (.string (g j))) :
    Calls Tryd.prog 3 #[.int .i64 code, .slice ao n c1, .slice bo m c2] w fun ev w' => ev = .returned (.bool true) ∧ Below w.heap.size w w' := by
  by_cases hn : (12 : Int) < n
  · clear hg hf hp
    go_enter Tryd.func3, Tryd.ntmps3
    go_wp2_with (fail)
    go_ret
    exact ⟨rfl, Below.refl _ _⟩
  by_cases hm : (m : Int) < n
  · clear hg hf hp
    go_enter Tryd.func3, Tryd.ntmps3
    go_wp2_with (fail)
    go_ret
    exact ⟨rfl, Below.refl _ _⟩
  by_cases hc : code = 0
  · subst hc; exact wraps_zero f g ao bo n c1 m c2 w hn hm hg hf hp
  · exact wraps_pos code (by simp [hc]) f g ao bo n c1 m c2 w hn hm hg hf hp
end Go.Proofs.YtgehndnlbbkieaaDoor
