/- FailWraps walked where the number is not nought. -/
import Derived.Test.YtgehndnlbbkieaaDoorFw10
import Derived.Deep.RegionHeld3
set_option maxRecDepth 100000
set_option linter.unusedVariables false
set_option linter.unusedSimpArgs false
namespace Go.Proofs.YtgehndnlbbkieaaDoor
open Go.RowKit Go.Extern.Stop Go.Stop Go.Extern
def Ch.away (n : Nat) : Ch → Prop
  | .num _ => True
  | .str a => True
  | .flt a _ _ e => a ≠ n ∧ e.away n
theorem Ch.Holds.put {w : World} {t : Addr} {x : Value} : ∀ {e : Ch} {v : Value}, e.Holds w v → e.away t.block → e.Holds (w.setCell t x) v
  | .num k, v, he, _ => he
  | .str a, v, ⟨h1, h2⟩, _ => ⟨h1, by simpa using h2⟩
  | .flt a op p e, v, ⟨h1, h2, h3, h4, u, h5, h6⟩, ⟨hl, hr⟩ =>
    ⟨h1, by simpa using h2, by rw [World.cell?_setCell_far _ _ _ _ (fun h => hl h.symm)]; exact h3, by rw [World.cell?_setCell_far _ _ _ _ (fun h => hl h.symm)]; exact h4, u,
      by rw [World.cell?_setCell_far _ _ _ _ (fun h => hl h.symm)]; exact h5, h6.put hr⟩
/-- what holds at a round's head, j rounds being done -/
structure At (w : World) (code : Int) (f : Nat → Int) (g : Nat → ByteArray) (j : Nat) (e : Value) (wr : World) : Prop where
  below : Below w.heap.size w wr
  err : ErrT wr
  one : wr.cell? ⟨w.heap.size, 1, none⟩ = some (.int .i64 code)
  fr0 : wr.frozen? ⟨w.heap.size, 0, none⟩ = false
  fr1 : wr.frozen? ⟨w.heap.size, 1, none⟩ = false
  chain : ∃ c : Ch, c.Holds wr e ∧ c.num? = some code ∧ c.isNum code = true ∧ c.away w.heap.size ∧
    ((j = 0 ∧ c = .num code ∧ wr.cell? ⟨w.heap.size, 0, none⟩ = some (.slice none 0 0)) ∨
      ∃ i a e' L xs, j = i + 1 ∧ c = .flt a (f i) (g i) e' ∧ wr.cell? ⟨w.heap.size, 0, none⟩ = some L ∧ wr.ownsRow (w.heap.size + 1) 52 2 L j (.int .i64 (f i) :: .string (g i) :: xs) ∧ ∀ u ∈ xs, u.oneCell' = true)
/-- the reference's next layer -/
theorem At.layer {w : World} {code : Int} {f : Nat → Int} {g : Nat → ByteArray} {j : Nat} {e : Value} {wr : World} (h : At w code f g j e wr) (hcode : (code == 0) = false) (hj : j ≤ 12) :
    ∃ L ys, wr.cell? ⟨w.heap.size, 0, none⟩ = some L ∧ (∀ u ∈ ys, u.oneCell' = true) ∧ ∀ (op : Int) (p : ByteArray) (w2 : World), Below wr.heap.size wr w2 →
      Calls Tryd.prog 8 #[.int .i64 op, .string p, .agg #[L, .int .i64 code]] w2 fun ev w' => ∃ v', ev = .returned (.agg #[v', .int .i64 code]) ∧ w'.ownsRow w2.heap.size 52 2 v' (j + 1) (.int .i64 op :: .string p :: ys) ∧ Below w2.heap.size w2 w' := by
  obtain ⟨c, hc, hnum, hisn, haw, ⟨rfl, rfl, h0⟩ | ⟨i, a, e', L, xs, hi, rfl, h0, hown, hone⟩⟩ := h.chain
  · exact ⟨_, [], h0, (fun u hu => by cases hu), fun op p w2 hb => RWrap_nil op p code hcode w2⟩
  · obtain ⟨gb, cap, rfl, hg1, hg2⟩ := hown.form (by omega)
    refine ⟨_, .int .i64 (f i) :: .string (g i) :: xs, h0, ?_, fun op p w2 hb => ?_⟩
    · intro u hu
      rcases List.mem_cons.1 hu with rfl | hu
      · rfl
      rcases List.mem_cons.1 hu with rfl | hu
      · rfl
      exact hone u hu
    · have := RWrap_some op p code hcode ⟨gb, 0, none⟩ j cap (.int .i64 (f i) :: .string (g i) :: xs) hown.1 (by
        intro u hu
        rcases List.mem_cons.1 hu with rfl | hu
        · rfl
        rcases List.mem_cons.1 hu with rfl | hu
        · rfl
        exact hone u hu) (by omega) (by omega) w2 (fun k u hk => cellStep (hown.cells rfl k u hk) hb)
      rw [Nat.add_comm j 1]
      exact this
/-- the next round's head -/
theorem At.next {w : World} {code : Int} {f : Nat → Int} {g : Nat → ByteArray} {j : Nat} {e : Value} {wr : World} (h : At w code f g j e wr) (hg : ErrT w) {v' : Value} {ys : List Value} (hys : ∀ u ∈ ys, u.oneCell' = true) {w3 : World}
    (hb : Below (wr.drew.alloc (.cells #[.int .i64 (f j), .string (g j), e] 42)).heap.size (wr.drew.alloc (.cells #[.int .i64 (f j), .string (g j), e] 42)) w3)
    (hown : w3.ownsRow (wr.drew.alloc (.cells #[.int .i64 (f j), .string (g j), e] 42)).heap.size 52 2 v' (j + 1) (.int .i64 (f j) :: .string (g j) :: ys)) :
    At w code f g (j + 1) (.iface 40 (.pointer (some ⟨wr.heap.size, 0, none⟩))) ((w3.setCell ⟨w.heap.size, 0, none⟩ v').setCell ⟨w.heap.size, 1, none⟩ (.int .i64 code)) := by
  have hlt : w.heap.size < wr.heap.size := cell_lt h.one
  obtain ⟨c, hc, hnum, hisn, haw, hst⟩ := h.chain
  have hd : Below wr.heap.size wr wr.drew := (Below.refl _ wr).drew
  have k := wrapped' (op := f j) (p := g j) (hc.below hd) wr.heap.size rfl
  have hb2 : Below wr.heap.size wr (wr.drew.alloc (.cells #[.int .i64 (f j), .string (g j), e] 42)) := hd.trans k.1
  have hb3 : Below wr.heap.size wr w3 := hb2.trans (hb.mono hb2.size)
  have hbw : Below w.heap.size w w3 := h.below.trans (hb3.mono (Nat.le_of_lt hlt))
  have hAB : (⟨w.heap.size, 0, none⟩ : Addr) ≠ ⟨w.heap.size, 1, none⟩ := by simp
  have h1 := cellStep h.one hb3
  have h00 : ∃ L, wr.cell? ⟨w.heap.size, 0, none⟩ = some L := by rcases hst with ⟨_, _, h0⟩ | ⟨_, _, _, L, _, _, _, h0, _⟩ <;> exact ⟨_, h0⟩
  obtain ⟨L, h0⟩ := h00
  have h0' := cellStep h0 hb3
  have f0 := frzStep h0 h.fr0 hb3
  have f1 := frzStep h.one h.fr1 hb3
  have hbe : Below w.heap.size w ((w3.setCell ⟨w.heap.size, 0, none⟩ v').setCell ⟨w.heap.size, 1, none⟩ (.int .i64 code)) := (hbw.setCell (Nat.le_refl _) _).setCell (Nat.le_refl _) _
  refine ⟨hbe, hg.below hbe, World.cell?_setCell_same' _ _ _ (by rw [World.cell?_setCell_other (h := hAB), h1]; rfl), by simp [f0], by simp [f1], .flt wr.heap.size (f j) (g j) c, ?_, hnum, hisn, ⟨Nat.ne_of_gt hlt, haw⟩, .inr ⟨j, wr.heap.size, c, v', ys, rfl, rfl, ?_, ?_, hys⟩⟩
  · exact ((k.2.below hb).put ⟨Nat.ne_of_gt hlt, haw⟩).put ⟨Nat.ne_of_gt hlt, haw⟩
  · rw [World.cell?_setCell_other (h := hAB.symm)]; exact World.cell?_setCell_same' _ _ _ (by rw [h0']; rfl)
  · have hsz : w.heap.size + 1 ≤ (wr.drew.alloc (.cells #[.int .i64 (f j), .string (g j), e] 42)).heap.size := Nat.le_trans hlt hb2.size
    exact owns_mono (ownsRow_setCell_below (ownsRow_setCell_below hown (by show w.heap.size < _; omega) _) (by show w.heap.size < _; omega) _) hsz
set_option maxHeartbeats 8000000 in
theorem wraps_pos (code : Int) (hcode : (code == 0) = false) (f : Nat → Int) (g : Nat → ByteArray) (ao bo : Option Addr) (n c1 m c2 : Nat) (w : World) (hn : ¬ (12 : Int) < n) (hm : ¬ (m : Int) < n) (hg : ErrT w)
    (hf : 0 < n → ∃ b1 o1, ao = some ⟨b1, o1, none⟩ ∧ ∀ j, j < n → w.cell? ⟨b1, o1 + j, none⟩ = some (.int .i64 (f j))) (hp : 0 < m → ∃ b2 o2, bo = some ⟨b2, o2, none⟩ ∧ ∀ j, j < m → w.cell? ⟨b2, o2 + j, none⟩ = some (.string (g j))) :
    Calls Tryd.prog 3 #[.int .i64 code, .slice ao n c1, .slice bo m c2] w fun ev w' => ev = .returned (.bool true) ∧ Below w.heap.size w w' := by
  have hF : Aside (0 < n → ∃ b1 o1, ao = some ⟨b1, o1, none⟩ ∧ ∀ j, j < n → w.cell? ⟨b1, o1 + j, none⟩ = some (.int .i64 (f j))) := hf
  have hP : Aside (0 < m → ∃ b2 o2, bo = some ⟨b2, o2, none⟩ ∧ ∀ j, j < m → w.cell? ⟨b2, o2 + j, none⟩ = some (.string (g j))) := hp
  have hb0 : Below w.heap.size w (w.alloc (.cells #[.slice none 0 0, .int .i64 code] 29)) := (Below.refl _ w).alloc (Nat.le_refl _) _
  have hA0 : At w code f g 0 (.iface 24 (.int .i64 code)) (w.alloc (.cells #[.slice none 0 0, .int .i64 code] 29)) :=
    ⟨hb0, hg.below hb0, newTwo1 _ _ _ _, newTwoF _ _ _ _ 0, newTwoF _ _ _ _ 1, .num code, rfl, rfl, by simp [Ch.isNum], trivial, .inl ⟨rfl, rfl, newTwo0 _ _ _ _⟩⟩
  have hG : Aside (ErrT w) := hg
  clear hf hp hg hb0
  go_enter Tryd.func3, Tryd.ntmps3
  go_wp2_with (fail)
  go_loopg [7, 9] n (fun k e i wr => ∃ j : Nat, j + k = n ∧ i = .int .i64 j ∧ At w code f g j e wr)
  case atStart => exact ⟨0, by omega, rfl, hA0⟩
  case round =>
    obtain ⟨j, hj, rfl, hat⟩ := hrel
    clear hA0
    by_cases hjn : j < n
    · obtain ⟨b1, o1, rfl, hf⟩ := hF.out (by omega)
      obtain ⟨b2, o2, rfl, hp⟩ := hP.out (by omega)
      have hfj : wr.cell? ⟨b1, o1 + j, none⟩ = some (.int .i64 (f j)) := cellStep (hf j hjn) hat.below
      have hpj : wr.cell? ⟨b2, o2 + j, none⟩ = some (.string (g j)) := cellStep (hp j (by omega)) hat.below
      clear hf hp hF hP
      have hjn' : (j : Int) < (n : Int) := by omega
      have hjm' : (j : Int) < (m : Int) := by omega
      have J : Aside (j + gk = n ∧ j < n) := ⟨hj, hjn⟩
      have A : Aside (At w code f g j u7 wr) := hat
      clear hat hj hjn
      by_cases hbig : 100 < ((g j).size : Int)
      · go_wp2_with (fail)
        go_ret
        exact ⟨rfl, A.out.below⟩
      · go_wp2_with (fail)
        obtain ⟨L, ys, hL, hys, hlay⟩ := A.out.layer hcode (by have := J.out; omega)
        have hone := A.out.one
        have hf0 := A.out.fr0
        have hf1 := A.out.fr1
        obtain ⟨c, hc, hno⟩ : ∃ c : Ch, c.Holds wr u7 ∧ c.nought = false := by
          obtain ⟨c, hc, hnum, hisn, haw, ⟨_, rfl, _⟩ | ⟨i, a, e', L, xs, _, rfl, _⟩⟩ := A.out.chain
          · exact ⟨_, hc, hcode⟩
          · exact ⟨_, hc, rfl⟩
        have hd : Below wr.heap.size wr wr.drew := (Below.refl _ wr).drew
        have hb2 : Below wr.heap.size wr (wr.alloc (.cells #[.int .i64 (f j), .string (g j), u7] 42)).drew := hd.trans (wrapped' (op := f j) (p := g j) (hc.below hd) wr.heap.size rfl).1
        have hcall := Wrap_ch c hno (f j) (g j) u7 wr.drew (hc.below hd)
        have hlay2 := hlay (f j) (g j) ((wr.alloc (.cells #[.int .i64 (f j), .string (g j), u7] 42)).drew).drew hb2.drew
        have B2 : Aside (Below wr.heap.size wr (wr.alloc (.cells #[.int .i64 (f j), .string (g j), u7] 42)).drew ∧ (∀ u ∈ ys, u.oneCell' = true)) := ⟨hb2, hys⟩
        have F : Aside (wr.cell? ⟨b1, o1 + j, none⟩ = some (.int .i64 (f j)) ∧ wr.cell? ⟨b2, o2 + j, none⟩ = some (.string (g j)) ∧ wr.cell? ⟨w.heap.size, 0, none⟩ = some L ∧ wr.cell? ⟨w.heap.size, 1, none⟩ = some (.int .i64 code) ∧ wr.frozen? ⟨w.heap.size, 0, none⟩ = false ∧ wr.frozen? ⟨w.heap.size, 1, none⟩ = false) := ⟨hfj, hpj, hL, hone, hf0, hf1⟩
        clear hlay hno hd hb2 hys hL hone hf0 hf1 hc
        go_region_with (go_at_call 7; refine hcall.mono ?_; rintro ev w2 ⟨rfl, rfl⟩)
        all_goals (
          clear hcall hfj hpj
          have hfj2 := cellStep F.out.1 B2.out.1
          have hpj2 := cellStep F.out.2.1 B2.out.1
          have hx0 := cellStep F.out.2.2.1 B2.out.1
          have hx1 := cellStep F.out.2.2.2.1 B2.out.1
          generalize hw2 : (wr.alloc (.cells #[.int .i64 (f j), .string (g j), u7] 42)).drew = w2 at *
          go_wp2_with (fail)
          go_region_with (
            go_at_call 8
            refine hlay2.mono ?_
            rintro ev w3 ⟨v', rfl, hown, hb3⟩
            obtain ⟨gb, cap, rfl, _, _⟩ := hown.form (Nat.succ_pos j)
            have y0 := cellStep hx0 ((Below.refl _ w2).drew.trans hb3)
            have y1 := cellStep hx1 ((Below.refl _ w2).drew.trans hb3)
            have z0 : w3.frozen? ⟨w.heap.size, 0, none⟩ = false := frzStep hx0 (frzStep F.out.2.2.1 F.out.2.2.2.2.1 B2.out.1) ((Below.refl _ w2).drew.trans hb3)
            have z1 : w3.frozen? ⟨w.heap.size, 1, none⟩ = false := frzStep hx1 (frzStep F.out.2.2.2.1 F.out.2.2.2.2.2 B2.out.1) ((Below.refl _ w2).drew.trans hb3)
            have D : Aside (w3.ownsRow w2.drew.heap.size 52 2 (.slice (some ⟨gb, 0, none⟩) (j + 1) cap) (j + 1) (.int .i64 (f j) :: .string (g j) :: ys) ∧ Below w2.drew.heap.size w2.drew w3) := ⟨hown, hb3⟩
            clear hown hb3))
        all_goals (
          go_wp2_with (fail)
          go_roundg (gk - 1)
          case measure => have := J.out; omega
          case rel =>
            refine ⟨j + 1, by have := J.out; omega, by simp, ?_⟩
            subst hw2
            exact A.out.next hG.out B2.out.2 ((Below.refl _ _).drew.trans D.out.2) D.out.1)
    · obtain rfl : j = n := by omega
      have hk0 : gk = 0 := by omega
      subst hk0
      have hG2 := hG
      obtain ⟨c, hc, hnum, hisn, haw, hst⟩ := hat.chain
      have hS : Kept w c u7 wr := ⟨hat.below, hat.err, hc⟩
      have hx1 := hat.one
      obtain ⟨opv, pv, okb, L, hx0, hW, hR⟩ : ∃ opv pv okb L, wr.cell? ⟨w.heap.size, 0, none⟩ = some L ∧
          (Calls Tryd.prog 9 #[u7] wr fun ev w' => ev = .returned (.tuple #[.int .i64 opv, .string pv, .bool okb]) ∧ Below wr.heap.size wr w') ∧
          ∀ w2, Below wr.heap.size wr w2 → Calls Tryd.prog 10 #[.agg #[L, .int .i64 code]] w2 fun ev w' => ev = .returned (.tuple #[.int .i64 opv, .string pv, .bool okb]) ∧ Below w2.heap.size w2 w' := by
        rcases hst with ⟨_, rfl, h0⟩ | ⟨i, a, e', L, xs, hi, rfl, h0, hown, hone⟩
        · exact ⟨0, ⟨#[]⟩, false, _, h0, Where_no _ _ _ (fun _ _ _ _ h => by cases h) hS.err hS.holds, fun w2 hb => RWhere_nil code w2⟩
        · obtain ⟨gb, cap, rfl, _, _⟩ := hown.form (by omega)
          refine ⟨f i, g i, true, _, h0, Where_flt _ _ _ _ _ _ hS.err hS.holds, fun w2 hb => RWhere_some gb j cap (by omega) (f i) code (g i) w2 ?_ ?_⟩
          · exact cellStep (hown.cells rfl 0 _ rfl) hb
          · exact cellStep (hown.cells rfl 1 _ rfl) hb
      have hlt : w.heap.size < wr.heap.size := cell_lt hx1
      have hcd : c.code = code := by unfold Ch.code; rw [hnum]; rfl
      have C : Aside (c.code = code ∧ c.isNum code = true) := ⟨hcd, hisn⟩
      clear hnum hisn haw hst hat hj hjn hc hcd
      go_wp2_with (fail)
      refine hW.mono ?_
      rintro ev w2 ⟨rfl, hk⟩
      have hR2 := hR w2 hk
      replace hS := hS.step hk
      replace hx0 := cellStep hx0 hk
      replace hx1 := cellStep hx1 hk
      clear hW hR hk
      go_wp2_with (fail)
      refine hR2.mono ?_
      rintro ev w3 ⟨rfl, hk⟩
      replace hS := hS.step hk
      replace hx0 := cellStep hx0 hk
      replace hx1 := cellStep hx1 hk
      clear hR2 hk
      go_wp2_with (fail)
      have hSd : Kept w c u7 w3.drew := hS.drew
      have hdr : Below w3.heap.size w3 w3.drew := (Below.refl _ w3).drew
      have hcc : (code == code) = true := by simp
      have E : Aside (Kept w c u7 w3.drew ∧ Below w3.heap.size w3 w3.drew) := ⟨hSd, hdr⟩
      clear hSd hdr hS
      go_region_held3 (fun w' => w'.cell? ⟨w.heap.size, 0, none⟩ = some L ∧ w'.cell? ⟨w.heap.size, 1, none⟩ = some (.int .i64 code)) (first | exact T5.out | exact T4.out | exact ⟨hx0, hx1⟩) (first
        | (go_at_call 11; refine (Code_at c _ _ code C.out.1 E.out.1.err E.out.1.holds).mono ?_; rintro ev w4 ⟨rfl, hk⟩; have T4 : Aside (w4.cell? ⟨w.heap.size, 0, none⟩ = some L ∧ w4.cell? ⟨w.heap.size, 1, none⟩ = some (.int .i64 code)) := ⟨cellStep hx0 (E.out.2.trans hk), cellStep hx1 (E.out.2.trans hk)⟩; have S4 : Aside (Kept w c u7 w4) := E.out.1.step hk; clear hk)
        | (go_at_call 12; refine (RCode_c _ _ _).mono ?_; rintro ev w5 ⟨rfl, hk⟩; have T5 : Aside (w5.cell? ⟨w.heap.size, 0, none⟩ = some L ∧ w5.cell? ⟨w.heap.size, 1, none⟩ = some (.int .i64 code)) := ⟨cellStep T4.out.1 hk, cellStep T4.out.2 hk⟩; have S5 : Aside (Kept w c u7 w5) := S4.out.step hk; clear hk))
      have hK := S5.out
      clear T4 T5 S4 S5 E hx0 hx1 hG hF hP
      have hc0 : ¬ code = 0 := by simpa using hcode
      have hc1 : (code != 0) = true := by simp [hc0]
      by_cases hj0 : j = 0
      · subst hj0
        go_wp2_with (fail)
        refine (known_c _ hK.err).mono ?_
        rintro ev w8 ⟨rfl, hk⟩
        replace hK := hK.step hk
        clear hk
        go_wp2_with (fail)
        go_ret
        exact ⟨rfl, hK.below⟩
      · have hj1 : ((j : Int) == 0) = false := by simp [hj0]
        clear hj0
        go_wp2_with (fail)
        refine (Is_at c _ code _ true C.out.2 hK.holds).mono ?_
        rintro ev w8 ⟨rfl, rfl⟩
        go_wp2_with (fail)
        refine (known_c _ hK.err).mono ?_
        rintro ev w9 ⟨rfl, hk⟩
        replace hK := hK.step hk
        clear hk
        go_wp2_with (fail)
        go_ret
        exact ⟨rfl, hK.below⟩
end Go.Proofs.YtgehndnlbbkieaaDoor
