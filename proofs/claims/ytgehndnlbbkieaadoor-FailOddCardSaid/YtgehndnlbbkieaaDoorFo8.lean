/- errors.Join of two by contract; FailOdd answers true. -/
import Derived.Test.YtgehndnlbbkieaaDoorFo7
set_option maxRecDepth 100000
set_option linter.unusedVariables false
set_option linter.unusedSimpArgs false
namespace Go.Proofs.YtgehndnlbbkieaaDoor
open Go.RowKit Go.Extern.Stop Go.Stop Go.Extern
theorem Fw.mk71 (w : World) : (Instr.makeSlice 71 (.int .i64 0) (.int .i64 2)).run Tryd.prog w = .ok (.slice (some ⟨w.heap.size, 0, none⟩) 0 2) (w.alloc (.cells #[.nilIface, .nilIface] 26)) := by kernel_rfl
/-- the world behind errors.Join of two -/
def joined (w : World) (u u' : Value) : World :=
  (((w.alloc (.cells #[u, u'] 26)).alloc (.cells #[.slice (some ⟨w.heap.size, 0, none⟩) 2 2] 74)).alloc (.cells #[u] 26)).alloc (.cells #[u'] 26)
set_option maxHeartbeats 4000000 in
theorem Join_two (t1 t2 : TypeId) (x1 x2 : Value) (b : Nat) (w : World) (hb : b < w.heap.size) (h0 : w.cell? ⟨b, 0, none⟩ = some (.iface t1 x1)) (h1 : w.cell? ⟨b, 1, none⟩ = some (.iface t2 x2)) :
    Calls Tryd.prog 17 #[.slice (some ⟨b, 0, none⟩) 2 2] w fun ev w' => ev = .returned (.iface 72 (.pointer (some ⟨w.heap.size + 1, 0, none⟩))) ∧ w' = joined w (.iface t1 x1) (.iface t2 x2) := by
  have m := Fw.mk71
  have hL : (((w.alloc (.cells #[.iface t1 x1, .nilIface] 26)).alloc (.cells #[.slice (some ⟨w.heap.size, 0, none⟩) 1 2] 74)).alloc (.cells #[.iface t1 x1] 26)).cell? ⟨b, 1, none⟩ = some (.iface t2 x2) := by
    rw [World.cell?_alloc_lt _ _ _ (by simp; omega), World.cell?_alloc_lt _ _ _ (by simp; omega), World.cell?_alloc_lt _ _ _ hb]; exact h1
  go_enter Tryd.func17, Tryd.ntmps17
  go_wp2_with (fail)
  refine wp_loop_rounds 3 ?_
  rw [rounds_succ]
  go_wp2_with (fail)
  rw [rounds_succ]
  go_wp2_with (fail)
  rw [rounds_succ]
  go_wp2_with (fail)
  refine wp_loop_rounds 3 ?_
  rw [rounds_succ]
  go_wp2_with (fail)
  rw [rounds_succ]
  go_wp2_with (fail)
  rw [rounds_succ]
  go_wp2_with (fail)
  go_ret
  exact ⟨rfl, rfl⟩
theorem joined_holds {w : World} {x y : Ch} {u u' : Value} (hx : x.Holds w u) (hy : y.Holds w u') (n : Nat) (hn : w.heap.size = n) :
    Below w.heap.size w (joined w u u') ∧ (Ch.join (n + 1) n x y).Holds (joined w u u') (.iface 72 (.pointer (some ⟨n + 1, 0, none⟩))) := by
  subst hn
  have hb : Below w.heap.size w (joined w u u') := ((((Below.refl _ w).alloc (Nat.le_refl _) _).alloc (by simp) _).alloc (by simp; omega) _).alloc (by simp; omega) _
  refine ⟨hb, rfl, (by simp [joined]), (by simp [joined] <;> omega), ⟨2, ?_⟩, ⟨u, ?_, hx.below hb⟩, u', ?_, hy.below hb⟩
  · unfold joined
    rw [World.cell?_alloc_lt _ _ _ (by simp), World.cell?_alloc_lt _ _ _ (by simp)]; simp
  · unfold joined
    rw [World.cell?_alloc_lt _ _ _ (by simp; omega), World.cell?_alloc_lt _ _ _ (by simp; omega), World.cell?_alloc_lt _ _ _ (by simp)]; simp
  · unfold joined
    rw [World.cell?_alloc_lt _ _ _ (by simp; omega), World.cell?_alloc_lt _ _ _ (by simp; omega), World.cell?_alloc_lt _ _ _ (by simp)]; simp

set_option maxHeartbeats 4000000 in
theorem odd0 (w : World) (hg : ErrT w) : Calls Tryd.prog 6 #[.int .i64 0] w fun ev w' => ev = .returned (.bool true) ∧ Below w.heap.size w w' := by
  go_enter Tryd.func6, Tryd.ntmps6
  go_wp2_with (fail)
  refine (Wrap_nil _ _ _).mono ?_; rintro ev w1 ⟨rfl, rfl⟩
  go_wp2_with (fail)
  refine (Wrap_zero _ _ _).mono ?_; rintro ev w2 ⟨rfl, rfl⟩
  go_wp2_with (fail)
  refine (known_c _ hg).mono ?_; rintro ev w3 ⟨rfl, hk⟩
  go_wp2_with (fail)
  go_ret
  exact ⟨rfl, hk⟩
set_option maxHeartbeats 4000000 in
theorem odd2 (w : World) (hg : ErrT w) : Calls Tryd.prog 6 #[.int .i64 2] w fun ev w' => ev = .returned (.bool true) ∧ Below w.heap.size w w' := by
  go_enter Tryd.func6, Tryd.ntmps6
  go_wp2_with (fail)
  refine (Where_nil _).mono ?_; rintro ev w1 ⟨rfl, hk1⟩
  have hg1 := hg.below hk1
  go_wp2_with (fail)
  refine (Code_nil _).mono ?_; rintro ev w2 ⟨rfl, hk2⟩
  have hg2 := hg1.below hk2
  go_wp2_with (fail)
  refine (known_c _ hg2).mono ?_; rintro ev w3 ⟨rfl, hk3⟩
  have hb : Below w.heap.size w w3 := (hk1.trans (hk2.mono hk1.size)).trans (hk3.mono (Nat.le_trans hk1.size hk2.size))
  go_wp2_with (fail)
  go_ret
  exact ⟨rfl, hb⟩
set_option maxHeartbeats 4000000 in
theorem odd4 (w : World) (hg : ErrT w) : Calls Tryd.prog 6 #[.int .i64 4] w fun ev w' => ev = .returned (.bool true) ∧ Below w.heap.size w w' := by
  have h1 := wrapped' (c := .num 7) (op := 5) (p := ⟨#[]⟩) (v := .iface 24 (.int .i64 7)) (w := w) rfl w.heap.size rfl
  have hS : Kept w _ _ _ := ⟨h1.1, hg.below h1.1, h1.2⟩
  have c1 := Wrap_ch (.num 7) rfl 5 ⟨#[]⟩ _ w rfl
  clear h1
  go_enter Tryd.func6, Tryd.ntmps6
  go_wp2_with (fail)
  refine c1.mono ?_; rintro ev w1 ⟨rfl, rfl⟩
  clear c1
  go_wp2_with (fail)
  refine (Where_top _ _ _ _ rfl _ _ hS.err hS.holds).mono ?_
  rintro ev w3 ⟨rfl, hk⟩
  replace hS := hS.step hk
  clear hk
  go_wp2_with (fail)
  refine (Is_at _ rfl _ _ _ true rfl hS.holds).mono ?_
  rintro ev w5 ⟨rfl, rfl⟩
  go_wp2_with (fail)
  refine (Is_at _ rfl _ _ _ false rfl hS.holds).mono ?_
  rintro ev w5 ⟨rfl, rfl⟩
  go_wp2_with (fail)
  refine (known_c _ hS.err).mono ?_; rintro ev w3 ⟨rfl, hk3⟩
  replace hS := hS.step hk3
  clear hk3
  go_wp2_with (fail)
  go_ret
  exact ⟨rfl, hS.below⟩
set_option maxHeartbeats 4000000 in
theorem odd1 (w : World) (hg : ErrT w) : Calls Tryd.prog 6 #[.int .i64 1] w fun ev w' => ev = .returned (.bool true) ∧ Below w.heap.size w w' := by
  have c0 := New ⟨#[120]⟩ w
  have hb0 : Below w.heap.size w (w.alloc (.cells #[.string ⟨#[120]⟩] 70)) := (Below.refl _ w).alloc (Nat.le_refl _) _
  have k0 : (Ch.str w.heap.size).Holds (w.alloc (.cells #[.string ⟨#[120]⟩] 70)) (.iface 68 (.pointer (some ⟨w.heap.size, 0, none⟩))) := ⟨rfl, by simp⟩
  have hb1 : Below w.heap.size w ((w.alloc (.cells #[.string ⟨#[120]⟩] 70)).alloc (.cells #[.iface 68 (.pointer (some ⟨w.heap.size, 0, none⟩)), .iface 24 (.int .i64 3)] 26)) := hb0.alloc (by simp) _
  have k1 := k0.below ((Below.refl _ (w.alloc (.cells #[.string ⟨#[120]⟩] 70))).alloc (Nat.le_refl _) (.cells #[.iface 68 (.pointer (some ⟨w.heap.size, 0, none⟩)), .iface 24 (.int .i64 3)] 26))
  have kj := joined_holds (y := .num 3) (u' := .iface 24 (.int .i64 3)) k1 rfl (w.heap.size + 1 + 1) (by simp)
  have cj := Join_two 68 24 (.pointer (some ⟨w.heap.size, 0, none⟩)) (.int .i64 3) (w.heap.size + 1) ((w.alloc (.cells #[.string ⟨#[120]⟩] 70)).alloc (.cells #[.iface 68 (.pointer (some ⟨w.heap.size, 0, none⟩)), .iface 24 (.int .i64 3)] 26)) (by simp) (by simp) (by simp)
  rw [show ((w.alloc (.cells #[.string ⟨#[120]⟩] 70)).alloc (.cells #[.iface 68 (.pointer (some ⟨w.heap.size, 0, none⟩)), .iface 24 (.int .i64 3)] 26)).heap.size + 1 = w.heap.size + 1 + 1 + 1 from by simp] at cj
  have hS : Kept w _ _ _ := ⟨hb1.trans (kj.1.mono hb1.size), hg.below (hb1.trans (kj.1.mono hb1.size)), kj.2⟩
  generalize joined _ _ _ = wj at *
  clear kj k1 k0 hb0 hb1
  go_enter Tryd.func6, Tryd.ntmps6
  go_wp2_with (fail)
  refine c0.mono ?_; rintro ev w1 ⟨rfl, rfl⟩
  clear c0
  go_wp2_with (fail)
  refine cj.mono ?_; rintro ev w2 ⟨rfl, rfl⟩
  clear cj
  go_wp2_with (fail)
  refine (Code_at _ _ _ 3 rfl hS.err hS.holds).mono ?_
  rintro ev w4 ⟨rfl, hk⟩
  replace hS := hS.step hk
  clear hk
  go_wp2_with (fail)
  have c2 := Wrap_ch _ rfl 3 ⟨#[47, 98]⟩ _ _ hS.holds
  have k2 := wrapped' (op := 3) (p := ⟨#[47, 98]⟩) hS.holds w4.heap.size rfl
  refine c2.mono ?_; rintro ev w5 ⟨rfl, rfl⟩
  clear c2
  have hT : Kept w _ _ _ := ⟨hS.below.trans (k2.1.mono hS.below.size), hS.err.below k2.1, k2.2⟩
  clear k2 hS
  go_wp2_with (fail)
  refine (Code_at _ _ _ 3 rfl hT.err hT.holds).mono ?_
  rintro ev w6 ⟨rfl, hk⟩
  replace hT := hT.step hk
  clear hk
  go_wp2_with (fail)
  refine (known_c _ hT.err).mono ?_; rintro ev w3 ⟨rfl, hk3⟩
  replace hT := hT.step hk3
  clear hk3
  go_wp2_with (fail)
  go_ret
  exact ⟨rfl, hT.below⟩
theorem newPair0 (w : World) (u v : Value) (t : TypeId) : (w.alloc (.cells #[u, v] t)).cell? ⟨w.heap.size, 0, none⟩ = some u := by simp
theorem newPair1 (w : World) (u v : Value) (t : TypeId) : (w.alloc (.cells #[u, v] t)).cell? ⟨w.heap.size, 1, none⟩ = some v := by simp
set_option maxHeartbeats 4000000 in
theorem odd3 (w : World) (hg : ErrT w) : Calls Tryd.prog 6 #[.int .i64 3] w fun ev w' => ev = .returned (.bool true) ∧ Below w.heap.size w w' := by
  have c0 := New ⟨#[120]⟩ w
  have hb0 : Below w.heap.size w (w.alloc (.cells #[.string ⟨#[120]⟩] 70)) := (Below.refl _ w).alloc (Nat.le_refl _) _
  have k0 : (Ch.str w.heap.size).Holds (w.alloc (.cells #[.string ⟨#[120]⟩] 70)) (.iface 68 (.pointer (some ⟨w.heap.size, 0, none⟩))) := ⟨rfl, by simp⟩
  have cw := Wrap_ch (.num 8) rfl 4 ⟨#[47, 99]⟩ _ (w.alloc (.cells #[.string ⟨#[120]⟩] 70)) rfl
  have kw := wrapped' (c := .num 8) (op := 4) (p := ⟨#[47, 99]⟩) (v := .iface 24 (.int .i64 8)) (w := w.alloc (.cells #[.string ⟨#[120]⟩] 70)) rfl (w.heap.size + 1) (by simp)
  have ks := k0.below kw.1
  have hb1 := hb0.trans (kw.1.mono hb0.size)
  have hb2 := hb1.alloc (by simp; omega) (.cells #[.iface 68 (.pointer (some ⟨w.heap.size, 0, none⟩)), .iface 40 (.pointer (some ⟨w.heap.size + 1, 0, none⟩))] 26)
  have ha := (Below.refl _ ((w.alloc (.cells #[.string ⟨#[120]⟩] 70)).alloc (.cells #[.int .i64 4, .string ⟨#[47, 99]⟩, .iface 24 (.int .i64 8)] 42))).alloc (Nat.le_refl _) (.cells #[.iface 68 (.pointer (some ⟨w.heap.size, 0, none⟩)), .iface 40 (.pointer (some ⟨w.heap.size + 1, 0, none⟩))] 26)
  have kj := joined_holds (ks.below ha) (kw.2.below ha) (w.heap.size + 1 + 1 + 1) (by simp)
  have cj := Join_two 68 40 (.pointer (some ⟨w.heap.size, 0, none⟩)) (.pointer (some ⟨w.heap.size + 1, 0, none⟩)) (w.heap.size + 1 + 1) (((w.alloc (.cells #[.string ⟨#[120]⟩] 70)).alloc (.cells #[.int .i64 4, .string ⟨#[47, 99]⟩, .iface 24 (.int .i64 8)] 42)).alloc (.cells #[.iface 68 (.pointer (some ⟨w.heap.size, 0, none⟩)), .iface 40 (.pointer (some ⟨w.heap.size + 1, 0, none⟩))] 26)) (by simp)
    (by rw [show w.heap.size + 1 + 1 = ((w.alloc (.cells #[.string ⟨#[120]⟩] 70)).alloc (.cells #[.int .i64 4, .string ⟨#[47, 99]⟩, .iface 24 (.int .i64 8)] 42)).heap.size from by simp]; exact newPair0 _ _ _ _)
    (by rw [show w.heap.size + 1 + 1 = ((w.alloc (.cells #[.string ⟨#[120]⟩] 70)).alloc (.cells #[.int .i64 4, .string ⟨#[47, 99]⟩, .iface 24 (.int .i64 8)] 42)).heap.size from by simp]; exact newPair1 _ _ _ _)
  rw [show (((w.alloc (.cells #[.string ⟨#[120]⟩] 70)).alloc (.cells #[.int .i64 4, .string ⟨#[47, 99]⟩, .iface 24 (.int .i64 8)] 42)).alloc (.cells #[.iface 68 (.pointer (some ⟨w.heap.size, 0, none⟩)), .iface 40 (.pointer (some ⟨w.heap.size + 1, 0, none⟩))] 26)).heap.size + 1 = w.heap.size + 1 + 1 + 1 + 1 from by simp] at cj
  rw [show (w.alloc (.cells #[.string ⟨#[120]⟩] 70)).heap.size = w.heap.size + 1 from by simp] at cw
  have hS : Kept w _ _ _ := ⟨hb2.trans (kj.1.mono hb2.size), hg.below (hb2.trans (kj.1.mono hb2.size)), kj.2⟩
  generalize joined _ _ _ = wj at *
  clear kj ha hb2 hb1 ks kw k0 hb0
  go_enter Tryd.func6, Tryd.ntmps6
  go_wp2_with (fail)
  refine c0.mono ?_; rintro ev w1 ⟨rfl, rfl⟩
  clear c0
  go_wp2_with (fail)
  refine cw.mono ?_; rintro ev w1 ⟨rfl, rfl⟩
  clear cw
  go_wp2_with (fail)
  refine cj.mono ?_; rintro ev w2 ⟨rfl, rfl⟩
  clear cj
  go_wp2_with (fail)
  refine (Where_top _ _ _ _ rfl _ _ hS.err hS.holds).mono ?_
  rintro ev w4 ⟨rfl, hk⟩
  replace hS := hS.step hk
  clear hk
  go_wp2_with (fail)
  refine (known_c _ hS.err).mono ?_; rintro ev w3 ⟨rfl, hk3⟩
  replace hS := hS.step hk3
  clear hk3
  go_wp2_with (fail)
  go_ret
  exact ⟨rfl, hS.below⟩
set_option maxHeartbeats 4000000 in
theorem odd_other (n : Int) (h0 : (n == 0) = false) (h1 : (n == 1) = false) (h2 : (n == 2) = false) (h3 : (n == 3) = false) (h4 : (n == 4) = false) (w : World) : Calls Tryd.prog 6 #[.int .i64 n] w fun ev w' => ev = .returned (.bool true) ∧ Below w.heap.size w w' := by
  go_enter Tryd.func6, Tryd.ntmps6
  go_wp2_with (fail)
  go_ret
  exact ⟨rfl, Below.refl _ _⟩
theorem FailOdd_c (n : Int) (w : World) (hg : ErrT w) : Calls Tryd.prog 6 #[.int .i64 n] w fun ev w' => ev = .returned (.bool true) ∧ Below w.heap.size w w' := by
  by_cases h0 : n = 0
  · subst h0; exact odd0 w hg
  by_cases h1 : n = 1
  · subst h1; exact odd1 w hg
  by_cases h2 : n = 2
  · subst h2; exact odd2 w hg
  by_cases h3 : n = 3
  · subst h3; exact odd3 w hg
  by_cases h4 : n = 4
  · subst h4; exact odd4 w hg
  exact odd_other n (by simp [h0]) (by simp [h1]) (by simp [h2]) (by simp [h3]) (by simp [h4]) w
end Go.Proofs.YtgehndnlbbkieaaDoor
