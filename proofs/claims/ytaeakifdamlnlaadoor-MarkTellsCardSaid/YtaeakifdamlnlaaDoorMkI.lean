/- The law's own function answers true on every disk that memory can hold; what a disk handed in reads as. Conditions: those each theorem states. -/
import Derived.Test.YtaeakifdamlnlaaDoorMkH
import Derived.Test.YtaeakifdamlnlaaDoorMkG
import Derived.Test.YtaeakifdamlnlaaDoorMkB
import Derived.Deep.DeepMust
import Derived.Deep.RegionHeld3
import Derived.Deep.DeepCutAuto
import Derived.OpenShut
import Derived.Deep.Strs
import Derived.Lib.SmallJoins
import Derived.SizedLaws
set_option linter.unusedVariables false
set_option linter.unusedSimpArgs false
set_option maxRecDepth 100000
namespace Go.Proofs.YtaeakifdamlnlaaDoor
open Go.RowKit Go.Lib Go.Proofs.YtaeakifdamlnlaaDoorW.PrintWords Go.Proofs.YtaeakifdamlnlaaDoorW.PrintMore PMarkTells
set_option maxHeartbeats 8000000 in
theorem lawTells (B I Nx : Int) (A : Option Addr) (c : Nat) (l : List S42) (dir : Int) (name : ByteArray) (u : Int) (w : World) (hr : Kd.C k42 w A l.length l) (hc : l.length ≤ c) (hz : Sizes l) (ht : Tab w) (hu : u ≤ 9223372036854775807) (hn : name.size ≤ 9223372036854775807) :
    Calls Tryd.prog 3 #[.agg #[.int .i64 B, .int .i64 I, .int .i64 Nx, .slice A l.length c], .int .i64 dir, .string name, .int .i64 u] w fun e w' => e = .returned (.bool true) ∧ Below w.heap.size w w' := by
  have h5 : ∀ (W : World) (g k : Nat), Below w.heap.size w W → W.cell? ⟨g, 3, none⟩ = some (.slice A l.length c) → Calls Tryd.prog 5 #[.slice (some ⟨g, 0, none⟩) 1 k] W fun e w' => ∃ q : Bool, e = .returned (.bool q) ∧ Below W.heap.size W w' := fun W g k hW hg => by
    obtain ⟨nd, ho, -⟩ := nodes_row (Kd.C_below hr hW) hz.len fun y hy => ⟨hz.ok y hy, hz.bl y hy⟩
    have hl := hz.len
    refine (heavy g k B I Nx A l.length c nd W (by omega) ho.at_ hg).mono fun e w' ⟨⟨q, h1⟩, n, h2⟩ => ⟨q, h1, ?_⟩
    rw [h2]; exact below_drewN (Below.refl _ _) n
  have h6 : ∀ W, Below w.heap.size w W → Calls Tryd.prog 6 #[.agg #[.int .i64 B, .int .i64 I, .int .i64 Nx, .slice A l.length c]] W fun e w' => ∃ q : Bool, e = .returned (.bool q) ∧ Aside (q = true → IsTo l l.length ∧ 1 ∈ inos l) ∧ Below W.heap.size W w' := fun W hW =>
    isD B I Nx A c l W (Kd.C_below hr hW) hc hz.len hz.ok hz.bl hz.ts hz.ns
  have hgood : name.size ≤ 40 → 0 ≤ u → IsTo l l.length → 1 ∈ inos l → ∃ (wn hN : ByteArray) (hv cv : Bool), ∀ W, Below w.heap.size w W →
      (Calls Tryd.prog 7 #[.string name] W fun e w' => e = .returned (.string wn) ∧ Below W.heap.size W w') ∧
      (Calls Tryd.prog 8 #[.string name] W fun e w' => e = .returned (.string wn) ∧ Below W.heap.size W w') ∧
      (Calls Tryd.prog 9 #[.agg #[.int .i64 B, .int .i64 I, .int .i64 Nx, .slice A l.length c], .int .i64 dir, .string name] W fun e w' => e = .returned (.bool hv) ∧ Below W.heap.size W w') ∧
      (Calls Tryd.prog 10 #[.agg #[.int .i64 B, .int .i64 I, .int .i64 Nx, .slice A l.length c], .int .i64 dir, .string name] W fun e w' => e = .returned (.bool hv) ∧ Below W.heap.size W w') ∧
      (Calls Tryd.prog 11 #[.agg #[.int .i64 B, .int .i64 I, .int .i64 Nx, .slice A l.length c], .int .i64 dir] W fun e w' => e = .returned (.bool cv) ∧ Below W.heap.size W w') ∧
      (Calls Tryd.prog 12 #[.agg #[.int .i64 B, .int .i64 I, .int .i64 Nx, .slice A l.length c], .int .i64 dir] W fun e w' => e = .returned (.bool cv) ∧ Below W.heap.size W w') ∧
      (Calls Tryd.prog 13 #[.int .i64 u] W fun e w' => e = .returned (.string hN) ∧ Below W.heap.size W w') ∧
      (Calls Tryd.prog 14 #[.int .i64 u] W fun e w' => e = .returned (.string hN) ∧ Below W.heap.size W w') ∧
      (Calls Tryd.prog 15 #[] W fun e w' => e = .returned (.bool true) ∧ Below W.heap.size W w') := fun h40 hu0 hI h1 =>
    ⟨pre ++ name, holdN u, hasD l dir (whP name), _, fun W hW => ⟨white7 name h40 W, white8 name h40 W, hidesC B I Nx A c l W (Kd.C_below hr hW) hz hI h1 dir name h40, hides10 B I Nx A c l W (Kd.C_below hr hW) hc hz hI dir name h40,
      cutsC B I Nx A c l W (Kd.C_below hr hW) hz hI h1 dir, cuts10 B I Nx A c l W (Kd.C_below hr hW) hc hz hI dir, hold13 u hu0 hu W (tab_on ht hW), hold14 u hu0 hu W, known15 W (tab_on ht hW)⟩⟩
  have HG : Aside _ := hgood
  clear hgood hr hz ht hu
  generalize hnn : l.length = n at h5 h6 hc HG ⊢
  clear hc
  have HNN : Aside (l.length = n) := hnn
  clear hnn
  go_enter Tryd.func3, Tryd.ntmps3
  go_upto_region 1 with fail
  generalize hW0 : w.alloc (.cells #[.int .i64 B, .int .i64 I, .int .i64 Nx, .slice A n c] 24) = W0
  have X0 : Aside (DBox w W0 B I Nx (.slice A n c)) := by rw [← hW0]; exact dbox_start w B I Nx (.slice A n c)
  clear hW0
  go_cut [25] (fun v25 wc => ∃ q : Bool, v25 = .bool q ∧ Aside (q = false → name.size ≤ 40 ∧ 0 ≤ u ∧ IsTo l n ∧ 1 ∈ inos l) ∧ Aside (DBox w wc B I Nx (.slice A n c)))
  case first =>
    obtain ⟨d0, d1, d2, d3, -, wl⟩ := X0.out
    have H6 : Aside _ := h6
    by_cases p1 : 40 < (name.size : Int)
    · have b1 : decide (40 < (name.size : Int)) = true := decide_eq_true p1
      have b2 : decide (40 < name.size) = true := decide_eq_true (by omega)
      clear p1 h6
      go_wp2_with (go_at_call 5; refine (h5 _ _ _ (X0.out.b.alloc (Nat.le_of_lt wl) _) (by rw [World.cell?_alloc_at _ _ _ _ rfl]; rfl)).mono ?_; rintro e w1 ⟨q, rfl, hb1⟩; (have X1 : Aside (DBox w w1 B I Nx (.slice A n c)) := (X0.out.past _).on hb1); clear hb1 d0 d1 d2 d3; (obtain ⟨d0, d1, d2, d3, -, -⟩ := X1.out); cases q)
      all_goals go_meet
      all_goals exact ⟨true, rfl, fun h => (by cases h), X1⟩
    · have b1 : decide (40 < (name.size : Int)) = false := decide_eq_false p1
      have b2 : decide (40 < name.size) = false := decide_eq_false (by omega)
      have P1 : Aside (name.size ≤ 40) := by show name.size ≤ 40; omega
      clear p1
      by_cases p2 : u < 0
      · have b3 : decide (u < 0) = true := decide_eq_true p2
        clear p2 h6
        go_wp2_with (go_at_call 5; refine (h5 _ _ _ (X0.out.b.alloc (Nat.le_of_lt wl) _) (by rw [World.cell?_alloc_at _ _ _ _ rfl]; rfl)).mono ?_; rintro e w1 ⟨q, rfl, hb1⟩; (have X1 : Aside (DBox w w1 B I Nx (.slice A n c)) := (X0.out.past _).on hb1); clear hb1 d0 d1 d2 d3; (obtain ⟨d0, d1, d2, d3, -, -⟩ := X1.out); cases q)
        all_goals go_meet
        all_goals exact ⟨true, rfl, fun h => (by cases h), X1⟩
      · have b3 : decide (u < 0) = false := decide_eq_false p2
        have P2 : Aside (0 ≤ u) := Int.not_lt.1 p2
        clear p2
        go_wp2_with (first
          | (go_at_call 5; go_must (refine (h5 _ _ _ (X0.out.b.alloc (Nat.le_of_lt wl) _) (by rw [World.cell?_alloc_at _ _ _ _ rfl]; rfl)).mono ?_; rintro e w1 ⟨q, rfl, hb1⟩; (have X1 : Aside (DBox w w1 B I Nx (.slice A n c)) := (X0.out.past _).on hb1); clear hb1 d0 d1 d2 d3; (obtain ⟨d0, d1, d2, d3, -, -⟩ := X1.out); cases q))
          | (go_at_call 6; go_must (refine (h6 _ X1.out.b).mono ?_; rintro e w2 ⟨q2, rfl, hq2, hb2⟩; (have X2 : Aside (DBox w w2 B I Nx (.slice A n c)) := X1.out.on hb2); clear hb2 d0 d1 d2 d3; (obtain ⟨d0, d1, d2, d3, -, -⟩ := X2.out))))
        all_goals go_meet
        all_goals first
          | exact ⟨!q2, rfl, fun h => ⟨P1.out, P2.out, (hq2.out (by simpa using h)).1, (hq2.out (by simpa using h)).2⟩, X2⟩
          | exact ⟨true, rfl, fun h => (by cases h), X1⟩
  case rest =>
    obtain ⟨q, rfl, hq, X1⟩ := hcut
    clear X0 h5 h6
    cases q with
    | true =>
      go_wp2
      go_ret
      exact ⟨rfl, X1.out.b⟩
    | false =>
      obtain ⟨g1, g2, g3, g4⟩ := hq.out (by trivial)
      obtain ⟨wn, hN, hv, cv, hall⟩ := HG.out g1 g2 g3 g4
      clear g1 g2 g3 g4 hq HG
      have f7 := fun W hW => (hall W hW).1
      have f8 := fun W hW => (hall W hW).2.1
      have f9 := fun W hW => (hall W hW).2.2.1
      have f10 := fun W hW => (hall W hW).2.2.2.1
      have f11 := fun W hW => (hall W hW).2.2.2.2.1
      have f12 := fun W hW => (hall W hW).2.2.2.2.2.1
      have f13 := fun W hW => (hall W hW).2.2.2.2.2.2.1
      have f14 := fun W hW => (hall W hW).2.2.2.2.2.2.2.1
      have f15 := fun W hW => (hall W hW).2.2.2.2.2.2.2.2
      clear hall
      have HS : Below w.heap.size w wc ∧ w.heap.size + 1 ≤ wc.heap.size ∧ wc.cell? ⟨w.heap.size, 0, none⟩ = some (.int .i64 B) ∧ wc.cell? ⟨w.heap.size, 1, none⟩ = some (.int .i64 I) ∧ wc.cell? ⟨w.heap.size, 2, none⟩ = some (.int .i64 Nx) ∧ wc.cell? ⟨w.heap.size, 3, none⟩ = some (.slice A n c) := ⟨X1.out.b, X1.out.lt, X1.out.d0, X1.out.d1, X1.out.d2, X1.out.d3⟩
      clear X1
      go_upto_region 3 with fail
      go_region_held3 (fun w' => Below w.heap.size w w' ∧ w.heap.size + 1 ≤ w'.heap.size ∧ w'.cell? ⟨w.heap.size, 0, none⟩ = some (.int .i64 B) ∧ w'.cell? ⟨w.heap.size, 1, none⟩ = some (.int .i64 I) ∧ w'.cell? ⟨w.heap.size, 2, none⟩ = some (.int .i64 Nx) ∧ w'.cell? ⟨w.heap.size, 3, none⟩ = some (.slice A n c)) (first | (exact keepBox (Below.refl _ _).drew HS) | (exact keepBox hbl (by assumption)) | go_keep)
        (first
          | (go_at_call 7; go_must (refine (f7 _ ?_).mono ?_; exact And.left (by assumption); rintro e w' ⟨rfl, hbl⟩))
          | (go_at_call 8; go_must (refine (f8 _ ?_).mono ?_; exact And.left (by assumption); rintro e w' ⟨rfl, hbl⟩))
          | (go_at_call 9; go_must (refine (f9 _ ?_).mono ?_; exact And.left (by assumption); rintro e w' ⟨rfl, hbl⟩))
          | (go_at_call 10; go_must (refine (f10 _ ?_).mono ?_; exact And.left (by assumption); rintro e w' ⟨rfl, hbl⟩))
          | (go_at_call 11; go_must (refine (f11 _ ?_).mono ?_; exact And.left (by assumption); rintro e w' ⟨rfl, hbl⟩))
          | (go_at_call 12; go_must (refine (f12 _ ?_).mono ?_; exact And.left (by assumption); rintro e w' ⟨rfl, hbl⟩))
          | (go_at_call 13; go_must (refine (f13 _ ?_).mono ?_; exact And.left (by assumption); rintro e w' ⟨rfl, hbl⟩))
          | (go_at_call 14; go_must (refine (f14 _ ?_).mono ?_; exact And.left (by assumption); rintro e w' ⟨rfl, hbl⟩))
          | (go_at_call 15; go_must (refine (f15 _ ?_).mono ?_; exact And.left (by assumption); rintro e w' ⟨rfl, hbl⟩)))
      go_wp2
      go_ret
      exact ⟨rfl, And.left (by assumption)⟩
end Go.Proofs.YtaeakifdamlnlaaDoor
set_option linter.unusedVariables false
set_option linter.unusedSimpArgs false
set_option maxRecDepth 100000
namespace Go.Proofs.YtaeakifdamlnlaaDoor
open Go.RowKit Go.Lib Go.Proofs.YtaeakifdamlnlaaDoorW.PrintWords Go.Proofs.YtaeakifdamlnlaaDoorW.PrintMore PMarkTells
open Go.ChangeShapes Go.WideShapes Go.ChangeAt
/-! ## what a disk that is handed in reads as -/
section
variable {H : Type} {enc : TypeId × Value → H} {W : World}
/-- every slice and string that is met fits into memory -/
def Fits (t : TypeId) (d : DataW H) : Prop := ∀ n ∈ d.weights Tryd.prog t, n ≤ reachBytes
theorem weightsAll_mem {e : TypeId} : ∀ {l : List (DataW H)} {d : DataW H}, d ∈ l → ∀ n ∈ d.weights Tryd.prog e, n ∈ DataW.weightsAll Tryd.prog e l
  | x :: l, d, hd, n, hn => by
    rw [DataW.weightsAll, List.mem_append]
    rcases List.mem_cons.1 hd with rfl | hd
    · exact .inl hn
    · exact .inr (weightsAll_mem hd n hn)
theorem fits_field {t : TypeId} {fs : Array Field} {l : List (DataW H)} (ht : Tryd.prog.underlying t = some (.struct fs)) (h : Fits t (.agg l)) {j : Nat} {u : TypeId} {d : DataW H} (hu : (fs.toList.map (·.type))[j]? = some u) (hd : l[j]? = some d) : Fits u d :=
  fun n hn => h n (by rw [DataW.weights, ht]; exact DataW.weights_mem_each hu hd n hn)
abbrev Tr (n : Nat) (t : TypeId) (cs : List Value) (y : DataW H × List MemPlace) : Prop := DataW.trod (H := H) enc Tryd.prog W 0 (fun _ => true) true n t cs = some y
/-- a slice of rows, each of which reads as one of the kind -/
theorem openRow {α : Type} {d : Kd α} {good : α → Prop} {t e : TypeId} (ht : Tryd.prog.underlying t = some (.slice e)) (hsz : Tryd.prog.cellsOf e = d.sz)
    (each : ∀ (n : Nat) (cs : List Value) (y : DataW H × List MemPlace), Tr (enc := enc) (W := W) n e cs y → Fits e y.1 → ∃ p, d.K W p cs ∧ good p)
    {n : Nat} {cs : List Value} {y : DataW H × List MemPlace} (h : Tr (enc := enc) (W := W) n t cs y) (hf : Fits t y.1) :
    ∃ (A : Option Addr) (xs : List α) (c : Nat), cs = [.slice A xs.length c] ∧ xs.length ≤ c ∧ Kd.C d W A xs.length xs ∧ (∀ p ∈ xs, good p) ∧ xs.length * Tryd.prog.bytesOf e ≤ reachBytes := by
  rcases Go.Deep.open_slice ht h with ⟨rfl, rfl⟩ | ⟨a, len, cap, m, n', D, Pl, rfl, hb, hl, hm, hmm, rfl, hx⟩
  · exact ⟨none, [], 0, rfl, Nat.le_refl _, ⟨rfl, Nat.zero_le _, fun h0 => absurd h0 (Nat.lt_irrefl _)⟩, (fun p hp => nomatch hp), by rw [List.length_nil, Nat.zero_mul]; exact Nat.zero_le _⟩
  · have hlm : len ≤ m := by rw [hmm]; simpa using hl
    have hw : ∀ i, i < len → Fits e (D i) := fun i hi n hn => hf n (by
      rw [DataW.weights, ht]
      refine List.mem_cons_of_mem _ (List.mem_append_left _ (weightsAll_mem (List.mem_map.2 ⟨i, List.mem_range.2 hi, rfl⟩) n hn)))
    have hsize : len * Tryd.prog.bytesOf e ≤ reachBytes := by
      have := hf ((len + (m - len)) * Tryd.prog.bytesOf e) (by rw [DataW.weights, ht]; simp)
      exact Nat.le_trans (Nat.mul_le_mul_right _ (by omega)) this
    have key : ∀ i, ∃ p : Option α, i < len → ∃ q, p = some q ∧ (∃ c, W.cells? 0 (a.add (i * Tryd.prog.cellsOf e)) (Tryd.prog.cellsOf e) = some c ∧ d.K W q c) ∧ good q := by
      intro i
      by_cases hi : i < len
      · obtain ⟨c, h1, h2⟩ := hx i (by omega)
        obtain ⟨q, h3, h4⟩ := each _ _ _ h2 (hw i hi)
        exact ⟨some q, fun _ => ⟨q, rfl, ⟨c, h1, h3⟩, h4⟩⟩
      · exact ⟨none, fun h => absurd h hi⟩
    have hP := fun i => Classical.choose_spec (key i)
    generalize hPP : (fun i => Classical.choose (key i)) = P at hP
    have hP : ∀ i, i < len → ∃ q, P i = some q ∧ (∃ c, W.cells? 0 (a.add (i * Tryd.prog.cellsOf e)) (Tryd.prog.cellsOf e) = some c ∧ d.K W q c) ∧ good q := fun i hi => by
      rw [← hPP]; exact Classical.choose_spec (key i) hi
    have all : ∀ k, k ≤ len → ∃ xs : List α, xs.length = k ∧ ∀ j q, xs[j]? = some q → (∃ c, W.cells? 0 (a.add (j * Tryd.prog.cellsOf e)) (Tryd.prog.cellsOf e) = some c ∧ d.K W q c) ∧ good q := by
      intro k
      induction k with
      | zero => intro _; exact ⟨[], rfl, fun j q hq => by simp at hq⟩
      | succ k ih =>
        intro hk
        obtain ⟨xs, h1, h2⟩ := ih (by omega)
        obtain ⟨q, -, h3⟩ := hP k (by omega)
        refine ⟨xs ++ [q], by simp [h1], fun j r hr => ?_⟩
        rcases Nat.lt_or_ge j xs.length with hj | hj
        · rw [List.getElem?_append_left hj] at hr
          exact h2 j r hr
        · rw [List.getElem?_append_right hj] at hr
          have hj0 : j - xs.length = 0 := by
            rcases Nat.eq_zero_or_pos (j - xs.length) with h | h
            · exact h
            · rw [List.getElem?_eq_none (by show 1 ≤ _; omega)] at hr; cases hr
          rw [hj0] at hr
          obtain rfl : q = r := by simpa using hr
          obtain rfl : j = k := by omega
          exact h3
    obtain ⟨xs, h1, h2⟩ := all len (Nat.le_refl _)
    subst h1
    have hmx : maxLen ≤ 9223372036854775807 := by decide
    refine ⟨some a, xs, cap, rfl, hl, ⟨rfl, by omega, fun _ => ⟨a, rfl, fun j p hp => ?_⟩⟩, fun p hp => ?_, hsize⟩
    · obtain ⟨⟨c, g1, g2⟩, -⟩ := h2 j p hp
      obtain ⟨-, g3, g4⟩ := World.cells?_some g1
      refine ⟨c, g3.trans hsz, g2, fun i u hu => ?_⟩
      have hi : i < c.length := (List.getElem?_eq_some_iff.1 hu).1
      have := g4 i (by omega)
      rw [Go.Deep.add_add, hsz] at this
      exact this.trans hu
    · obtain ⟨j, hj, rfl⟩ := List.getElem_of_mem hp
      exact (h2 j _ (List.getElem?_eq_getElem hj)).2
theorem b5 : Tryd.prog.bytesOf 5 = 1 := by kernel_rfl
theorem b69 : Tryd.prog.bytesOf 69 = 32 := by kernel_rfl
theorem b62 : Tryd.prog.bytesOf 62 = 24 := by kernel_rfl
theorem b42 : Tryd.prog.bytesOf 42 = 104 := by kernel_rfl
theorem q2 : Tryd.prog.cellsOf 2 = 1 := by kernel_rfl
theorem q3 : Tryd.prog.cellsOf 3 = 1 := by kernel_rfl
theorem q5 : Tryd.prog.cellsOf 5 = 1 := by kernel_rfl
theorem q9 : Tryd.prog.cellsOf 9 = 1 := by kernel_rfl
theorem q37 : Tryd.prog.cellsOf 37 = 1 := by kernel_rfl
theorem q53 : Tryd.prog.cellsOf 53 = 1 := by kernel_rfl
theorem q40 : Tryd.prog.cellsOf 40 = 1 := by kernel_rfl
theorem q39 : Tryd.prog.cellsOf 39 = 2 := by kernel_rfl
theorem q62 : Tryd.prog.cellsOf 62 = 2 := by kernel_rfl
theorem q69 : Tryd.prog.cellsOf 69 = 2 := by kernel_rfl
theorem q42 : Tryd.prog.cellsOf 42 = 8 := by kernel_rfl
theorem q24 : Tryd.prog.cellsOf 24 = 4 := by kernel_rfl
theorem reach_is : reachBytes = 140737488351232 := rfl
theorem list2 {α : Type} {l : List α} (h : l.length = 2) : ∃ a b, l = [a, b] := by
  match l, h with
  | [a, b], _ => exact ⟨a, b, rfl⟩
theorem list8 {α : Type} {l : List α} (h : l.length = 8) : ∃ a b c d e f g i, l = [a, b, c, d, e, f, g, i] := by
  match l, h with
  | [a, b, c, d, e, f, g, i], _ => exact ⟨a, b, c, d, e, f, g, i, rfl⟩
theorem list7 {α : Type} {l : List α} (h : l.length = 7) : ∃ a b c d e f g, l = [a, b, c, d, e, f, g] := by
  match l, h with
  | [a, b, c, d, e, f, g], _ => exact ⟨a, b, c, d, e, f, g, rfl⟩
theorem openByte (n : Nat) (cs : List Value) (y : DataW H × List MemPlace) (h : Tr (enc := enc) (W := W) n 5 cs y) (hf : Fits 5 y.1) : ∃ p, (Kd.int .u8).K W p cs ∧ True := by
  obtain ⟨z, rfl, -, -⟩ := DataW.trod_int Tryd.underlying5 h
  exact ⟨z, rfl, trivial⟩
theorem openBlock (n : Nat) (cs : List Value) (y : DataW H × List MemPlace) (h : Tr (enc := enc) (W := W) n 69 cs y) (hf : Fits 69 y.1) : ∃ p, k69.K W p cs ∧ p.f1.length < 140737488355328 := by
  obtain ⟨y0, y1, m, rfl, hl, h0, h1⟩ := trod_struct2 Tryd.underlying69 h
  have f1 := fits_field Tryd.underlying69 hf (j := 1) rfl rfl
  obtain ⟨c0, c1, rfl⟩ := list2 (hl.trans q69)
  simp only [q3, q53, List.drop, List.take] at h0 h1
  obtain ⟨z, hz, -, -⟩ := DataW.trod_int Tryd.underlying3 h0
  obtain rfl : c0 = .int .i64 z := by simpa using hz
  obtain ⟨A, xs, c, hc, hlc, hC, -, hb⟩ := openRow Tryd.underlying53 (d := Kd.int .u8) (good := fun _ => True) (by rw [q5]; rfl) openByte h1 f1
  obtain rfl : c1 = .slice A xs.length c := by simpa using hc
  rw [b5, reach_is] at hb
  exact ⟨⟨z, xs⟩, k69_mk W ⟨z, xs⟩ hlc hC, by show xs.length < _; omega⟩
theorem openName (n : Nat) (cs : List Value) (y : DataW H × List MemPlace) (h : Tr (enc := enc) (W := W) n 62 cs y) (hf : Fits 62 y.1) : ∃ p, k62.K W p cs ∧ p.f0.size ≤ 140737488355328 := by
  obtain ⟨y0, y1, m, rfl, hl, h0, h1⟩ := trod_struct2 Tryd.underlying62 h
  have f0 := fits_field Tryd.underlying62 hf (j := 0) rfl rfl
  obtain ⟨c0, c1, rfl⟩ := list2 (hl.trans q62)
  simp only [q9, q2, List.drop, List.take] at h0 h1
  obtain ⟨s, hs, rfl, -⟩ := DataW.trod_string Tryd.underlying9 h0
  obtain ⟨z, hz, -, -⟩ := DataW.trod_int Tryd.underlying2 h1
  obtain rfl : c0 = .string s := by simpa using hs
  obtain rfl : c1 = .int .i64 z := by simpa using hz
  have := f0 s.data.toList.length (by simp [DataW.weights])
  rw [reach_is] at this
  have hsz : s.size = s.data.toList.length := by rw [Array.length_toList]; rfl
  exact ⟨⟨s, z⟩, k62_mk W ⟨s, z⟩, by show s.size ≤ _; omega⟩
theorem openFile (n : Nat) (cs : List Value) (y : DataW H × List MemPlace) (h : Tr (enc := enc) (W := W) n 39 cs y) (hf : Fits 39 y.1) :
    ∃ (x : S39) (A : Option Addr) (c : Nat), cs = [.int .i64 x.f0, .slice A x.f1.length c] ∧ x.f1.length ≤ c ∧ Kd.C k69 W A x.f1.length x.f1 ∧ FileOk x.f1 ∧ x.f1.length ≤ 4398046511104 := by
  obtain ⟨y0, y1, m, rfl, hl, h0, h1⟩ := trod_struct2 Tryd.underlying39 h
  have f1 := fits_field Tryd.underlying39 hf (j := 1) rfl rfl
  obtain ⟨c0, c1, rfl⟩ := list2 (hl.trans q39)
  simp only [q3, q37, List.drop, List.take] at h0 h1
  obtain ⟨z, hz, -, -⟩ := DataW.trod_int Tryd.underlying3 h0
  obtain rfl : c0 = .int .i64 z := by simpa using hz
  obtain ⟨A, xs, c, hc, hlc, hC, hg, hb⟩ := openRow Tryd.underlying37 (d := k69) (good := fun p => p.f1.length < 140737488355328) (by rw [q69]; rfl) openBlock h1 f1
  obtain rfl : c1 = .slice A xs.length c := by simpa using hc
  rw [b69, reach_is] at hb
  exact ⟨⟨z, xs⟩, A, c, rfl, hlc, hC, ⟨by show xs.length ≤ _; omega, hg⟩, by show xs.length ≤ _; omega⟩
/-- a row of the disk's that memory can hold -/
structure NodeFits (y : S42) : Prop where
  ok : NodeOk y
  bl : y.f4.f1.length ≤ 4398046511104
  ts : y.f5.size ≤ 9223372036854775807
  ns : ∀ z ∈ y.f6, z.f0.size ≤ 140737488355328
theorem openNode (n : Nat) (cs : List Value) (y : DataW H × List MemPlace) (h : Tr (enc := enc) (W := W) n 42 cs y) (hf : Fits 42 y.1) : ∃ p, k42.K W p cs ∧ NodeFits p := by
  obtain ⟨ys, m, -, rfl, hl, hlen, hi⟩ := DataW.trod_struct Tryd.underlying42 h
  have hlen : ys.length = 7 := hlen
  obtain ⟨y0, y1, y2, y3, y4, y5, y6, rfl⟩ := list7 hlen
  obtain ⟨c0, c1, c2, c3, c4, c5, c6, c7, rfl⟩ := list8 (hl.trans q42)
  have f4 := fits_field Tryd.underlying42 hf (j := 4) rfl rfl
  have f5 := fits_field Tryd.underlying42 hf (j := 5) rfl rfl
  have f6 := fits_field Tryd.underlying42 hf (j := 6) rfl rfl
  have g0 := hi 0 { name := "Ino", type := 2, offset := 0, embedded := false, tag := "", pkgPath := "", byteOffset := 0 } rfl
  have g1 := hi 1 { name := "Kind", type := 3, offset := 1, embedded := false, tag := "", pkgPath := "", byteOffset := 8 } rfl
  have g2 := hi 2 { name := "Mode", type := 3, offset := 2, embedded := false, tag := "", pkgPath := "", byteOffset := 16 } rfl
  have g3 := hi 3 { name := "Links", type := 3, offset := 3, embedded := false, tag := "", pkgPath := "", byteOffset := 24 } rfl
  have g4 := hi 4 { name := "File", type := 39, offset := 4, embedded := false, tag := "", pkgPath := "", byteOffset := 32 } rfl
  have g5 := hi 5 { name := "Target", type := 9, offset := 6, embedded := false, tag := "", pkgPath := "", byteOffset := 64 } rfl
  have g6 := hi 6 { name := "Names", type := 40, offset := 7, embedded := false, tag := "", pkgPath := "", byteOffset := 80 } rfl
  simp only [q2, q3, q39, q9, q40, List.drop, List.take] at g0 g1 g2 g3 g4 g5 g6
  obtain ⟨z0, e0, -, -⟩ := DataW.trod_int Tryd.underlying2 g0
  obtain ⟨z1, e1, -, -⟩ := DataW.trod_int Tryd.underlying3 g1
  obtain ⟨z2, e2, -, -⟩ := DataW.trod_int Tryd.underlying3 g2
  obtain ⟨z3, e3, -, -⟩ := DataW.trod_int Tryd.underlying3 g3
  obtain rfl : c0 = .int .i64 z0 := by simpa using e0
  obtain rfl : c1 = .int .i64 z1 := by simpa using e1
  obtain rfl : c2 = .int .i64 z2 := by simpa using e2
  obtain rfl : c3 = .int .i64 z3 := by simpa using e3
  obtain ⟨x, A, c, e4, hlc, hC, hok, hbl⟩ := openFile _ _ _ g4 f4
  obtain ⟨rfl, rfl⟩ : c4 = .int .i64 x.f0 ∧ c5 = .slice A x.f1.length c := by simpa using e4
  obtain ⟨s, e5, rfl, -⟩ := DataW.trod_string Tryd.underlying9 g5
  obtain rfl : c6 = .string s := by simpa using e5
  obtain ⟨A', xs, c', e6, hlc', hC', hg, hb⟩ := openRow Tryd.underlying40 (d := k62) (good := fun p => p.f0.size ≤ 140737488355328) (by rw [q62]; rfl) openName g6 f6
  obtain rfl : c7 = .slice A' xs.length c' := by simpa using e6
  rw [b62, reach_is] at hb
  have := f5 s.data.toList.length (by simp [DataW.weights])
  rw [reach_is] at this
  have hsz : s.size = s.data.toList.length := by rw [Array.length_toList]; rfl
  exact ⟨⟨z0, z1, z2, z3, x, s, xs⟩, k42_mk W ⟨z0, z1, z2, z3, x, s, xs⟩ hlc hC hlc' hC', ⟨⟨hok, by show xs.length < _; omega⟩, hbl, by show s.size ≤ _; omega, hg⟩⟩
/-- what a disk reads as -/
theorem openDisk {base : Nat} {v : Value} {d : DataW H} {p : List MemPlace} (hval : Value.okWide Tryd.prog W .any base 24 v) (h : DataW.Trod enc Tryd.prog W 0 (fun _ => true) true 24 v d p) (hf : Fits 24 d) :
    ∃ (B I Nx : Int) (A : Option Addr) (l : List S42) (c : Nat), v = .agg #[.int .i64 B, .int .i64 I, .int .i64 Nx, .slice A l.length c] ∧ l.length ≤ c ∧ Kd.C k42 W A l.length l ∧ Sizes l := by
  obtain ⟨v0, v1, v2, v3, y0, y1, y2, y3, n, rfl, rfl, -, h0, h1, h2, h3⟩ := Go.Joins.open_agg4 Tryd.underlying24 (by kernel_rfl) q24 hval h
  have f3 := fits_field Tryd.underlying24 hf (j := 3) rfl rfl
  obtain ⟨z0, e0, -, -⟩ := DataW.trod_int Tryd.underlying3 h0
  obtain ⟨z1, e1, -, -⟩ := DataW.trod_int Tryd.underlying3 h1
  obtain ⟨z2, e2, -, -⟩ := DataW.trod_int Tryd.underlying2 h2
  obtain rfl : v0 = .int .i64 z0 := by simpa using e0
  obtain rfl : v1 = .int .i64 z1 := by simpa using e1
  obtain rfl : v2 = .int .i64 z2 := by simpa using e2
  obtain ⟨A, xs, c, e3, hlc, hC, hg, hb⟩ := openRow Tryd.underlying22 (d := k42) (good := NodeFits) (by rw [q42]; rfl) openNode h3 f3
  obtain rfl : v3 = .slice A xs.length c := by simpa using e3
  rw [b42, reach_is] at hb
  exact ⟨z0, z1, z2, A, xs, c, rfl, hlc, hC, ⟨by omega, fun y hy => (hg y hy).ok, fun y hy => (hg y hy).bl, fun y hy => (hg y hy).ts, fun y hy => (hg y hy).ns⟩⟩
end
end Go.Proofs.YtaeakifdamlnlaaDoor
