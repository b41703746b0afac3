/- The disk's own functions that the law calls (find, Get, Has and their like), walked. Conditions: those each theorem states. -/
import Derived.Test.YtaeakifdamlnlaaDoorMkA
import Derived.Lib.SlFresh
import Derived.Lib.SliceRun
import Derived.OwnWalk
import Derived.Deep.Upon
import Derived.Deep.RegionHeld3
import Derived.Deep.DeepMust
set_option linter.unusedVariables false
set_option linter.unusedSimpArgs false
set_option maxRecDepth 100000
namespace Go.Proofs.YtaeakifdamlnlaaDoor
open Go.RowKit
/-- a node, as its cells tell it -/
structure Nd where
  i : Int
  k : Int
  m : Int
  l : Int
  s : Int
  bA : Option Addr
  bn : Nat
  bc : Nat
  t : ByteArray
  nA : Option Addr
  nn : Nat
  nc : Nat
def Nd.val (d : Nd) : Value := .agg #[.int .i64 d.i, .int .i64 d.k, .int .i64 d.m, .int .i64 d.l, .int .i64 d.s, .slice d.bA d.bn d.bc, .string d.t, .slice d.nA d.nn d.nc]
def NodesAt (w : World) (b o n : Nat) (nd : Nat → Nd) : Prop :=
  ∀ j, j < n → w.cell? ⟨b, o + j * 8, none⟩ = some (.int .i64 (nd j).i) ∧ w.cell? ⟨b, o + j * 8 + 1, none⟩ = some (.int .i64 (nd j).k) ∧ w.cell? ⟨b, o + j * 8 + 2, none⟩ = some (.int .i64 (nd j).m) ∧ w.cell? ⟨b, o + j * 8 + 3, none⟩ = some (.int .i64 (nd j).l) ∧
    w.cell? ⟨b, o + j * 8 + 4, none⟩ = some (.int .i64 (nd j).s) ∧ w.cell? ⟨b, o + j * 8 + 5, none⟩ = some (.slice (nd j).bA (nd j).bn (nd j).bc) ∧ w.cell? ⟨b, o + j * 8 + 6, none⟩ = some (.string (nd j).t) ∧ w.cell? ⟨b, o + j * 8 + 7, none⟩ = some (.slice (nd j).nA (nd j).nn (nd j).nc)
theorem NodesAt.on {w w' : World} {b o n : Nat} {nd : Nat → Nd} (h : NodesAt w b o n nd) {B : Nat} (hb : Below B w w') (hB : b < B) : NodesAt w' b o n nd :=
  fun j hj => by
    obtain ⟨c0, c1, c2, c3, c4, c5, c6, c7⟩ := h j hj
    exact ⟨(hb.cell hB).trans c0, (hb.cell hB).trans c1, (hb.cell hB).trans c2, (hb.cell hB).trans c3, (hb.cell hB).trans c4, (hb.cell hB).trans c5, (hb.cell hB).trans c6, (hb.cell hB).trans c7⟩
/-- what cmp.Compare tells of two numbers -/
def icmp (x y : Int) : Int := if x < y then -1 else if x = y then 0 else 1
set_option maxHeartbeats 2000000 in
theorem cmpInt (x y : Int) (w : World) : Calls Tryd.prog 51 #[.int .i64 x, .int .i64 y] w fun e w' => e = .returned (.int .i64 (icmp x y)) ∧ w' = w := by
  have hd : ∃ d, icmp x y = d ∧ ((x < y ∧ d = -1) ∨ (¬ x < y ∧ ¬ y < x ∧ d = 0) ∨ (¬ x < y ∧ y < x ∧ d = 1)) := by
    refine ⟨_, rfl, ?_⟩
    unfold icmp
    by_cases h : x < y
    · exact .inl ⟨h, if_pos h⟩
    · rw [if_neg h]
      by_cases e : x = y
      · exact .inr (.inl ⟨h, by omega, if_pos e⟩)
      · exact .inr (.inr ⟨h, by omega, if_neg e⟩)
  obtain ⟨d, hd, hc⟩ := hd
  rw [hd]
  clear hd
  rcases hc with ⟨h1, rfl⟩ | ⟨h1, h2, rfl⟩ | ⟨h1, h2, rfl⟩
  all_goals
    go_enter Tryd.func51, Tryd.ntmps51
    go_wp2
    go_ret
    exact ⟨rfl, rfl⟩
theorem closN (d : Nd) (y : Int) (w : World) : Calls Tryd.prog 50 #[d.val, .int .i64 y] w fun e w' => e = .returned (.int .i64 (icmp d.i y)) ∧ Below w.heap.size w w' := by
  have hc : ∀ W, Calls Tryd.prog 51 #[.int .i64 d.i, .int .i64 y] W fun e w' => e = .returned (.int .i64 (icmp d.i y)) ∧ w' = W := fun W => cmpInt d.i y W
  unfold Nd.val
  generalize icmp d.i y = r at hc ⊢
  go_enter Tryd.func50, Tryd.ntmps50
  go_wp2_with (go_at_call 51; refine (hc _).mono ?_; rintro e w' ⟨rfl, rfl⟩)
  go_ret
  exact ⟨rfl, (Below.refl _ _).alloc (Nat.le_refl _) _⟩
set_option maxHeartbeats 4000000 in
theorem bsfN (b o n cap : Nat) (nd : Nat → Nd) (x : Int) (w : World) (hn : n < 4611686018427387904) (hb : b < w.heap.size) (hN : NodesAt w b o n nd)
    (hmono : ∀ s t, s ≤ t → t < n → icmp (nd t).i x < 0 → icmp (nd s).i x < 0) :
    Calls Tryd.prog 49 #[.slice (some ⟨b, o, none⟩) n cap, .int .i64 x, .func (.func 50) #[] #[]] w fun e w' =>
      ∃ i, i ≤ n ∧ (∀ t, t < i → icmp (nd t).i x < 0) ∧ (∀ t, i ≤ t → t < n → 0 ≤ icmp (nd t).i x) ∧ e = .returned (.tuple #[.int .i64 (i : Nat), .bool (decide (i < n) && decide (icmp (nd i).i x = 0))]) ∧ Below w.heap.size w w' := by
  have HN : Aside (NodesAt w b o n nd) := hN
  have M : Aside _ := hmono
  clear hN hmono
  have hc : ∀ (W : World) (d : Nd), Calls Tryd.prog 50 #[.agg #[.int .i64 d.i, .int .i64 d.k, .int .i64 d.m, .int .i64 d.l, .int .i64 d.s, .slice d.bA d.bn d.bc, .string d.t, .slice d.nA d.nn d.nc], .int .i64 x] W fun e w' => e = .returned (.int .i64 (icmp d.i x)) ∧ Below W.heap.size W w' := fun W d => closN d x W
  go_enter Tryd.func49, Tryd.ntmps49
  go_wp2
  go_loopg [9, 10] n (fun kx s9 s10 wr => ∃ lo hi : Nat, s9 = .int .i64 lo ∧ s10 = .int .i64 hi ∧ lo ≤ hi ∧ hi ≤ n ∧ hi - lo ≤ kx ∧ Aside (Below w.heap.size w wr) ∧
    Aside ((∀ t, t < lo → icmp (nd t).i x < 0) ∧ (∀ t, hi ≤ t → t < n → 0 ≤ icmp (nd t).i x)))
  case atStart => exact ⟨0, n, rfl, rfl, Nat.zero_le _, Nat.le_refl _, by omega, Below.refl _ _, (⟨fun t ht => absurd ht (Nat.not_lt_zero _), fun t h1 h2 => by omega⟩ : (∀ t, t < 0 → icmp (nd t).i x < 0) ∧ (∀ t, n ≤ t → t < n → 0 ≤ icmp (nd t).i x))⟩
  case round =>
    obtain ⟨lo, hi, rfl, rfl, hlh, hin, hg, S1, I⟩ := hrel
    by_cases hlt : lo < hi
    · have cc := HN.out.on S1.out hb ((lo + hi) / 2) (by omega)
      generalize hy : nd ((lo + hi) / 2) = y at cc
      have Y : Aside (nd ((lo + hi) / 2) = y) := hy
      clear hy
      obtain ⟨c0, c1, c2, c3, c4, c5, c6, c7⟩ := cc
      have hcc := hc wr y
      clear hc
      obtain ⟨d, hd⟩ : ∃ d, icmp y.i x = d := ⟨_, rfl⟩
      rw [hd] at hcc
      have D : Aside (icmp y.i x = d) := hd
      clear hd
      by_cases hyx : d < 0
      · go_wp2_with (go_at_call 50; refine hcc.mono ?_; rintro e w' ⟨rfl, hbl⟩)
        go_roundg (hi - ((lo + hi) / 2 + 1))
        case measure => omega
        case rel =>
          have I2 : Aside ((∀ t, t < (lo + hi) / 2 + 1 → icmp (nd t).i x < 0) ∧ (∀ t, hi ≤ t → t < n → 0 ≤ icmp (nd t).i x)) := ⟨fun t ht => M.out t ((lo + hi) / 2) (by omega) (by omega) (by rw [Y.out, D.out]; exact hyx), I.out.2⟩
          exact ⟨(lo + hi) / 2 + 1, hi, by rw [show ((lo : Int) + (hi : Int)) / 2 + 1 = (((lo + hi) / 2 + 1 : Nat) : Int) by omega], rfl, by omega, hin, Nat.le_refl _, S1.out.trans (hbl.mono S1.out.size), I2⟩
      · go_wp2_with (go_at_call 50; refine hcc.mono ?_; rintro e w' ⟨rfl, hbl⟩)
        go_roundg ((lo + hi) / 2 - lo)
        case measure => omega
        case rel =>
          have I2 : Aside ((∀ t, t < lo → icmp (nd t).i x < 0) ∧ (∀ t, (lo + hi) / 2 ≤ t → t < n → 0 ≤ icmp (nd t).i x)) := ⟨I.out.1, fun t ht htn => Int.not_lt.1 fun h => by have := M.out ((lo + hi) / 2) t ht htn h; rw [Y.out, D.out] at this; omega⟩
          exact ⟨lo, (lo + hi) / 2, rfl, by rw [show ((lo : Int) + (hi : Int)) / 2 = (((lo + hi) / 2 : Nat) : Int) by omega], by omega, by omega, Nat.le_refl _, S1.out.trans (hbl.mono S1.out.size), I2⟩
    · obtain rfl : hi = lo := by omega
      by_cases hn' : hi < n
      · have cc := HN.out.on S1.out hb hi hn'
        generalize hy : nd hi = y at cc
        have Y : Aside (nd hi = y) := hy
        clear hy
        obtain ⟨c0, c1, c2, c3, c4, c5, c6, c7⟩ := cc
        have hcc := hc wr y
        clear hc
        obtain ⟨d, hd⟩ : ∃ d, icmp y.i x = d := ⟨_, rfl⟩
        rw [hd] at hcc
        have D : Aside (icmp y.i x = d) := hd
        clear hd
        by_cases hyx : d = 0
        · go_wp2_with (go_at_call 50; refine hcc.mono ?_; rintro e w' ⟨rfl, hbl⟩)
          go_ret2
          exact ⟨hi, hin, I.out.1, I.out.2, by rw [Y.out, D.out]; simp [hn', hyx], S1.out.trans (hbl.mono S1.out.size)⟩
        · go_wp2_with (go_at_call 50; refine hcc.mono ?_; rintro e w' ⟨rfl, hbl⟩)
          go_ret2
          exact ⟨hi, hin, I.out.1, I.out.2, by rw [Y.out, D.out]; simp [hn', hyx], S1.out.trans (hbl.mono S1.out.size)⟩
      · clear hc
        go_wp2
        go_ret2
        exact ⟨hi, hin, I.out.1, I.out.2, by simp [hn'], S1.out⟩
end Go.Proofs.YtaeakifdamlnlaaDoor
set_option linter.unusedVariables false
set_option linter.unusedSimpArgs false
set_option maxRecDepth 100000
namespace Go.Proofs.YtaeakifdamlnlaaDoor
open Go.RowKit Go.Lib
/-- cells of a row, one behind the other -/
def CellsAt (w : World) (b o : Nat) (cs : List Value) : Prop := ∀ j u, cs[j]? = some u → w.cell? ⟨b, o + j, none⟩ = some u
theorem CellsAt.on {w w' : World} {b o : Nat} {cs : List Value} (h : CellsAt w b o cs) {B : Nat} (hb : Below B w w') (hB : b < B) : CellsAt w' b o cs := fun j u hu => (hb.cell hB).trans (h j u hu)
/-- an element's row, copied: what append onto an empty row gives -/
theorem copyOwn {w : World} {t e : TypeId} {z : Value} {size bytes : Nat} (ty : TypeId) (ht : Tryd.prog.underlying t = some (.slice e)) (hi : (Tryd.prog.info? e).map (fun i => (i.zero, i.size, i.bytes)) = some (some z, size, bytes)) (hzs : z.cells.size = size) (hsz : 0 < size)
    (b o n c : Nat) (cs : List Value) (hl : cs.length = n * size) (hc : CellsAt w b o cs) (h1 : ∀ u ∈ cs, u.oneCell' = true) (h63 : n ≤ maxLen) (hby : n * bytes ≤ 140737488355328) (hn : 0 < n) :
    ∃ g cap w', (Builtin.append_ #[t, t] ty #[.slice (some ⟨w.heap.size, 0, none⟩) 0 0, .slice (some ⟨b, o, none⟩) n c]).run Tryd.prog (w.alloc (.cells #[] e)) = .ok (.slice (some ⟨g, 0, none⟩) n cap) w' ∧
      w.heap.size ≤ g ∧ g < w'.heap.size ∧ CellsAt w' g 0 cs ∧ Below w.heap.size w w' ∧ w'.ownsRow w.heap.size e size (.slice (some ⟨g, 0, none⟩) n cap) n cs := by
  obtain ⟨i, hi, hz, hs, hb⟩ := Go.info_parts hi
  have b0 : Below w.heap.size w (w.alloc (.cells #[] e)) := (Below.refl _ _).alloc (Nat.le_refl _) _
  have hblk : b < w.heap.size := by
    cases cs with
    | nil => exfalso; have := Nat.mul_pos hn hsz; rw [← hl] at this; simp at this
    | cons u r => exact World.block_lt_of_cell? _ _ (hc 0 u rfl)
  have hc' := hc.on b0 hblk
  obtain ⟨v', w', g1, g2, g3, g4⟩ := run_append_own (P := Tryd.prog) (w.alloc (.cells #[] e)) w.heap.size t ty e i z size bytes ht hi hz hs hb hzs hsz (.slice (some ⟨w.heap.size, 0, none⟩) 0 0) 0 [] (World.ownsRow_made w #[] 0 (Nat.le_refl _) (by decide) (by simp)) ⟨b, o, none⟩ n c cs hl
    (fun j u hu => by simpa [Addr.add_lit] using hc' j u hu) h1 (by omega) (by rw [Nat.zero_add]; exact hby) b0.size
  have hB : Below w.heap.size w w' := b0.trans ((Below.refl _ _).grown g3 b0.size fun k hk => by simp [Value.ownBlock] at hk; omega)
  rw [Nat.zero_add, List.nil_append] at g2
  rcases g2.2 with ⟨rfl, h0⟩ | ⟨g, cap, cur, rfl, hbg, hg, hnc, hcm, hcs, htake⟩
  · omega
  · refine ⟨g, cap, w', g1, hbg, ?_, fun j u hu => ?_, hB, g2⟩
    · rcases Nat.lt_or_ge g w'.heap.size with h | h
      · exact h
      · rw [Array.getElem?_eq_none h] at hg; cases hg
    · have := g2.cells (g := g) rfl j u hu
      simpa [Addr.add_lit] using this
theorem copyRow {w : World} {t e : TypeId} {z : Value} {size bytes : Nat} (ty : TypeId) (ht : Tryd.prog.underlying t = some (.slice e)) (hi : (Tryd.prog.info? e).map (fun i => (i.zero, i.size, i.bytes)) = some (some z, size, bytes)) (hzs : z.cells.size = size) (hsz : 0 < size)
    (b o n c : Nat) (cs : List Value) (hl : cs.length = n * size) (hc : CellsAt w b o cs) (h1 : ∀ u ∈ cs, u.oneCell' = true) (h63 : n ≤ maxLen) (hby : n * bytes ≤ 140737488355328) (hn : 0 < n) :
    ∃ g cap w', (Builtin.append_ #[t, t] ty #[.slice (some ⟨w.heap.size, 0, none⟩) 0 0, .slice (some ⟨b, o, none⟩) n c]).run Tryd.prog (w.alloc (.cells #[] e)) = .ok (.slice (some ⟨g, 0, none⟩) n cap) w' ∧
      w.heap.size ≤ g ∧ g < w'.heap.size ∧ CellsAt w' g 0 cs ∧ Below w.heap.size w w' := by
  obtain ⟨g, cap, w', h1, h2, h3, h4, h5, _⟩ := copyOwn ty ht hi hzs hsz b o n c cs hl hc h1 h63 hby hn
  exact ⟨g, cap, w', h1, h2, h3, h4, h5⟩
/-- names in memory, or none at all -/
def Nrow (w : World) (A : Option Addr) (n : Nat) (nm : Nat → ByteArray) (ino : Nat → Int) : Prop := n ≤ 5864062014805 ∧ (n = 0 ∨ ∃ b o, A = some ⟨b, o, none⟩ ∧ b < w.heap.size ∧ NameAt w b o n nm ino)
def nameCells (n : Nat) (nm : Nat → ByteArray) (ino : Nat → Int) : List Value := (List.range n).flatMap fun j => [.string (nm j), .int .i64 (ino j)]
theorem nameCells_succ (n : Nat) (nm : Nat → ByteArray) (ino : Nat → Int) : nameCells (n + 1) nm ino = nameCells n nm ino ++ [.string (nm n), .int .i64 (ino n)] := by simp [nameCells, List.range_succ]
theorem nameCells_length (nm : Nat → ByteArray) (ino : Nat → Int) : ∀ n, (nameCells n nm ino).length = n * 2
  | 0 => rfl
  | n + 1 => by rw [nameCells_succ, List.length_append, nameCells_length nm ino n]; simp; omega
theorem nameCells_at {w : World} {b o : Nat} {nm : Nat → ByteArray} {ino : Nat → Int} : ∀ n, NameAt w b o n nm ino ↔ CellsAt w b o (nameCells n nm ino)
  | 0 => ⟨fun _ j u hu => by simp [nameCells] at hu, fun _ j hj => absurd hj (Nat.not_lt_zero _)⟩
  | n + 1 => by
    have ih := nameCells_at (w := w) (b := b) (o := o) (nm := nm) (ino := ino) n
    have hl := nameCells_length nm ino n
    constructor
    · intro h j u hu
      rw [nameCells_succ] at hu
      rcases Nat.lt_or_ge j (n * 2) with hj | hj
      · rw [List.getElem?_append_left (by omega)] at hu
        exact ih.1 (fun j hj => h j (by omega)) j u hu
      · rw [List.getElem?_append_right (by omega), hl] at hu
        obtain ⟨h1, h2⟩ := h n (Nat.lt_succ_self n)
        rcases Nat.eq_or_lt_of_le hj with e | e
        · rw [← e] at hu ⊢
          simp at hu; subst hu
          exact h1
        · have e2 : j = n * 2 + 1 := by
            have := (List.getElem?_eq_some_iff.1 hu).1
            simp at this
            omega
          subst e2
          rw [show n * 2 + 1 - n * 2 = 1 by omega] at hu
          simp at hu; subst hu
          rw [← Nat.add_assoc]; exact h2
    · intro h j hj
      rcases Nat.lt_or_ge j n with hjn | hjn
      · exact ih.2 (fun k u hu => h k u (by
          have := (List.getElem?_eq_some_iff.1 hu).1
          rw [nameCells_succ, List.getElem?_append_left this]; exact hu)) j hjn
      · obtain rfl : j = n := by omega
        refine ⟨h (j * 2) _ (by rw [nameCells_succ, List.getElem?_append_right (by omega), hl]; simp), ?_⟩
        have := h (j * 2 + 1) (.int .i64 (ino j)) (by rw [nameCells_succ, List.getElem?_append_right (by omega), hl, show j * 2 + 1 - j * 2 = 1 by omega]; rfl)
        rwa [← Nat.add_assoc] at this
theorem nameCells_one (nm : Nat → ByteArray) (ino : Nat → Int) (n : Nat) : ∀ u ∈ nameCells n nm ino, u.oneCell' = true := by
  intro u hu
  unfold nameCells at hu
  rw [List.mem_flatMap] at hu
  obtain ⟨j, _, hu⟩ := hu
  simp at hu
  rcases hu with rfl | rfl <;> rfl
theorem info62 : (Tryd.prog.info? 62).map (fun i => (i.zero, i.size, i.bytes)) = some (some (.agg #[.string ByteArray.empty, .int .i64 0]), 2, 24) := by kernel_rfl
/-- a name row's slice, and what it is a copy of -/
def NamesV (base : Nat) (w : World) (v : Value) (n : Nat) (nm : Nat → ByteArray) (ino : Nat → Int) : Prop := ∃ A c, v = .slice A n c ∧ Nrow w A n nm ino ∧ (n = 0 ∨ ∀ b o, A = some ⟨b, o, none⟩ → base ≤ b)
set_option maxHeartbeats 4000000 in
theorem cloneNames (A : Option Addr) (n c : Nat) (nm : Nat → ByteArray) (ino : Nat → Int) (w : World) (h : Nrow w A n nm ino) (hnil : A = none → True) :
    Calls Tryd.prog 53 #[.slice A n c] w fun e w' => ∃ v, e = .returned v ∧ NamesV w.heap.size w' v n nm ino ∧ Below w.heap.size w w' := by
  obtain ⟨hmax, h⟩ := h
  have q40 : ∀ (w : World) (a : Option Addr) (n c n' c' : Nat), (binOp .eql 40 (.slice a n c) (.slice none n' c')).run Tryd.prog w = .ok (.bool a.isNone) w := fun w a n c n' c' => Lib.run_eql_slice_nil w _ _ a n c n' c' Tryd.underlying40
  cases A with
  | none =>
    have h0 : n = 0 := by rcases h with h | ⟨b, o, h, _⟩; exact h; cases h
    subst h0
    go_enter Tryd.func53, Tryd.ntmps53
    go_wp2
    go_ret
    exact ⟨_, rfl, ⟨none, 0, rfl, ⟨by omega, .inl rfl⟩, .inl rfl⟩, Below.refl _ _⟩
  | some a =>
    by_cases h0 : n = 0
    · subst h0
      obtain ⟨i, hi, -⟩ := Go.info_parts info62
      have e1 := run_append_nothing (P := Tryd.prog) (w.alloc (.cells #[] 62)) 40 40 40 62 i Tryd.underlying40 hi (some ⟨w.heap.size, 0, none⟩) 0 0 (Nat.le_refl _) (.slice (some a) 0 c) ⟨.inl ⟨62, Tryd.underlying40⟩, fun w' => rfl, by simp [Builtin.firstCells, loadCells, loadCellsFrom], by simp [Builtin.firstCells, loadCells, loadCellsFrom], by simp, fun u hu => by cases hu⟩
      clear h
      go_enter Tryd.func53, Tryd.ntmps53
      go_wp2_with (at_builtin; refine wpList_append_run_sl _ rfl (.tmp 5) (.tmp 6) 40 rfl _ _ rfl rfl e1 ?_)
      go_ret
      exact ⟨_, rfl, ⟨_, 0, rfl, ⟨by omega, .inl rfl⟩, .inl rfl⟩, (Below.refl _ _).alloc (Nat.le_refl _) _⟩
    · obtain ⟨b, o, ha, hb, hN⟩ := h.resolve_left h0
      cases ha
      obtain ⟨g, cap, w', e1, hg, hg2, hC, hB⟩ := copyRow 40 Tryd.underlying40 info62 rfl (by decide) b o n c (nameCells n nm ino) (nameCells_length nm ino n) ((nameCells_at n).1 hN) (nameCells_one nm ino n) (by unfold maxLen; omega) (by omega) (by omega)
      have H : Aside (NamesV w.heap.size w' (.slice (some ⟨g, 0, none⟩) n cap) n nm ino ∧ Below w.heap.size w w') := ⟨⟨_, cap, rfl, ⟨hmax, .inr ⟨g, 0, rfl, hg2, (nameCells_at n).2 hC⟩⟩, .inr fun b o e => by cases e; exact hg⟩, hB⟩
      clear hC hB hN h hmax
      go_enter Tryd.func53, Tryd.ntmps53
      go_wp2_with (at_builtin; refine wpList_append_run_sl _ rfl (.tmp 5) (.tmp 6) 40 rfl _ _ rfl rfl e1 ?_)
      go_ret
      exact ⟨_, rfl, H.out.1, H.out.2⟩
end Go.Proofs.YtaeakifdamlnlaaDoor
set_option linter.unusedVariables false
set_option linter.unusedSimpArgs false
set_option maxRecDepth 100000
namespace Go.Proofs.YtaeakifdamlnlaaDoor
open Go.RowKit Go.Lib
/-- bytes in memory, or none at all -/
def Drow (w : World) (A : Option Addr) (n c : Nat) : Prop := n ≤ 140737488355328 ∧ (A = none → True) ∧ (n = 0 ∨ ∃ b o, A = some ⟨b, o, none⟩ ∧ b < w.heap.size ∧ ∀ j, j < n → ∃ z, w.cell? ⟨b, o + j, none⟩ = some (.int .u8 z))
theorem Drow.on {w w' : World} {A : Option Addr} {n c : Nat} (h : Drow w A n c) (hb : Below w.heap.size w w') : Drow w' A n c := by
  obtain ⟨h1, h2, h3⟩ := h
  refine ⟨h1, h2, ?_⟩
  rcases h3 with h | ⟨b, o, rfl, hlt, hc⟩
  · exact .inl h
  · exact .inr ⟨b, o, rfl, Nat.lt_of_lt_of_le hlt hb.size, fun j hj => by obtain ⟨z, hz⟩ := hc j hj; exact ⟨z, (hb.cell hlt).trans hz⟩⟩
/-- a file's blocks in memory -/
def Brow (w : World) (A : Option Addr) (n c : Nat) : Prop := n ≤ 4398046511104 ∧ (A = none → True) ∧ (n = 0 ∨ ∃ b o, A = some ⟨b, o, none⟩ ∧ b < w.heap.size ∧ ∀ j, j < n → ∃ (z : Int) (D : Option Addr) (m k : Nat), w.cell? ⟨b, o + j * 2, none⟩ = some (.int .i64 z) ∧ w.cell? ⟨b, o + j * 2 + 1, none⟩ = some (.slice D m k) ∧ Drow w D m k)
theorem Brow.on {w w' : World} {A : Option Addr} {n c : Nat} (h : Brow w A n c) (hb : Below w.heap.size w w') : Brow w' A n c := by
  obtain ⟨h1, h2, h3⟩ := h
  refine ⟨h1, h2, ?_⟩
  rcases h3 with h | ⟨b, o, rfl, hlt, hc⟩
  · exact .inl h
  · exact .inr ⟨b, o, rfl, Nat.lt_of_lt_of_le hlt hb.size, fun j hj => by
      obtain ⟨z, D, m, k, g1, g2, g3⟩ := hc j hj
      exact ⟨z, D, m, k, (hb.cell hlt).trans g1, (hb.cell hlt).trans g2, g3.on hb⟩⟩
theorem info5 : (Tryd.prog.info? 5).map (fun i => (i.zero, i.size, i.bytes)) = some (some (.int .u8 0), 1, 1) := by kernel_rfl
theorem info69 : (Tryd.prog.info? 69).map (fun i => (i.zero, i.size, i.bytes)) = some (some (.agg #[.int .i64 0, .slice none 0 0]), 2, 32) := by kernel_rfl
set_option maxHeartbeats 4000000 in
theorem cloneBytes (A : Option Addr) (n c : Nat) (w : World) (h : Drow w A n c) :
    Calls Tryd.prog 64 #[.slice A n c] w fun e w' => ∃ B k, e = .returned (.slice B n k) ∧ Drow w' B n k ∧ Below w.heap.size w w' := by
  obtain ⟨hmax, hnil, h⟩ := h
  have q53 : ∀ (w : World) (a : Option Addr) (n c n' c' : Nat), (binOp .eql 53 (.slice a n c) (.slice none n' c')).run Tryd.prog w = .ok (.bool a.isNone) w := fun w a n c n' c' => Lib.run_eql_slice_nil w _ _ a n c n' c' Tryd.underlying53
  cases A with
  | none =>
    have h0 : n = 0 := by rcases h with h | ⟨b, o, h, _⟩; exact h; cases h
    subst h0
    go_enter Tryd.func64, Tryd.ntmps64
    go_wp2
    go_ret
    exact ⟨none, 0, rfl, ⟨by omega, fun _ => trivial, .inl rfl⟩, Below.refl _ _⟩
  | some a =>
    by_cases h0 : n = 0
    · subst h0
      obtain ⟨i, hi, -⟩ := Go.info_parts info5
      have e1 := run_append_nothing (P := Tryd.prog) (w.alloc (.cells #[] 5)) 53 53 53 5 i Tryd.underlying53 hi (some ⟨w.heap.size, 0, none⟩) 0 0 (Nat.le_refl _) (.slice (some a) 0 c) ⟨.inl ⟨5, Tryd.underlying53⟩, fun w' => rfl, by simp [Builtin.firstCells, loadCells, loadCellsFrom], by simp [Builtin.firstCells, loadCells, loadCellsFrom], by simp, fun u hu => by cases hu⟩
      clear h
      go_enter Tryd.func64, Tryd.ntmps64
      go_wp2_with (at_builtin; refine wpList_append_run_sl _ rfl (.tmp 5) (.tmp 6) 53 rfl _ _ rfl rfl e1 ?_)
      go_ret
      exact ⟨_, 0, rfl, ⟨by omega, fun _ => trivial, .inl rfl⟩, (Below.refl _ _).alloc (Nat.le_refl _) _⟩
    · obtain ⟨b, o, ha, hb, hN⟩ := h.resolve_left h0
      cases ha
      obtain ⟨f, hf⟩ : ∃ f : Nat → Int, ∀ j, j < n → w.cell? ⟨b, o + j, none⟩ = some (.int .u8 (f j)) :=
        ⟨fun j => if hj : j < n then Classical.choose (hN j hj) else 0, fun j hj => by simpa only [dif_pos hj] using Classical.choose_spec (hN j hj)⟩
      have hcells : CellsAt w b o ((List.range n).map fun j => Value.int .u8 (f j)) := fun j u hu => by
        have hj : j < n := by have := (List.getElem?_eq_some_iff.1 hu).1; simpa using this
        rw [List.getElem?_map, List.getElem?_range hj] at hu
        cases hu
        exact hf j hj
      obtain ⟨g, cap, w', e1, hg, hg2, hC, hB⟩ := copyRow 53 Tryd.underlying53 info5 rfl (by decide) b o n c _ (by simp) hcells (by intro u hu; obtain ⟨j, _, rfl⟩ := List.mem_map.1 hu; rfl) (by unfold maxLen; omega) (by omega) (by omega)
      have H : Aside (Drow w' (some ⟨g, 0, none⟩) n cap ∧ Below w.heap.size w w') := ⟨⟨hmax, fun _ => trivial, .inr ⟨g, 0, rfl, hg2, fun j hj => ⟨f j, hC j _ (by rw [List.getElem?_map, List.getElem?_range hj]; rfl)⟩⟩⟩, hB⟩
      clear hC hB hN h hmax hf hcells
      go_enter Tryd.func64, Tryd.ntmps64
      go_wp2_with (at_builtin; refine wpList_append_run_sl _ rfl (.tmp 5) (.tmp 6) 53 rfl _ _ rfl rfl e1 ?_)
      go_ret
      exact ⟨_, cap, rfl, H.out.1, H.out.2⟩
end Go.Proofs.YtaeakifdamlnlaaDoor
set_option linter.unusedVariables false
set_option linter.unusedSimpArgs false
set_option maxRecDepth 100000
namespace Go.Proofs.YtaeakifdamlnlaaDoor
open Go.RowKit Go.Lib
/-- a block of a file, as its cells tell it -/
structure Bk where
  z : Int
  D : Option Addr
  m : Nat
  k : Nat
def bkCells (n : Nat) (f : Nat → Bk) : List Value := (List.range n).flatMap fun j => [.int .i64 (f j).z, .slice (f j).D (f j).m (f j).k]
theorem bkCells_succ (n : Nat) (f : Nat → Bk) : bkCells (n + 1) f = bkCells n f ++ [.int .i64 (f n).z, .slice (f n).D (f n).m (f n).k] := by simp [bkCells, List.range_succ]
theorem bkCells_length (f : Nat → Bk) : ∀ n, (bkCells n f).length = n * 2
  | 0 => rfl
  | n + 1 => by rw [bkCells_succ, List.length_append, bkCells_length f n]; simp; omega
def BksAt (w : World) (b o n : Nat) (f : Nat → Bk) : Prop := ∀ j, j < n → w.cell? ⟨b, o + j * 2, none⟩ = some (.int .i64 (f j).z) ∧ w.cell? ⟨b, o + j * 2 + 1, none⟩ = some (.slice (f j).D (f j).m (f j).k)
theorem bkCells_at {w : World} {b o : Nat} {f : Nat → Bk} : ∀ n, BksAt w b o n f ↔ CellsAt w b o (bkCells n f)
  | 0 => ⟨fun _ j u hu => by simp [bkCells] at hu, fun _ j hj => absurd hj (Nat.not_lt_zero _)⟩
  | n + 1 => by
    have ih := bkCells_at (w := w) (b := b) (o := o) (f := f) n
    have hl := bkCells_length f n
    constructor
    · intro h j u hu
      rw [bkCells_succ] at hu
      rcases Nat.lt_or_ge j (n * 2) with hj | hj
      · rw [List.getElem?_append_left (by omega)] at hu
        exact ih.1 (fun j hj => h j (by omega)) j u hu
      · rw [List.getElem?_append_right (by omega), hl] at hu
        obtain ⟨h1, h2⟩ := h n (Nat.lt_succ_self n)
        rcases Nat.eq_or_lt_of_le hj with e | e
        · rw [← e] at hu ⊢
          simp at hu; subst hu
          exact h1
        · have e2 : j = n * 2 + 1 := by
            have := (List.getElem?_eq_some_iff.1 hu).1
            simp at this
            omega
          subst e2
          rw [show n * 2 + 1 - n * 2 = 1 by omega] at hu
          simp at hu; subst hu
          rw [← Nat.add_assoc]; exact h2
    · intro h j hj
      rcases Nat.lt_or_ge j n with hjn | hjn
      · exact ih.2 (fun k u hu => h k u (by
          have := (List.getElem?_eq_some_iff.1 hu).1
          rw [bkCells_succ, List.getElem?_append_left this]; exact hu)) j hjn
      · obtain rfl : j = n := by omega
        refine ⟨h (j * 2) _ (by rw [bkCells_succ, List.getElem?_append_right (by omega), hl]; simp), ?_⟩
        have := h (j * 2 + 1) (.slice (f j).D (f j).m (f j).k) (by rw [bkCells_succ, List.getElem?_append_right (by omega), hl, show j * 2 + 1 - j * 2 = 1 by omega]; rfl)
        rwa [← Nat.add_assoc] at this
theorem bkCells_one (f : Nat → Bk) (n : Nat) : ∀ u ∈ bkCells n f, u.oneCell' = true := by
  intro u hu
  unfold bkCells at hu
  rw [List.mem_flatMap] at hu
  obtain ⟨j, _, hu⟩ := hu
  simp at hu
  rcases hu with rfl | rfl <;> rfl
/-- a file's blocks that are one's own, or none at all -/
def OwnB (w0 : World) (N : Nat) (w : World) (v : Value) (n : Nat) : Prop :=
  (n = 0 ∧ ∃ A c, v = .slice A 0 c ∧ (A = none → True)) ∨ (n ≤ 4398046511104 ∧ ∃ g cap f, v = .slice (some ⟨g, 0, none⟩) n cap ∧ w.ownsRow N 69 2 v n (bkCells n f) ∧ ∀ j, j < n → Drow w0 (f j).D (f j).m (f j).k)
set_option maxHeartbeats 4000000 in
theorem cloneBlocks (A : Option Addr) (n c : Nat) (w0 w : World) (h : Brow w0 A n c) (hw : Below w0.heap.size w0 w) :
    Calls Tryd.prog 63 #[.slice A n c] w fun e w' => ∃ v, e = .returned v ∧ OwnB w0 w.heap.size w' v n ∧ Below w.heap.size w w' := by
  obtain ⟨hmax, hnil, h⟩ := h
  have q37 : ∀ (w : World) (a : Option Addr) (n c n' c' : Nat), (binOp .eql 37 (.slice a n c) (.slice none n' c')).run Tryd.prog w = .ok (.bool a.isNone) w := fun w a n c n' c' => Lib.run_eql_slice_nil w _ _ a n c n' c' Tryd.underlying37
  cases A with
  | none =>
    have h0 : n = 0 := by rcases h with h | ⟨b, o, h, _⟩; exact h; cases h
    subst h0
    go_enter Tryd.func63, Tryd.ntmps63
    go_wp2
    go_ret
    exact ⟨_, rfl, .inl ⟨rfl, none, 0, rfl, fun _ => trivial⟩, Below.refl _ _⟩
  | some a =>
    by_cases h0 : n = 0
    · subst h0
      obtain ⟨i, hi, -⟩ := Go.info_parts info69
      have e1 := run_append_nothing (P := Tryd.prog) (w.alloc (.cells #[] 69)) 37 37 37 69 i Tryd.underlying37 hi (some ⟨w.heap.size, 0, none⟩) 0 0 (Nat.le_refl _) (.slice (some a) 0 c) ⟨.inl ⟨69, Tryd.underlying37⟩, fun w' => rfl, by simp [Builtin.firstCells, loadCells, loadCellsFrom], by simp [Builtin.firstCells, loadCells, loadCellsFrom], by simp, fun u hu => by cases hu⟩
      clear h
      go_enter Tryd.func63, Tryd.ntmps63
      go_wp2_with (at_builtin; refine wpList_append_run_sl _ rfl (.tmp 5) (.tmp 6) 37 rfl _ _ rfl rfl e1 ?_)
      go_ret
      exact ⟨_, rfl, .inl ⟨rfl, _, 0, rfl, fun _ => trivial⟩, (Below.refl _ _).alloc (Nat.le_refl _) _⟩
    · obtain ⟨b, o, ha, hb, hN⟩ := h.resolve_left h0
      cases ha
      obtain ⟨f, hf⟩ : ∃ f : Nat → Bk, ∀ j, j < n → (w0.cell? ⟨b, o + j * 2, none⟩ = some (.int .i64 (f j).z) ∧ w0.cell? ⟨b, o + j * 2 + 1, none⟩ = some (.slice (f j).D (f j).m (f j).k)) ∧ Drow w0 (f j).D (f j).m (f j).k := by
        have : ∀ j, ∃ k : Bk, j < n → (w0.cell? ⟨b, o + j * 2, none⟩ = some (.int .i64 k.z) ∧ w0.cell? ⟨b, o + j * 2 + 1, none⟩ = some (.slice k.D k.m k.k)) ∧ Drow w0 k.D k.m k.k := fun j => by
          by_cases hj : j < n
          · obtain ⟨z, D, m, k, g1, g2, g3⟩ := hN j hj
            exact ⟨⟨z, D, m, k⟩, fun _ => ⟨⟨g1, g2⟩, g3⟩⟩
          · exact ⟨⟨0, none, 0, 0⟩, fun h => absurd h hj⟩
        exact ⟨fun j => Classical.choose (this j), fun j hj => Classical.choose_spec (this j) hj⟩
      obtain ⟨g, cap, w', e1, hg, hg2, hC, hB, hown⟩ := copyOwn 37 Tryd.underlying37 info69 rfl (by decide) b o n c (bkCells n f) (bkCells_length f n) ((bkCells_at n).1 fun j hj => ⟨(hw.cell hb).trans (hf j hj).1.1, (hw.cell hb).trans (hf j hj).1.2⟩) (bkCells_one f n) (by unfold maxLen; omega) (by omega) (by omega)
      have H : Aside (OwnB w0 w.heap.size w' (.slice (some ⟨g, 0, none⟩) n cap) n ∧ Below w.heap.size w w') := ⟨.inr ⟨hmax, g, cap, f, rfl, hown, fun j hj => (hf j hj).2⟩, hB⟩
      clear hC hB hN h hmax hf hown
      go_enter Tryd.func63, Tryd.ntmps63
      go_wp2_with (at_builtin; refine wpList_append_run_sl _ rfl (.tmp 5) (.tmp 6) 37 rfl _ _ rfl rfl e1 ?_)
      go_ret
      exact ⟨_, rfl, H.out.1, H.out.2⟩
end Go.Proofs.YtaeakifdamlnlaaDoor
set_option linter.unusedVariables false
set_option linter.unusedSimpArgs false
set_option maxRecDepth 100000
namespace Go.Proofs.YtaeakifdamlnlaaDoor
open Go.RowKit Go.Lib
/-- what a search among nodes tells -/
def FoundN (n : Nat) (nd : Nat → Nd) (x : Int) (j : Nat) : Prop := j ≤ n ∧ (∀ t, t < j → icmp (nd t).i x < 0) ∧ (∀ t, j ≤ t → t < n → 0 ≤ icmp (nd t).i x)
set_option maxHeartbeats 4000000 in
theorem placeD (B I N : Int) (b o n cap : Nat) (nd : Nat → Nd) (x : Int) (w : World) (hn : n < 4611686018427387904) (hb : b < w.heap.size) (hN : NodesAt w b o n nd)
    (hmono : ∀ s t, s ≤ t → t < n → icmp (nd t).i x < 0 → icmp (nd s).i x < 0) :
    Calls Tryd.prog 40 #[diskV B I N (some ⟨b, o, none⟩) n cap, .int .i64 x] w fun e w' =>
      ∃ j, FoundN n nd x j ∧ ((Aside (j < n ∧ (nd j).i = x) ∧ e = .returned (.tuple #[.int .i64 (j : Nat), .bool true])) ∨ (Aside (¬ (j < n ∧ (nd j).i = x)) ∧ e = .returned (.tuple #[.int .i64 (j : Nat), .bool false]))) ∧ Below w.heap.size w w' := by
  have hc : ∀ W, Below w.heap.size w W → Calls Tryd.prog 49 #[.slice (some ⟨b, o, none⟩) n cap, .int .i64 x, .func (.func 50) #[] #[]] W fun e w' =>
      ∃ j, FoundN n nd x j ∧ (∃ q : Bool, e = .returned (.tuple #[.int .i64 (j : Nat), .bool q]) ∧ Aside (q = true ↔ (j < n ∧ (nd j).i = x))) ∧ Below W.heap.size W w' :=
    fun W hW => (bsfN b o n cap nd x W hn (Nat.lt_of_lt_of_le hb hW.size) (hN.on hW hb) hmono).mono fun e w' ⟨j, h1, h2, h3, h4, h5⟩ => ⟨j, ⟨h1, h2, h3⟩, ⟨_, h4, by
      show _ ↔ _
      rw [Bool.and_eq_true, decide_eq_true_eq, decide_eq_true_eq]
      have : icmp (nd j).i x = 0 ↔ (nd j).i = x := by
        unfold icmp
        constructor
        · intro h
          split at h
          · omega
          · split at h
            · assumption
            · omega
        · intro h
          rw [if_neg (by omega), if_pos h]
      rw [this]⟩, h5⟩
  clear hmono hN
  unfold diskV
  go_enter Tryd.func40, Tryd.ntmps40
  go_wp2_with (go_at_call 49; refine (hc _ ((Below.refl _ _).alloc (Nat.le_refl _) _)).mono ?_; rintro e w' ⟨j, hj, ⟨q, rfl, hq⟩, hbl⟩)
  go_ret2
  refine ⟨j, hj, ?_, below_box hbl⟩
  cases q
  · exact .inr ⟨fun h => absurd (hq.out.2 h) (by decide), rfl⟩
  · exact .inl ⟨hq.out.1 rfl, rfl⟩
end Go.Proofs.YtaeakifdamlnlaaDoor
set_option linter.unusedVariables false
set_option linter.unusedSimpArgs false
set_option maxRecDepth 100000
namespace Go.Proofs.YtaeakifdamlnlaaDoor
open Go.RowKit Go.Lib
/-- what a walk over names tells -/
def Told (n : Nat) (nm : Nat → ByteArray) (ino : Nat → Int) (x : ByteArray) (e : Ending) : Prop :=
  (∃ j, j < n ∧ nm j = x ∧ (∀ t, t < j → nm t ≠ x) ∧ e = .returned (.tuple #[.int .i64 (ino j), .bool true])) ∨ ((∀ t, t < n → nm t ≠ x) ∧ e = .returned (.tuple #[.int .i64 0, .bool false]))
set_option maxHeartbeats 4000000 in
theorem refName (A : Option Addr) (n c : Nat) (nm : Nat → ByteArray) (ino : Nat → Int) (x : ByteArray) (w : World) (h : Nrow w A n nm ino) (i k m l s : Int) (BA : Option Addr) (bn bc : Nat) (t : ByteArray) :
    Calls Tryd.prog 35 #[.agg #[.int .i64 i, .int .i64 k, .int .i64 m, .int .i64 l, .int .i64 s, .slice BA bn bc, .string t, .slice A n c], .string x] w fun e w' => Told n nm ino x e ∧ Below w.heap.size w w' := by
  obtain ⟨hmax, h⟩ := h
  have H : Aside (n = 0 ∨ ∃ b o, A = some ⟨b, o, none⟩ ∧ b < w.heap.size ∧ NameAt w b o n nm ino) := h
  clear h
  go_enter Tryd.func35, Tryd.ntmps35
  go_wp2
  generalize hW : w.alloc (.cells #[.int .i64 i, .int .i64 k, .int .i64 m, .int .i64 l, .int .i64 s, .slice BA bn bc, .string t, .slice A n c] 42) = W
  have hB0 : Aside (Below w.heap.size w W) := by rw [← hW]; exact (Below.refl _ _).alloc (Nat.le_refl _) _
  have a7 : W.cell? ⟨w.heap.size, 7, none⟩ = some (.slice A n c) := by rw [← hW, World.cell?_alloc_at _ _ _ _ rfl]; rfl
  clear hW
  go_loopw [6] (fun v wr => ∃ j : Nat, j ≤ n ∧ v = .int .i64 j ∧ Aside (∀ t, t < j → nm t ≠ x) ∧ wr = W) (fun v _ => n - (RowKit.intOf v).toNat)
  case atStart => exact ⟨0, Nat.zero_le _, rfl, (show ∀ t, t < 0 → nm t ≠ x from fun t ht => absurd ht (Nat.not_lt_zero _)), rfl⟩
  case round =>
    obtain ⟨j, hj, rfl, hno, rfl⟩ := hrel
    by_cases hlt : j < n
    · obtain ⟨b, o, rfl, hb, hN⟩ := H.out.resolve_left (by omega)
      have c1 := (hB0.out.cell hb).trans (hN j hlt).1
      have c2 := (hB0.out.cell hb).trans (hN j hlt).2
      have HN : Aside (NameAt w b o n nm ino) := hN
      clear hN
      generalize hy : nm j = y at c1
      generalize hz : ino j = z at c2
      have Y : Aside (nm j = y ∧ ino j = z) := ⟨hy, hz⟩
      clear hy hz
      by_cases he : y = x
      · subst he
        go_wp2
        go_ret2
        exact ⟨.inl ⟨j, hlt, Y.out.1, hno.out, by rw [Y.out.2]; rfl⟩, hB0.out⟩
      · have q1 : (y.toList == x.toList) = false := toList_ne he
        have q2 : ¬ y.toList = x.toList := beq_eq_false_iff_ne.1 q1
        have E : Aside (¬ y = x) := he
        clear he
        go_wp2
        go_roundw
        case rel => exact ⟨j + 1, Nat.succ_le_of_lt hlt, by go_num, (show ∀ t, t < j + 1 → nm t ≠ x from fun t ht => by
          rcases Nat.lt_or_ge t j with h | h
          · exact hno.out t h
          · obtain rfl : t = j := by omega
            rw [Y.out.1]; exact E.out), trivial⟩
        case measure => simp [RowKit.intOf]; omega
    · obtain rfl : j = n := by omega
      clear hlt
      go_wp2
      go_ret2
      exact ⟨.inr ⟨hno.out, rfl⟩, hB0.out⟩
end Go.Proofs.YtaeakifdamlnlaaDoor
set_option linter.unusedVariables false
set_option linter.unusedSimpArgs false
set_option maxRecDepth 100000
namespace Go.Proofs.YtaeakifdamlnlaaDoor
open Go.RowKit Go.Lib
theorem below_drewN {B : Nat} {a w : World} (h : Below B a w) (q : Nat) : Below B a (w.drewN q) := by
  induction q generalizing w with
  | zero => exact h
  | succ n ih => exact (ih h).drew
/-- an answer, whatever it is -/
def Says' (e : Ending) : Prop := ∃ q : Bool, e = .returned (.bool q)
set_option maxHeartbeats 4000000 in
theorem hasNum (A : Option Addr) (n c : Nat) (x : Int) (w : World) (hn : n ≤ 9223372036854775807) (h : n = 0 ∨ ∃ b o, A = some ⟨b, o, none⟩ ∧ ∀ j, j < n → ∃ z, w.cell? ⟨b, o + j, none⟩ = some (.int .i64 z)) :
    Calls Tryd.prog 32 #[.slice A n c, .int .i64 x] w fun e w' => Says' e ∧ w' = w := by
  have H : Aside (n = 0 ∨ ∃ b o, A = some ⟨b, o, none⟩ ∧ ∀ j, j < n → ∃ z, w.cell? ⟨b, o + j, none⟩ = some (.int .i64 z)) := h
  clear h
  go_enter Tryd.func32, Tryd.ntmps32
  go_wp2
  go_loopw [5] (fun v wr => ∃ j : Nat, j ≤ n ∧ v = .int .i64 j ∧ wr = w) (fun v _ => n - (RowKit.intOf v).toNat)
  case atStart => exact ⟨0, Nat.zero_le _, rfl, rfl⟩
  case round =>
    obtain ⟨j, hj, rfl, rfl⟩ := hrel
    by_cases hlt : j < n
    · obtain ⟨b, o, rfl, hN⟩ := H.out.resolve_left (by omega)
      obtain ⟨z, hz⟩ := hN j hlt
      clear hN
      by_cases he : z = x
      · subst he
        go_wp2
        go_ret
        exact ⟨⟨_, rfl⟩, rfl⟩
      · go_wp2
        go_roundw
        case rel => exact ⟨j + 1, Nat.succ_le_of_lt hlt, by go_num, trivial⟩
        case measure => simp [RowKit.intOf]; omega
    · obtain rfl : j = n := by omega
      clear hlt
      go_wp2
      go_ret
      exact ⟨⟨_, rfl⟩, rfl⟩
/-- how many blocks, how many nodes: the latter is told -/
def Many (n : Nat) (e : Ending) : Prop := ∃ m : Int, e = .returned (.tuple #[.int .i64 m, .int .i64 n])
set_option maxHeartbeats 4000000 in
theorem used (B I N : Int) (A : Option Addr) (n c : Nat) (nd : Nat → Nd) (w : World) (hn : n ≤ 9223372036854775807) (h : n = 0 ∨ ∃ b o, A = some ⟨b, o, none⟩ ∧ b < w.heap.size ∧ NodesAt w b o n nd) :
    Calls Tryd.prog 20 #[diskV B I N A n c] w fun e w' => Many n e ∧ Below w.heap.size w w' := by
  have H : Aside (n = 0 ∨ ∃ b o, A = some ⟨b, o, none⟩ ∧ b < w.heap.size ∧ NodesAt w b o n nd) := h
  clear h
  unfold diskV
  go_enter Tryd.func20, Tryd.ntmps20
  go_wp2
  generalize hW : w.alloc (.cells #[.int .i64 B, .int .i64 I, .int .i64 N, .slice A n c] 24) = W
  have hB0 : Aside (Below w.heap.size w W) := by rw [← hW]; exact (Below.refl _ _).alloc (Nat.le_refl _) _
  have a3 : W.cell? ⟨w.heap.size, 3, none⟩ = some (.slice A n c) := by rw [← hW, World.cell?_alloc_at _ _ _ _ rfl]; rfl
  clear hW
  go_loopw [4, 5] (fun u v wr => ∃ (j : Nat) (m : Int), j ≤ n ∧ v = .int .i64 j ∧ u = .int .i64 m ∧ wr = W) (fun _ v _ => n - (RowKit.intOf v).toNat)
  case atStart => exact ⟨0, 0, Nat.zero_le _, rfl, rfl, rfl⟩
  case round =>
    obtain ⟨j, m, hj, rfl, rfl, rfl⟩ := hrel
    by_cases hlt : j < n
    · obtain ⟨b, o, rfl, hb, hN⟩ := H.out.resolve_left (by omega)
      have c5 := (hB0.out.cell hb).trans (hN j hlt).2.2.2.2.2.1
      clear hN
      generalize (nd j).bA = x1 at c5
      generalize (nd j).bn = x2 at c5
      generalize (nd j).bc = x3 at c5
      go_wp2
      go_roundw
      case rel => exact ⟨j + 1, _, Nat.succ_le_of_lt hlt, by go_num, rfl, trivial⟩
      case measure => simp [RowKit.intOf]; omega
    · obtain rfl : j = n := by omega
      clear hlt
      go_wp2
      go_quiet (fail)
      go_wp2
      go_ret2
      exact ⟨⟨_, rfl⟩, below_drewN hB0.out _⟩
end Go.Proofs.YtaeakifdamlnlaaDoor
set_option linter.unusedVariables false
set_option linter.unusedSimpArgs false
set_option maxRecDepth 100000
namespace Go.Proofs.YtaeakifdamlnlaaDoor
open Go.RowKit Go.Lib
set_option maxHeartbeats 8000000 in
theorem heavy (g c : Nat) (B I N : Int) (A : Option Addr) (n cap : Nat) (nd : Nat → Nd) (w : World) (hn : n ≤ 9223372036854775807) (h : n = 0 ∨ ∃ b o, A = some ⟨b, o, none⟩ ∧ b < w.heap.size ∧ NodesAt w b o n nd)
    (hg : w.cell? ⟨g, 3, none⟩ = some (.slice A n cap)) :
    Calls Tryd.prog 5 #[.slice (some ⟨g, 0, none⟩) 1 c] w fun e w' => Says' e ∧ ∃ q, w' = w.drewN q := by
  have H : Aside (n = 0 ∨ ∃ b o, A = some ⟨b, o, none⟩ ∧ b < w.heap.size ∧ NodesAt w b o n nd) := h
  clear h
  go_enter Tryd.func5, Tryd.ntmps5
  go_wp2
  go_loopw [3, 4] (fun u v wr => ∃ (j q : Nat) (m : Int), j ≤ 1 ∧ v = .int .i64 j ∧ u = .int .i64 m ∧ wr = w.drewN q) (fun _ v _ => 1 - (RowKit.intOf v).toNat)
  case atStart => exact ⟨0, 0, 0, Nat.zero_le _, rfl, rfl, rfl⟩
  case round =>
    obtain ⟨j, q, m, hj, rfl, rfl, rfl⟩ := hrel
    by_cases hlt : j < 1
    · obtain rfl : j = 0 := by omega
      clear hlt hj
      go_wp2
      go_loopw [3, 5] (fun u v wr => ∃ (j q : Nat) (m : Int), j ≤ n ∧ v = .int .i64 j ∧ u = .int .i64 m ∧ wr = w.drewN q) (fun _ v _ => n - (RowKit.intOf v).toNat)
      case atStart => exact ⟨0, q, m, Nat.zero_le _, rfl, rfl, rfl⟩
      case round =>
        obtain ⟨j, q, m, hj, rfl, rfl, rfl⟩ := hrel
        by_cases hlt : j < n
        · obtain ⟨b, o, rfl, hb, hN⟩ := H.out.resolve_left (by omega)
          have c5 := (hN j hlt).2.2.2.2.2.1
          have c7 := (hN j hlt).2.2.2.2.2.2.2
          clear hN
          generalize (nd j).bA = x1 at c5
          generalize (nd j).bn = x2 at c5
          generalize (nd j).bc = x3 at c5
          generalize (nd j).nA = y1 at c7
          generalize (nd j).nn = y2 at c7
          generalize (nd j).nc = y3 at c7
          go_wp2
          case roundEnd => exact ⟨⟨1, q, m, Nat.le_refl _, rfl, rfl, rfl⟩, by simp [RowKit.intOf]⟩
          go_quiet (fail)
          go_wp2
          go_roundw
          case rel => exact ⟨j + 1, _, _, Nat.succ_le_of_lt hlt, by go_num, rfl, rfl⟩
          case measure => simp [RowKit.intOf]; omega
        · obtain rfl : j = n := by omega
          clear hlt
          go_wp2
          all_goals exact ⟨⟨1, q, m, Nat.le_refl _, rfl, rfl, rfl⟩, by simp [RowKit.intOf]⟩
    · obtain rfl : j = 1 := by omega
      clear hlt
      go_wp2
      all_goals
        go_ret
        exact ⟨⟨_, rfl⟩, q, rfl⟩
end Go.Proofs.YtaeakifdamlnlaaDoor
