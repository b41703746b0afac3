/- The boxes, rows and lists of a disk in memory. Conditions: those each theorem states. -/
import Derived.Test.YtaeakifdamlnlaaDoorMkD
import Derived.Test.YtaeakifdamlnlaaDoorMkC
import Derived.Test.YtaeakifdamlnlaaDoorMkB
import Derived.Deep.DeepMust
import Derived.Deep.RegionHeld3
import Derived.BigQuiet
import Derived.Deep.DeepCutAuto
import Derived.Deep.CutBlock
set_option linter.unusedVariables false
set_option linter.unusedSimpArgs false
set_option maxRecDepth 100000
namespace Go.Proofs.YtaeakifdamlnlaaDoor
open Go.RowKit Go.Lib Go.Proofs.YtaeakifdamlnlaaDoorW.PrintWords Go.Proofs.YtaeakifdamlnlaaDoorW.PrintMore PMarkTells
/-- the boxes of a disk and a node, in a call -/
structure Boxes (w W : World) (B I Nx : Int) (D : Value) (i k m l s : Int) (F : Value) (t : ByteArray) (N : Value) : Prop where
  d0 : W.cell? ⟨w.heap.size, 0, none⟩ = some (.int .i64 B)
  d1 : W.cell? ⟨w.heap.size, 1, none⟩ = some (.int .i64 I)
  d2 : W.cell? ⟨w.heap.size, 2, none⟩ = some (.int .i64 Nx)
  d3 : W.cell? ⟨w.heap.size, 3, none⟩ = some D
  n : Box8 W (w.heap.size + 1) i k m l s F t N
  b : Below w.heap.size w W
theorem Boxes.on {w W W' : World} {B I Nx : Int} {D : Value} {i k m l s : Int} {F : Value} {t : ByteArray} {N : Value} (h : Boxes w W B I Nx D i k m l s F t N) (hb : Below W.heap.size W W') : Boxes w W' B I Nx D i k m l s F t N := by
  have hl := h.n.lt
  exact ⟨(hb.cell (by dsimp only; omega)).trans h.d0, (hb.cell (by dsimp only; omega)).trans h.d1, (hb.cell (by dsimp only; omega)).trans h.d2, (hb.cell (by dsimp only; omega)).trans h.d3, h.n.on hb, h.b.trans (hb.mono h.b.size)⟩
theorem boxes_start (w : World) (B I Nx : Int) (D : Value) (i k m l s : Int) (F : Value) (t : ByteArray) (N : Value) :
    Boxes w ((w.alloc (.cells #[.int .i64 B, .int .i64 I, .int .i64 Nx, D] 24)).alloc (.cells #[.int .i64 i, .int .i64 k, .int .i64 m, .int .i64 l, .int .i64 s, F, .string t, N] 42)) B I Nx D i k m l s F t N := by
  refine ⟨?_, ?_, ?_, ?_, box8_alloc _ _ _ _ _ _ _ _ _ _ (by simp), ((Below.refl _ _).alloc (Nat.le_refl _) _).alloc (by simp) _⟩
  all_goals (rw [World.cell?_alloc_past _ _ _ (by simp), World.cell?_alloc_at _ _ _ _ rfl]; rfl)
theorem Boxes.drew {w W : World} {B I Nx : Int} {D : Value} {i k m l s : Int} {F : Value} {t : ByteArray} {N : Value} (h : Boxes w W B I Nx D i k m l s F t N) : Boxes w W.drew B I Nx D i k m l s F t N := h.on (Below.refl _ _).drew
theorem Boxes.past {w W : World} {B I Nx : Int} {D : Value} {i k m l s : Int} {F : Value} {t : ByteArray} {N : Value} (h : Boxes w W B I Nx D i k m l s F t N) (o : Obj) : Boxes w (W.alloc o) B I Nx D i k m l s F t N := h.on ((Below.refl _ _).alloc (Nat.le_refl _) _)
theorem Boxes.far {w W : World} {B I Nx : Int} {D : Value} {i k m l s : Int} {F : Value} {t : ByteArray} {N : Value} (h : Boxes w W B I Nx D i k m l s F t N) {g : Nat} (hg : w.heap.size + 1 < g) (j : Nat) (v : Value) : Boxes w (W.setCell ⟨g, j, none⟩ v) B I Nx D i k m l s F t N := by
  have e : ∀ j', (W.setCell ⟨g, j, none⟩ v).cell? ⟨w.heap.size, j', none⟩ = W.cell? ⟨w.heap.size, j', none⟩ := fun j' => World.cell?_setCell_far _ _ _ _ (by dsimp only; omega)
  exact ⟨(e 0).trans h.d0, (e 1).trans h.d1, (e 2).trans h.d2, (e 3).trans h.d3, h.n.far _ _ (by dsimp only; omega), h.b.setCell (by dsimp only; omega) _⟩
theorem Drawn0.below {B : Nat} {w w' : World} (h : Drawn0 w w') : Below B w w' := by
  obtain ⟨⟨n, rfl⟩⟩ := h
  exact below_drewN (Below.refl _ _) n
/-- names that rise, each of a node that there is -/
def Good (l : List S42) (N : List S62) (j : Nat) : Prop := (∀ t, t + 1 < j → ∀ x y, N[t]? = some x → N[t + 1]? = some y → Op.bytesLess x.f0.toList y.f0.toList = true) ∧ ∀ t, t < j → ∀ x, N[t]? = some x → (getN l x.f1).isSome = true

/-! ### rows as the printed words read them, by places -/
theorem kd_at {α : Type} {d : Kd α} {w : World} {A : Option Addr} {n : Nat} {xs : List α} (h : Kd.C d w A n xs) (h0 : 0 < n) (hs : 0 < d.sz) :
    ∃ b o, A = some ⟨b, o, none⟩ ∧ b < w.heap.size ∧ ∀ j p, xs[j]? = some p → ∃ c, c.length = d.sz ∧ d.K w p c ∧ ∀ i u, c[i]? = some u → w.cell? ⟨b, o + (j * d.sz + i), none⟩ = some u := by
  obtain ⟨hl, -, h⟩ := h
  obtain ⟨⟨b, o, sp⟩, rfl, hc⟩ := h h0
  have hx : 0 < xs.length := by omega
  obtain ⟨c, h1, h2, h3⟩ := hc 0 _ (List.getElem?_eq_getElem hx)
  have hc0 : 0 < c.length := by omega
  have h4 := h3 0 _ (List.getElem?_eq_getElem hc0)
  rw [Nat.zero_mul] at h4
  have h5 : w.cell? ⟨b, o, sp⟩ = some c[0] := h4
  have hsp : sp = none := by
    cases sp with
    | none => rfl
    | some x =>
      unfold World.cell? at h5
      revert h5
      cases w.heap[b]? with
      | none => simp
      | some ob => cases ob <;> simp
  subst hsp
  refine ⟨b, o, rfl, World.block_lt_of_cell? _ _ h5, fun j p hp => ?_⟩
  obtain ⟨c, g1, g2, g3⟩ := hc j p hp
  refine ⟨c, g1, g2, fun i u hu => ?_⟩
  have := g3 i u hu
  unfold Addr.add at this
  split at this
  · rename_i h; rw [h]; exact this
  · exact this
def nmL (N : List S62) : Nat → ByteArray := fun j => (N.getD j z62).f0
def inoL (N : List S62) : Nat → Int := fun j => (N.getD j z62).f1
theorem names_at {w : World} {A : Option Addr} {N : List S62} (h : Kd.C k62 w A N.length N) : N.length = 0 ∨ ∃ b o, A = some ⟨b, o, none⟩ ∧ b < w.heap.size ∧ NameAt w b o N.length (nmL N) (inoL N) := by
  rcases Nat.eq_zero_or_pos N.length with h0 | h0
  · exact .inl h0
  obtain ⟨b, o, rfl, hb, hc⟩ := kd_at h h0 (by decide)
  refine .inr ⟨b, o, rfl, hb, fun j hj => ?_⟩
  have hx : N[j]? = some N[j] := List.getElem?_eq_getElem hj
  obtain ⟨c, h1, h2, h3⟩ := hc j _ hx
  obtain rfl := k62_open h2
  have e : N.getD j z62 = N[j] := by rw [List.getD_eq_getElem?_getD, hx]; rfl
  unfold nmL inoL
  rw [e]
  exact ⟨h3 0 _ rfl, h3 1 _ rfl⟩
theorem names_row {w : World} {A : Option Addr} {N : List S62} (h : Kd.C k62 w A N.length N) (hN : N.length < 5864062014805) : Nrow w A N.length (nmL N) (inoL N) := ⟨by omega, names_at h⟩
theorem bytes_row {w : World} {A : Option Addr} {c : Nat} {N : List Int} (h : Kd.C (Kd.int .u8) w A N.length N) (hN : N.length < 140737488355328) : Drow w A N.length c := by
  refine ⟨by omega, fun _ => trivial, ?_⟩
  rcases Nat.eq_zero_or_pos N.length with h0 | h0
  · exact .inl h0
  obtain ⟨b, o, rfl, hb, hc⟩ := kd_at h h0 (by decide)
  refine .inr ⟨b, o, rfl, hb, fun j hj => ?_⟩
  obtain ⟨c, h1, h2, h3⟩ := hc j _ (List.getElem?_eq_getElem hj)
  have h2 : c = [.int .u8 N[j]] := h2
  subst h2
  refine ⟨N[j], ?_⟩
  have := h3 0 _ rfl
  simpa [Kd.int, Kd.scalar] using this
theorem blocks_row {w : World} {A : Option Addr} {c : Nat} {N : List S69} (h : Kd.C k69 w A N.length N) (hN : FileOk N) (hN2 : N.length ≤ 4398046511104) : Brow w A N.length c := by
  refine ⟨hN2, fun _ => trivial, ?_⟩
  rcases Nat.eq_zero_or_pos N.length with h0 | h0
  · exact .inl h0
  obtain ⟨b, o, rfl, hb, hc⟩ := kd_at h h0 (by decide)
  refine .inr ⟨b, o, rfl, hb, fun j hj => ?_⟩
  obtain ⟨c, h1, h2, h3⟩ := hc j _ (List.getElem?_eq_getElem hj)
  obtain ⟨D, k, rfl, h4, h5⟩ := k69_open h2
  exact ⟨N[j].f0, D, N[j].f1.length, k, h3 0 _ rfl, h3 1 _ rfl, bytes_row h5 (hN.2 _ (List.getElem_mem hj))⟩
theorem nodes_row {w : World} {A : Option Addr} {l : List S42} (h : Kd.C k42 w A l.length l) (hl : l.length ≤ 4398046511104) (hok : ∀ y ∈ l, NodeOk y ∧ y.f4.f1.length ≤ 4398046511104) :
    ∃ nd, NodesOk w A l.length nd (fun j => nmL (l.getD j z42).f6) (fun j => inoL (l.getD j z42).f6) ∧ ∀ j, j < l.length → (nd j).i = (l.getD j z42).f0 ∧ (nd j).k = (l.getD j z42).f1 ∧ (nd j).nn = (l.getD j z42).f6.length := by
  rcases Nat.eq_zero_or_pos l.length with h0 | h0
  · exact ⟨fun _ => ⟨0, 0, 0, 0, 0, none, 0, 0, ⟨#[]⟩, none, 0, 0⟩, ⟨hl, .inl h0, fun j hj => by omega, fun j hj => by omega, fun j hj => by omega⟩, fun j hj => by omega⟩
  obtain ⟨b, o, rfl, hb, hc⟩ := kd_at h h0 (by decide)
  have each : ∀ j, ∃ x : Nd, j < l.length → (w.cell? ⟨b, o + j * 8, none⟩ = some (.int .i64 x.i) ∧ w.cell? ⟨b, o + j * 8 + 1, none⟩ = some (.int .i64 x.k) ∧ w.cell? ⟨b, o + j * 8 + 2, none⟩ = some (.int .i64 x.m) ∧ w.cell? ⟨b, o + j * 8 + 3, none⟩ = some (.int .i64 x.l) ∧
      w.cell? ⟨b, o + j * 8 + 4, none⟩ = some (.int .i64 x.s) ∧ w.cell? ⟨b, o + j * 8 + 5, none⟩ = some (.slice x.bA x.bn x.bc) ∧ w.cell? ⟨b, o + j * 8 + 6, none⟩ = some (.string x.t) ∧ w.cell? ⟨b, o + j * 8 + 7, none⟩ = some (.slice x.nA x.nn x.nc)) ∧
      (Brow w x.bA x.bn x.bc ∧ Nrow w x.nA x.nn (nmL (l.getD j z42).f6) (inoL (l.getD j z42).f6)) ∧ x.i = (l.getD j z42).f0 ∧ x.k = (l.getD j z42).f1 ∧ x.nn = (l.getD j z42).f6.length := by
    intro j
    by_cases hj : j < l.length
    · have hx : l[j]? = some l[j] := List.getElem?_eq_getElem hj
      have e : l.getD j z42 = l[j] := by rw [List.getD_eq_getElem?_getD, hx]; rfl
      obtain ⟨c, h1, h2, h3⟩ := hc j _ hx
      obtain ⟨A5, c5, A7, c7, rfl, l5, g5, l7, g7⟩ := k42_open h2
      obtain ⟨ok, ok2⟩ := hok _ (List.getElem_mem hj)
      refine ⟨⟨l[j].f0, l[j].f1, l[j].f2, l[j].f3, l[j].f4.f0, A5, l[j].f4.f1.length, c5, l[j].f5, A7, l[j].f6.length, c7⟩, fun _ => ⟨⟨h3 0 _ rfl, h3 1 _ rfl, h3 2 _ rfl, h3 3 _ rfl, h3 4 _ rfl, h3 5 _ rfl, h3 6 _ rfl, h3 7 _ rfl⟩, ⟨blocks_row g5 ok.file ok2, ?_⟩, ?_⟩⟩
      · rw [e]; exact names_row g7 ok.names
      · rw [e]; exact ⟨rfl, rfl, rfl⟩
    · exact ⟨⟨0, 0, 0, 0, 0, none, 0, 0, ⟨#[]⟩, none, 0, 0⟩, fun h => absurd h hj⟩
  exact ⟨fun j => Classical.choose (each j), ⟨hl, .inr ⟨b, o, rfl, hb, fun j hj => (Classical.choose_spec (each j) hj).1⟩, fun j hj => (Classical.choose_spec (each j) hj).2.1.1, fun j hj => (Classical.choose_spec (each j) hj).2.1.2, fun _ _ _ => trivial⟩,
    fun j hj => (Classical.choose_spec (each j) hj).2.2⟩
theorem keepC1 {V V' : World} (h : Below V.heap.size V V') {p : Addr} {v : Value} (hc : V.cell? p = some v) : V'.cell? p = some v := (h.cell (World.block_lt_of_cell? _ _ hc)).trans hc
theorem box8_of {w : World} {g : Nat} {i k m l s : Int} {B : Value} {t : ByteArray} {N : Value} (h : w.heap[g]? = some (.cells #[.int .i64 i, .int .i64 k, .int .i64 m, .int .i64 l, .int .i64 s, B, .string t, N] 42 (0, 0))) : Box8 w g i k m l s B t N :=
  ⟨(blk_cell h 0).trans rfl, (blk_cell h 1).trans rfl, (blk_cell h 2).trans rfl, (blk_cell h 3).trans rfl, (blk_cell h 4).trans rfl, (blk_cell h 5).trans rfl, (blk_cell h 6).trans rfl, (blk_cell h 7).trans rfl, fun j => blk_frozen h j, blk_lt h⟩
theorem less_total : ∀ (x y : List UInt8), Op.bytesLess x y = false → x ≠ y → Op.bytesLess y x = true
  | [], [], _, h => absurd rfl h
  | [], b :: y, h, _ => by simp [Op.bytesLess] at h
  | a :: x, [], _, _ => by simp [Op.bytesLess]
  | a :: x, b :: y, h, hne => by
    simp only [Op.bytesLess, Bool.or_eq_false_iff, decide_eq_false_iff_not, Bool.and_eq_false_iff, beq_eq_false_iff_ne] at h
    simp only [Op.bytesLess, Bool.or_eq_true, decide_eq_true_eq, Bool.and_eq_true, beq_iff_eq]
    obtain ⟨h1, h2⟩ := h
    by_cases hab : b < a
    · exact .inl hab
    · have he : b = a := UInt8.le_antisymm (UInt8.not_lt.1 h1) (UInt8.not_lt.1 hab)
      subst he
      refine .inr ⟨rfl, less_total x y (h2.resolve_left (fun h => h rfl)) fun e => hne (by rw [e])⟩
theorem not_leq {x y : List UInt8} (h : (Op.bytesLess x y || x == y) = false) : Op.bytesLess y x = true := by
  rw [Bool.or_eq_false_iff] at h
  exact less_total x y h.1 (beq_eq_false_iff_ne.1 h.2)
theorem good_step {l : List S42} {N : List S62} {j : Nat} {q7 : Bool} (h : Good l N j) (hj : j < N.length) (hq : false = false → q7 = true ∧ (0 < j → Op.bytesLess (nmL N (j - 1)).toList (nmL N j).toList = true)) (h7 : q7 = (getN l (inoL N j)).isSome) : Good l N (j + 1) := by
  obtain ⟨h1, h2⟩ := hq rfl
  have at_ : ∀ {t : Nat} {x : S62}, N[t]? = some x → N.getD t z62 = x := fun {t x} hx => by rw [List.getD_eq_getElem?_getD, hx]; rfl
  refine ⟨fun t ht x y hx hy => ?_, fun t ht x hx => ?_⟩
  · rcases Nat.lt_or_ge (t + 1) j with h' | h'
    · exact h.1 t h' x y hx hy
    · obtain rfl : j = t + 1 := by omega
      have := h2 (by omega)
      unfold nmL at this
      rw [Nat.add_sub_cancel, at_ hx, at_ hy] at this
      exact this
  · rcases Nat.lt_or_ge t j with h' | h'
    · exact h.2 t h' x hx
    · obtain rfl : j = t := by omega
      unfold inoL at h7
      rw [at_ hx] at h7
      rw [← h7]; exact h1
end Go.Proofs.YtaeakifdamlnlaaDoor
set_option linter.unusedVariables false
set_option linter.unusedSimpArgs false
set_option maxRecDepth 100000
namespace Go.Proofs.YtaeakifdamlnlaaDoor
open Go.RowKit Go.Lib Go.Proofs.YtaeakifdamlnlaaDoorW.PrintWords Go.Proofs.YtaeakifdamlnlaaDoorW.PrintMore PMarkTells
/-- the box of a disk, in a call -/
structure DBox (w W : World) (B I Nx : Int) (D : Value) : Prop where
  d0 : W.cell? ⟨w.heap.size, 0, none⟩ = some (.int .i64 B)
  d1 : W.cell? ⟨w.heap.size, 1, none⟩ = some (.int .i64 I)
  d2 : W.cell? ⟨w.heap.size, 2, none⟩ = some (.int .i64 Nx)
  d3 : W.cell? ⟨w.heap.size, 3, none⟩ = some D
  b : Below w.heap.size w W
  lt : w.heap.size < W.heap.size
theorem DBox.on {w W W' : World} {B I Nx : Int} {D : Value} (h : DBox w W B I Nx D) (hb : Below W.heap.size W W') : DBox w W' B I Nx D :=
  ⟨(hb.cell h.lt).trans h.d0, (hb.cell h.lt).trans h.d1, (hb.cell h.lt).trans h.d2, (hb.cell h.lt).trans h.d3, h.b.trans (hb.mono h.b.size), Nat.lt_of_lt_of_le h.lt hb.size⟩
theorem dbox_start (w : World) (B I Nx : Int) (D : Value) : DBox w (w.alloc (.cells #[.int .i64 B, .int .i64 I, .int .i64 Nx, D] 24)) B I Nx D := by
  refine ⟨?_, ?_, ?_, ?_, (Below.refl _ _).alloc (Nat.le_refl _) _, by simp⟩
  all_goals (rw [World.cell?_alloc_at _ _ _ _ rfl]; rfl)
theorem DBox.past {w W : World} {B I Nx : Int} {D : Value} (h : DBox w W B I Nx D) (o : Obj) : DBox w (W.alloc o) B I Nx D := h.on ((Below.refl _ _).alloc (Nat.le_refl _) _)
theorem DBox.far {w W : World} {B I Nx : Int} {D : Value} (h : DBox w W B I Nx D) {g : Nat} (hg : w.heap.size < g) (j : Nat) (v : Value) : DBox w (W.setCell ⟨g, j, none⟩ v) B I Nx D := by
  have e : ∀ j', (W.setCell ⟨g, j, none⟩ v).cell? ⟨w.heap.size, j', none⟩ = W.cell? ⟨w.heap.size, j', none⟩ := fun j' => World.cell?_setCell_far _ _ _ _ (by dsimp only; omega)
  exact ⟨(e 0).trans h.d0, (e 1).trans h.d1, (e 2).trans h.d2, (e 3).trans h.d3, h.b.setCell (by dsimp only; omega) _, by simpa [World.setCell] using h.lt⟩
/-- what a disk that is such tells of its first nodes -/
def IsTo (l : List S42) (j : Nat) : Prop := (∀ t, t + 1 < j → ∀ x y, l[t]? = some x → l[t + 1]? = some y → x.f0 < y.f0) ∧ ∀ t, t < j → ∀ x, l[t]? = some x → Good l x.f6 x.f6.length
theorem isTo_step {l : List S42} {j : Nat} (h : IsTo l j) (x : S42) (hx : l[j]? = some x) (h1 : 0 < j → ∀ y, l[j - 1]? = some y → y.f0 < x.f0) (h2 : Good l x.f6 x.f6.length) : IsTo l (j + 1) := by
  refine ⟨fun t ht a b ha hb => ?_, fun t ht a ha => ?_⟩
  · rcases Nat.lt_or_ge (t + 1) j with h' | h'
    · exact h.1 t h' a b ha hb
    · obtain rfl : j = t + 1 := by omega
      rw [hx] at hb; cases hb
      exact h1 (by omega) a (by rw [Nat.add_sub_cancel]; exact ha)
  · rcases Nat.lt_or_ge t j with h' | h'
    · exact h.2 t h' a ha
    · obtain rfl : j = t := by omega
      rw [hx] at ha; cases ha
      exact h2
end Go.Proofs.YtaeakifdamlnlaaDoor
