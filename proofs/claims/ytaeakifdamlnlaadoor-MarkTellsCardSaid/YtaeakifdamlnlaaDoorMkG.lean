/- That Is answers on a disk in memory. Conditions: those the theorem states. -/
import Derived.Test.YtaeakifdamlnlaaDoorMkF
import Derived.Test.YtaeakifdamlnlaaDoorMkE
import Derived.Deep.DeepMust
import Derived.Deep.RegionHeld3
import Derived.BigQuiet
import Derived.Deep.DeepCutAuto
import Derived.Deep.CutBlock
set_option linter.unusedVariables false
set_option linter.unusedSimpArgs false
set_option maxRecDepth 100000
namespace Go.Proofs.YtaeakifdamlnlaaDoor
open Go.RowKit Go.Lib Go.Proofs.YtaeakifdamlnlaaDoorW.PrintWords Go.Proofs.YtaeakifdamlnlaaDoorW.PrintMore Go.Proofs.YtaeakifdamlnlaaDoorW.PrintLast PMarkTells
def NodeAt (w : World) (b p : Nat) (x : S42) (A5 : Option Addr) (c5 : Nat) (A7 : Option Addr) (c7 : Nat) : Prop :=
  w.cell? ⟨b, p, none⟩ = some (.int .i64 x.f0) ∧ w.cell? ⟨b, p + 1, none⟩ = some (.int .i64 x.f1) ∧ w.cell? ⟨b, p + 2, none⟩ = some (.int .i64 x.f2) ∧ w.cell? ⟨b, p + 3, none⟩ = some (.int .i64 x.f3) ∧
    w.cell? ⟨b, p + 4, none⟩ = some (.int .i64 x.f4.f0) ∧ w.cell? ⟨b, p + 5, none⟩ = some (.slice A5 x.f4.f1.length c5) ∧ w.cell? ⟨b, p + 6, none⟩ = some (.string x.f5) ∧ w.cell? ⟨b, p + 7, none⟩ = some (.slice A7 x.f6.length c7)
theorem NodeAt.on {w w' : World} {b p : Nat} {x : S42} {A5 : Option Addr} {c5 : Nat} {A7 : Option Addr} {c7 : Nat} (h : NodeAt w b p x A5 c5 A7 c7) {M : Nat} (hb : Below M w w') (hB : b < M) : NodeAt w' b p x A5 c5 A7 c7 := by
  obtain ⟨h0, h1, h2, h3, h4, h5, h6, h7⟩ := h
  exact ⟨(hb.cell hB).trans h0, (hb.cell hB).trans h1, (hb.cell hB).trans h2, (hb.cell hB).trans h3, (hb.cell hB).trans h4, (hb.cell hB).trans h5, (hb.cell hB).trans h6, (hb.cell hB).trans h7⟩
theorem nodes_at {w : World} {A : Option Addr} {l : List S42} (h : Kd.C k42 w A l.length l) : l.length = 0 ∨ ∃ b o, A = some ⟨b, o, none⟩ ∧ b < w.heap.size ∧ ∀ j x, l[j]? = some x →
    ∃ A5 c5 A7 c7, NodeAt w b (o + j * 8) x A5 c5 A7 c7 ∧ x.f4.f1.length ≤ c5 ∧ Kd.C k69 w A5 x.f4.f1.length x.f4.f1 ∧ x.f6.length ≤ c7 ∧ Kd.C k62 w A7 x.f6.length x.f6 := by
  rcases Nat.eq_zero_or_pos l.length with h0 | h0
  · exact .inl h0
  obtain ⟨b, o, rfl, hb, hc⟩ := kd_at h h0 (by decide)
  refine .inr ⟨b, o, rfl, hb, fun j x hx => ?_⟩
  obtain ⟨c, h1, h2, h3⟩ := hc j _ hx
  obtain ⟨A5, c5, A7, c7, rfl, l5, g5, l7, g7⟩ := k42_open h2
  exact ⟨A5, c5, A7, c7, ⟨h3 0 _ rfl, h3 1 _ rfl, h3 2 _ rfl, h3 3 _ rfl, h3 4 _ rfl, h3 5 _ rfl, h3 6 _ rfl, h3 7 _ rfl⟩, l5, g5, l7, g7⟩
theorem alloc_new (w : World) (o : Obj) : (w.alloc o).heap[w.heap.size]? = some o := by
  show (w.heap.push o)[w.heap.size]? = _
  simp
def isd_T8 : Bool × List (List Nat × List Nat) := (true, [([], []), ([0], [0]), ([], []), ([2], [2]), ([1, 3], [1, 3]), ([4], [4]), ([5], [5]), ([6, 5], [5, 6]), ([7, 5, 5], [5, 7]), ([8], [8]), ([9, 8], [8, 9]), ([8], [8]), ([11, 8], [8, 11]), ([8], [8]), ([13, 8], [8, 13]), ([12, 14, 8], [8, 12, 14]), ([15, 8], [8, 15]), ([16, 8], [8, 16]), ([10, 17, 8], [8, 10, 17]), ([8, 18, 5], [5, 8, 18]), ([5, 19], [5, 19]), ([20, 8], [20]), ([21], [21]), ([21], [21]), ([22, 23, 21, 21], [21, 22, 23]), ([24, 21], [21, 24]), ([21, 25], [21, 25])])
def isd_B8 : List Nat := [0, 1, 0, 4, 15, 31, 63, 127, 255, 511, 1023, 511, 2559, 511, 8703, 31231, 63999, 129535, 262143, 524287, 1048575, 2097151, 4194303, 4194303, 16777215, 33554431, 67108863]
theorem isd_tab8 : rtab .any (opsOf Tryd.f6 8) = isd_T8 := by kernel_rfl
theorem isd_bits8 : waitsOk isd_T8.2 isd_B8 = true := by kernel_rfl
theorem keepC {V V' : World} (h : Below V.heap.size V V') {p : Addr} {v : Value} (hc : V.cell? p = some v) : V'.cell? p = some v := (h.cell (World.block_lt_of_cell? _ _ hc)).trans hc
set_option maxHeartbeats 4000000 in
theorem isD (B I Nx : Int) (A : Option Addr) (c : Nat) (l : List S42) (w : World) (hr : Kd.C k42 w A l.length l) (hc : l.length ≤ c)
    (hl : l.length ≤ 4398046511104) (hok : ∀ y ∈ l, NodeOk y) (hbl : ∀ y ∈ l, y.f4.f1.length ≤ 4398046511104) (hts : ∀ y ∈ l, y.f5.size ≤ 9223372036854775807) (hns : ∀ y ∈ l, ∀ z ∈ y.f6, z.f0.size ≤ 140737488355328) :
    Calls Tryd.prog 6 #[.agg #[.int .i64 B, .int .i64 I, .int .i64 Nx, .slice A l.length c]] w fun e w' => ∃ q : Bool, e = .returned (.bool q) ∧ (q = true → IsTo l l.length ∧ 1 ∈ inos l) ∧ Below w.heap.size w w' := by
  have h20 : ∀ W, Below w.heap.size w W → Calls Tryd.prog 20 #[.agg #[.int .i64 B, .int .i64 I, .int .i64 Nx, .slice A l.length c]] W fun e w' => ∃ m : Int, e = .returned (.tuple #[.int .i64 m, .int .i64 (l.length : Nat)]) ∧ Below W.heap.size W w' := fun W hW => by
    obtain ⟨kk, m, h⟩ := used_ends B I Nx l hl
    exact (veneerref3_Used.calls kk B I Nx A c l m _ W (Kd.C_below hr hW) hc h).mono fun e w' ⟨h1, h2⟩ => ⟨m, h1, h2⟩
  have h22 : ∀ (x : Int) (W : World), Below w.heap.size w W → Calls Tryd.prog 22 #[.agg #[.int .i64 B, .int .i64 I, .int .i64 Nx, .slice A l.length c], .int .i64 x] W fun e w' => ∃ m : Int, e = .returned (.int .i64 m) ∧ Below W.heap.size W w' := fun x W hW => by
    obtain ⟨kk, m, h⟩ := many_ends B I Nx x l hl hok
    exact (veneerref3_named.calls kk B I Nx A c l x m W (Kd.C_below hr hW) hc h).mono fun e w' ⟨h1, h2⟩ => ⟨m, h1, h2⟩
  have h21 : ∀ (j : Nat) (x : S42) (A5 : Option Addr) (c5 : Nat) (A7 : Option Addr) (c7 : Nat), l[j]? = some x → x.f4.f1.length ≤ c5 → Kd.C k69 w A5 x.f4.f1.length x.f4.f1 → x.f6.length ≤ c7 → Kd.C k62 w A7 x.f6.length x.f6 → ∀ W, Below w.heap.size w W →
      Calls Tryd.prog 21 #[.agg #[.int .i64 B, .int .i64 I, .int .i64 Nx, .slice A l.length c], .agg #[.int .i64 x.f0, .int .i64 x.f1, .int .i64 x.f2, .int .i64 x.f3, .int .i64 x.f4.f0, .slice A5 x.f4.f1.length c5, .string x.f5, .slice A7 x.f6.length c7]] W
        fun e w' => ∃ q : Bool, e = .returned (.bool q) ∧ Aside (q = true → Good l x.f6 x.f6.length) ∧ Below W.heap.size W w' := fun j x A5 c5 A7 c7 hx g1 g2 g3 g4 W hW => by
    have hm : x ∈ l := List.mem_of_getElem? hx
    exact sound B I Nx A c l x.f0 x.f1 x.f2 x.f3 x.f4.f0 A5 c5 x.f4.f1 x.f5 A7 c7 x.f6 W (Kd.C_below hr hW) hc (Kd.C_below g2 hW) g1 (Kd.C_below g4 hW) g3 hl hok (hbl x hm) (hts x hm) (hok x hm).names (hns x hm)
  have h23 : 1 ∈ inos l → IsTo l l.length → ∀ (W : World), Below w.heap.size w W → ∀ (g : Nat) (k : Nat), W.heap[g]? = some (.cells #[.int .i64 1] 2 (0, 0)) → Calls Tryd.prog 23 #[.agg #[.int .i64 B, .int .i64 I, .int .i64 Nx, .slice A l.length c], .int .i64 1, .int .i64 16, .slice (some ⟨g, 0, none⟩) 1 1] W
      fun e w' => ∃ (S : Option Addr) (m u : Nat) (q : Bool), e = .returned (.tuple #[.slice S m u, .bool q]) ∧ Below W.heap.size W w' := fun h1 hI W hW g k hg => by
    have hd : Disk' l := ⟨hl, hok, fun y hy z hz => ?_⟩
    · obtain ⟨kk, r, q, h⟩ := reached_ends B I Nx l hd h1
      refine (veneerref3_reached.calls kk B I Nx A c l 1 16 (fun k => k = g) (some ⟨g, 0, none⟩) 1 [1] r q W (Kd.C_below hr hW) hc ?_ h).mono fun e w' ⟨v0, h1, h2, h3⟩ => ?_
      · refine ⟨_, _, rfl, Nat.le_refl _, fun W' hW' => ?_⟩
        have hg' : W'.heap[g]? = some (.cells #[.int .i64 1] 2 (0, 0)) := (hW' g rfl (by rcases Nat.lt_or_ge g W.heap.size with h | h; exact h; rw [Array.getElem?_eq_none h] at hg; cases hg)).trans hg
        refine ⟨rfl, by decide, fun _ => ⟨_, rfl, fun j p hp => ?_⟩⟩
        cases j with
        | zero =>
          cases hp
          refine ⟨[.int .i64 1], rfl, rfl, fun i u hu => ?_⟩
          cases i with
          | zero => cases hu; unfold World.cell? Addr.add; simp [hg']
          | succ i => simp at hu
        | succ j => simp at hp
      · obtain ⟨S, u, rfl, -⟩ := h2
        exact ⟨S, _, u, q, h1, h3⟩
    · obtain ⟨t, ht, hty⟩ := List.getElem_of_mem hy
      obtain ⟨s, hs, hsz⟩ := List.getElem_of_mem hz
      have hG := (hI.2 t ht y (by rw [List.getElem?_eq_getElem ht, hty])).2 s hs z (by rw [List.getElem?_eq_getElem hs, hsz])
      obtain ⟨y', hy'⟩ := Option.isSome_iff_exists.1 hG
      unfold getN at hy'
      exact List.mem_map.2 ⟨y', List.mem_of_find?_eq_some hy', by have := List.find?_some hy'; simpa using this⟩
  have HNA : Aside _ := nodes_at hr
  have H21 : Aside _ := h21
  have H22 : Aside _ := h22
  have H23 : Aside _ := h23
  clear h21 h22 h23 hr hok hbl hts hns
  obtain ⟨n, hn⟩ : ∃ n, l.length = n := ⟨_, rfl⟩
  rw [hn] at h20 H21 H22 H23 HNA hl hc ⊢
  have HN : Aside (l.length = n) := hn
  clear hn
  go_enter Tryd.func6, Tryd.ntmps6
  go_upto_region 2 with (go_at_call 20; refine (h20 _ ((Below.refl _ _).alloc (Nat.le_refl _) _)).mono ?_; rintro e w1 ⟨m, rfl, hb1⟩; (have X1 : Aside (DBox w w1 B I Nx (.slice A n c)) := (dbox_start w B I Nx (.slice A n c)).on hb1); clear hb1)
  clear h20
  go_cut [74] (fun v74 wc => ∃ q : Bool, v74 = .bool q ∧ Aside (q = false → 1 ∈ inos l) ∧ Aside (DBox w wc B I Nx (.slice A n c)))
  case first =>
    obtain ⟨d0, d1, d2, d3, -, -⟩ := X1.out
    by_cases p0 : B < 0
    · have b0 : decide (B < 0) = true := decide_eq_true p0
      clear p0
      go_wp2
      go_meet
      case rel => exact ⟨true, rfl, fun h => (by cases h), X1⟩
    · have b0 : decide (B < 0) = false := decide_eq_false p0
      by_cases p1 : 1048576 < B
      · have b1 : decide (1048576 < B) = true := decide_eq_true p1
        clear p1
        go_wp2
        go_meet
        case rel => exact ⟨true, rfl, fun h => (by cases h), X1⟩
      · have b1 : decide (1048576 < B) = false := decide_eq_false p1
        by_cases p2 : I < 1
        · have b2 : decide (I < 1) = true := decide_eq_true p2
          clear p2
          go_wp2
          go_meet
          case rel => exact ⟨true, rfl, fun h => (by cases h), X1⟩
        · have b2 : decide (I < 1) = false := decide_eq_false p2
          by_cases p3 : 4096 < I
          · have b3 : decide (4096 < I) = true := decide_eq_true p3
            clear p3
            go_wp2
            go_meet
            case rel => exact ⟨true, rfl, fun h => (by cases h), X1⟩
          · have b3 : decide (4096 < I) = false := decide_eq_false p3
            by_cases p4 : B < m
            · have b4 : decide (B < m) = true := decide_eq_true p4
              clear p4
              go_wp2
              go_meet
              case rel => exact ⟨true, rfl, fun h => (by cases h), X1⟩
            · have b4 : decide (B < m) = false := decide_eq_false p4
              by_cases p5 : I < (n : Int)
              · have b5 : decide (I < (n : Int)) = true := decide_eq_true p5
                clear p5
                go_wp2
                go_meet
                case rel => exact ⟨true, rfl, fun h => (by cases h), X1⟩
              · have b5 : decide (I < (n : Int)) = false := decide_eq_false p5
                by_cases p6 : Nx < 1
                · have b6 : decide (Nx < 1) = true := decide_eq_true p6
                  clear p6
                  go_wp2
                  go_meet
                  case rel => exact ⟨true, rfl, fun h => (by cases h), X1⟩
                · have b6 : decide (Nx < 1) = false := decide_eq_false p6
                  by_cases p7 : 4611686018427387904 ≤ Nx
                  · have b7 : decide (4611686018427387904 ≤ Nx) = true := decide_eq_true p7
                    clear p7
                    go_wp2
                    go_meet
                    case rel => exact ⟨true, rfl, fun h => (by cases h), X1⟩
                  · have b7 : decide (4611686018427387904 ≤ Nx) = false := decide_eq_false p7
                    rcases Nat.eq_zero_or_pos n with hn0 | hn0
                    · subst hn0
                      go_wp2
                      go_meet
                      case rel => exact ⟨true, rfl, fun h => (by cases h), X1⟩
                    · obtain ⟨b, o, rfl, hb, hNA⟩ := HNA.out.resolve_left (by omega)
                      have h0l : 0 < l.length := by have := HN.out; omega
                      obtain ⟨A5, c5, A7, c7, hN0, -⟩ := hNA 0 _ (List.getElem?_eq_getElem h0l)
                      obtain ⟨e0, e1, -⟩ := hN0.on X1.out.b hb
                      rw [Nat.zero_mul, Nat.add_zero] at e0 e1
                      clear hNA hN0
                      have hp : (0 : Int) < (n : Int) := by omega
                      have hne : ((n : Int) == 0) = false := beq_eq_false_iff_ne.2 (by omega)
                      have hne2 : (n == 0) = false := beq_eq_false_iff_ne.2 (by omega)
                      have HX : Aside (l[0].f0 ∈ inos l) := List.mem_map.2 ⟨l[0], List.getElem_mem h0l, rfl⟩
                      generalize l[0].f0 = y0 at e0 HX
                      generalize l[0].f1 = y1 at e1
                      by_cases p9 : y0 = 1
                      · have r1 : (y0 != 1) = false := bne_eq_false_iff_eq.2 p9
                        have r2 : (y0 == 1) = true := beq_iff_eq.2 p9
                        have HX1 : Aside (1 ∈ inos l) := p9 ▸ HX.out
                        clear p9
                        go_wp2
                        go_meet
                        case rel => exact ⟨_, rfl, fun _ => HX1.out, X1⟩
                      · have r1 : (y0 != 1) = true := bne_iff_ne.2 p9
                        have r2 : (y0 == 1) = false := beq_eq_false_iff_ne.2 p9
                        clear p9
                        go_wp2
                        go_meet
                        case rel => exact ⟨true, rfl, fun h => (by cases h), X1⟩
  case rest =>
    obtain ⟨q, rfl, hq1, X2⟩ := hcut
    clear X1
    cases q with
    | true =>
      go_wp2
      go_ret
      exact ⟨false, rfl, fun h => (by cases h), X2.out.b⟩
    | false =>
      go_upto_region 4 with fail
      go_wp2_with fail
      go_loopg [5] n (fun g v5 w' => ∃ j : Nat, j ≤ n ∧ v5 = .int .i64 j ∧ Aside (g = n - j) ∧ Aside (IsTo l j) ∧ Aside (DBox w w' B I Nx (.slice A n c)))
      case atStart => exact ⟨0, Nat.zero_le _, rfl, rfl, ⟨fun t h => by omega, fun t h => by omega⟩, X2⟩
      case round =>
        obtain ⟨j, hj, rfl, hg, hI, XW⟩ := hrel
        clear X2
        by_cases hlt : j < n
        · obtain ⟨b, o, rfl, hb, hNA⟩ := HNA.out.resolve_left (by omega)
          have hjl : j < l.length := by have := HN.out; omega
          obtain ⟨x, hx⟩ : ∃ x, l[j]? = some x := ⟨_, List.getElem?_eq_getElem hjl⟩
          obtain ⟨A5, c5, A7, c7, hNj, g1, g2, g3, g4⟩ := hNA j x hx
          have h21 := H21.out j x A5 c5 A7 c7 hx g1 g2 g3 g4
          have h22 := H22.out x.f0
          have Hx : Aside (l[j]? = some x) := hx
          have HNA2 : Aside _ := hNA
          obtain ⟨e0, e1, e2, e3, e4, e5, e6, e7⟩ := hNj.on XW.out.b hb
          obtain ⟨d0, d1, d2, d3, -, wl⟩ := XW.out
          have hbw : b < wr.heap.size := Nat.lt_of_lt_of_le hb XW.out.b.size
          clear g1 g2 g3 g4 hx hNA hNj hjl
          have H21' : Aside _ := h21
          have H22' : Aside _ := h22
          clear h21 h22
          go_upto_region 7 with fail
          go_cut [6] (fun v6 wc => ∃ g, v6 = .pointer (some ⟨g, 0, none⟩) ∧ Aside (DBox w wc B I Nx (.slice (some ⟨b, o, none⟩) n c)) ∧ Aside (Box8 wc g x.f0 x.f1 x.f2 x.f3 x.f4.f0 (.slice A5 x.f4.f1.length c5) x.f5 (.slice A7 x.f6.length c7)) ∧ Aside (w.heap.size < g))
          case first =>
            go_wp2
            go_meet
            case rel => exact ⟨_, rfl, XW.out.past _, box8_alloc wr x.f0 x.f1 x.f2 x.f3 x.f4.f0 (.slice A5 x.f4.f1.length c5) x.f5 (.slice A7 x.f6.length c7) 42 rfl, wl⟩
          case rest =>
            obtain ⟨g, rfl, XD, XB, hgl⟩ := hcut
            clear XW e0 e1 e2 e3 e4 e5 e6 e7 d0 d1 d2 d3 wl hbw
            go_upto_region 8 with fail
            go_cut [111] (fun v111 wc => ∃ q : Bool, v111 = .bool q ∧ Aside (q = false → (0 < j → ∀ y, l[j - 1]? = some y → y.f0 < x.f0) ∧ Good l x.f6 x.f6.length) ∧ Aside (DBox w wc B I Nx (.slice (some ⟨b, o, none⟩) n c)) ∧ Aside (Box8 wc g x.f0 x.f1 x.f2 x.f3 x.f4.f0 (.slice A5 x.f4.f1.length c5) x.f5 (.slice A7 x.f6.length c7)))
            case first =>
              obtain ⟨d0, d1, d2, d3, -, -⟩ := XD.out
              obtain ⟨n0, n1, n2, n3, n4, n5, n6, n7, -, -⟩ := XB.out
              have h21 := H21'.out
              by_cases p1 : Nx ≤ x.f0
              · have b1 : decide (Nx ≤ x.f0) = true := decide_eq_true p1
                clear p1 h21
                go_quiet (fail)
                go_wp2
                go_meet
                case rel => exact ⟨true, rfl, fun h => (by cases h), XD.out.on (below_drewN (Below.refl _ _) _), XB.out.on (below_drewN (Below.refl _ _) _)⟩
              · have b1 : decide (Nx ≤ x.f0) = false := decide_eq_false p1
                clear p1
                rcases Nat.eq_zero_or_pos j with hj0 | hj0
                · have b2 : decide ((0 : Int) < (j : Int)) = false := decide_eq_false (by omega)
                  have b3 : decide (0 < j) = false := decide_eq_false (by omega)
                  have HJ0 : Aside (j = 0) := hj0
                  clear hj0
                  have XDd : Aside (DBox w wc.drew B I Nx (.slice (some ⟨b, o, none⟩) n c)) := XD.out.on (Below.refl _ _).drew
                  have XBd : Aside (Box8 wc.drew g x.f0 x.f1 x.f2 x.f3 x.f4.f0 (.slice A5 x.f4.f1.length c5) x.f5 (.slice A7 x.f6.length c7)) := XB.out.on (Below.refl _ _).drew
                  clear XD XB n0 n1 n2 n3 n4 n5 n6 n7 d0 d1 d2 d3
                  refine start_ (n := 27) (S := fun w' => w'.cell? ⟨g, 0, none⟩ = some (.int .i64 x.f0) ∧ w'.cell? ⟨g, 1, none⟩ = some (.int .i64 x.f1) ∧ w'.cell? ⟨g, 2, none⟩ = some (.int .i64 x.f2) ∧ w'.cell? ⟨g, 3, none⟩ = some (.int .i64 x.f3) ∧ w'.cell? ⟨g, 4, none⟩ = some (.int .i64 x.f4.f0) ∧ w'.cell? ⟨g, 5, none⟩ = some (.slice A5 x.f4.f1.length c5) ∧ w'.cell? ⟨g, 6, none⟩ = some (.string x.f5) ∧ w'.cell? ⟨g, 7, none⟩ = some (.slice A7 x.f6.length c7) ∧ w'.cell? ⟨w.heap.size, 0, none⟩ = some (.int .i64 B) ∧ w'.cell? ⟨w.heap.size, 1, none⟩ = some (.int .i64 I) ∧ w'.cell? ⟨w.heap.size, 2, none⟩ = some (.int .i64 Nx) ∧ w'.cell? ⟨w.heap.size, 3, none⟩ = some (.slice (some ⟨b, o, none⟩) n c)) (ds := []) #[false, false, false, false, false, false, false, false, false, false, false, false, false, false, false, false, false, false, false, false, false, false, false, false, false, false, false] (by kernel_rfl) rfl rfl ⟨XBd.out.c0, XBd.out.c1, XBd.out.c2, XBd.out.c3, XBd.out.c4, XBd.out.c5, XBd.out.c6, XBd.out.c7, XDd.out.d0, XDd.out.d1, XDd.out.d2, XDd.out.d3⟩ (fun hHeld => ?_); refine with_tabW isd_tab8 isd_bits8 (fun HT_ HW_ => ?_)
                  generalize wc.drew = wd at XDd XBd hHeld ⊢
                  refine pure_ (i := 0) (N := some 85) (v := ?_) (a' := ?_) #[true, false, false, false, false, false, false, false, false, false, false, false, false, false, false, false, false, false, false, false, false, false, false, false, false, false, false] rfl rfl (any_of HT_.out (by kernel_rfl)) (fun _ _ _ h => h) (Or.inl ⟨by rfl, ?_⟩) ?_ ?_
                  rotate_left
                  · intro w'
                    go_simp
                    with_reducible rfl
                  rotate_left
                  · simp only [Act.put, List.setIfInBounds_toArray, List.set_cons_zero, List.set_cons_succ, i64_w, i32_w]
                    rfl
                  refine pure_ (i := 2) (N := some 87) (v := ?_) (a' := ?_) #[true, false, true, false, false, false, false, false, false, false, false, false, false, false, false, false, false, false, false, false, false, false, false, false, false, false, false] rfl rfl (any_of HT_.out (by kernel_rfl)) (fun _ _ _ h => h) (Or.inl ⟨by rfl, ?_⟩) ?_ ?_
                  rotate_left
                  · intro w'
                    go_simp
                    with_reducible rfl
                  rotate_left
                  · simp only [Act.put, List.setIfInBounds_toArray, List.set_cons_zero, List.set_cons_succ, i64_w, i32_w]
                    rfl
                  refine take_ (i := 1) (N := some 86) (v := ?_) (a' := ?_) #[true, true, true, false, false, false, false, false, false, false, false, false, false, false, false, false, false, false, false, false, false, false, false, false, false, false, false] rfl rfl (take_ofW HT_.out HW_.out (by kernel_rfl)) (fun _ _ _ h => h) (Or.inl ⟨by rfl, ?_⟩) hHeld ?_ ?_
                  rotate_left
                  · rintro w' ⟨s0, s1, s2, s3, s4, s5, s6, s7, s8, s9, s10, s11⟩
                    go_simp
                    with_reducible rfl
                  rotate_left
                  · simp only [Act.put, List.setIfInBounds_toArray, List.set_cons_zero, List.set_cons_succ, i64_w, i32_w]
                    rfl
                  refine take_ (i := 3) (N := some 88) (v := ?_) (a' := ?_) #[true, true, true, true, false, false, false, false, false, false, false, false, false, false, false, false, false, false, false, false, false, false, false, false, false, false, false] rfl rfl (take_ofW HT_.out HW_.out (by kernel_rfl)) (fun _ _ _ h => h) (Or.inl ⟨by rfl, ?_⟩) hHeld ?_ ?_
                  rotate_left
                  · rintro w' ⟨s0, s1, s2, s3, s4, s5, s6, s7, s8, s9, s10, s11⟩
                    go_simp
                    with_reducible rfl
                  rotate_left
                  · simp only [Act.put, List.setIfInBounds_toArray, List.set_cons_zero, List.set_cons_succ, i64_w, i32_w]
                    rfl
                  refine pure_ (i := 4) (N := some 89) (v := ?_) (a' := ?_) #[true, true, true, true, true, false, false, false, false, false, false, false, false, false, false, false, false, false, false, false, false, false, false, false, false, false, false] rfl rfl (any_of HT_.out (by kernel_rfl)) (fun _ _ _ h => h) (Or.inl ⟨by rfl, ?_⟩) ?_ ?_
                  rotate_left
                  · intro w'
                    go_simp
                    with_reducible rfl
                  rotate_left
                  · simp only [Act.put, List.setIfInBounds_toArray, List.set_cons_zero, List.set_cons_succ, i64_w, i32_w]
                    rfl
                  refine pure_ (i := 5) (N := some 90) (v := ?_) (a' := ?_) #[true, true, true, true, true, true, false, false, false, false, false, false, false, false, false, false, false, false, false, false, false, false, false, false, false, false, false] rfl rfl (any_of HT_.out (by kernel_rfl)) (fun _ _ _ h => h) (Or.inl ⟨by rfl, ?_⟩) ?_ ?_
                  rotate_left
                  · intro w'
                    go_simp
                    with_reducible rfl
                  rotate_left
                  · simp only [Act.put, List.setIfInBounds_toArray, List.set_cons_zero, List.set_cons_succ, i64_w, i32_w]
                    rfl
                  refine pure_ (i := 6) (N := some 91) (v := ?_) (a' := ?_) #[true, true, true, true, true, true, true, false, false, false, false, false, false, false, false, false, false, false, false, false, false, false, false, false, false, false, false] rfl rfl (any_of HT_.out (by kernel_rfl)) (fun _ _ _ h => h) (Or.inl ⟨by rfl, ?_⟩) ?_ ?_
                  rotate_left
                  · intro w'
                    go_simp
                    with_reducible rfl
                  rotate_left
                  · simp only [Act.put, List.setIfInBounds_toArray, List.set_cons_zero, List.set_cons_succ, i64_w, i32_w]
                    rfl
                  refine pure_ (i := 7) (N := some 92) (v := ?_) (a' := ?_) #[true, true, true, true, true, true, true, true, false, false, false, false, false, false, false, false, false, false, false, false, false, false, false, false, false, false, false] rfl rfl (any_of HT_.out (by kernel_rfl)) (fun _ _ _ h => h) (Or.inl ⟨by rfl, ?_⟩) ?_ ?_
                  rotate_left
                  · intro w'
                    go_simp
                    with_reducible rfl
                  rotate_left
                  · simp only [Act.put, List.setIfInBounds_toArray, List.set_cons_zero, List.set_cons_succ, i64_w, i32_w]
                    rfl
                  refine pure_ (i := 8) (N := some 93) (v := ?_) (a' := ?_) #[true, true, true, true, true, true, true, true, true, false, false, false, false, false, false, false, false, false, false, false, false, false, false, false, false, false, false] rfl rfl (any_of HT_.out (by kernel_rfl)) (fun _ _ _ h => h) (Or.inl ⟨by rfl, ?_⟩) ?_ ?_
                  rotate_left
                  · intro w'
                    go_simp
                    with_reducible rfl
                  rotate_left
                  · simp only [Act.put, List.setIfInBounds_toArray, List.set_cons_zero, List.set_cons_succ, i64_w, i32_w]
                    rfl
                  refine pure_ (i := 9) (N := some 94) (v := undef) (a' := ?_) #[true, true, true, true, true, true, true, true, true, true, false, false, false, false, false, false, false, false, false, false, false, false, false, false, false, false, false] rfl rfl (any_of HT_.out (by kernel_rfl)) (fun _ _ _ h => h) (Or.inr ⟨by rfl, rfl⟩) ?_ ?_
                  rotate_left
                  · simp only [Act.put, List.setIfInBounds_toArray, List.set_cons_zero, List.set_cons_succ, i64_w, i32_w]
                    rfl
                  refine pure_ (i := 10) (N := some 95) (v := undef) (a' := ?_) #[true, true, true, true, true, true, true, true, true, true, true, false, false, false, false, false, false, false, false, false, false, false, false, false, false, false, false] rfl rfl (any_of HT_.out (by kernel_rfl)) (fun _ _ _ h => h) (Or.inr ⟨by rfl, rfl⟩) ?_ ?_
                  rotate_left
                  · simp only [Act.put, List.setIfInBounds_toArray, List.set_cons_zero, List.set_cons_succ, i64_w, i32_w]
                    rfl
                  refine pure_ (i := 11) (N := some 96) (v := undef) (a' := ?_) #[true, true, true, true, true, true, true, true, true, true, true, true, false, false, false, false, false, false, false, false, false, false, false, false, false, false, false] rfl rfl (any_of HT_.out (by kernel_rfl)) (fun _ _ _ h => h) (Or.inr ⟨by rfl, rfl⟩) ?_ ?_
                  rotate_left
                  · simp only [Act.put, List.setIfInBounds_toArray, List.set_cons_zero, List.set_cons_succ, i64_w, i32_w]
                    rfl
                  refine pure_ (i := 12) (N := some 97) (v := undef) (a' := ?_) #[true, true, true, true, true, true, true, true, true, true, true, true, true, false, false, false, false, false, false, false, false, false, false, false, false, false, false] rfl rfl (any_of HT_.out (by kernel_rfl)) (fun _ _ _ h => h) (Or.inr ⟨by rfl, rfl⟩) ?_ ?_
                  rotate_left
                  · simp only [Act.put, List.setIfInBounds_toArray, List.set_cons_zero, List.set_cons_succ, i64_w, i32_w]
                    rfl
                  refine pure_ (i := 13) (N := some 98) (v := undef) (a' := ?_) #[true, true, true, true, true, true, true, true, true, true, true, true, true, true, false, false, false, false, false, false, false, false, false, false, false, false, false] rfl rfl (any_of HT_.out (by kernel_rfl)) (fun _ _ _ h => h) (Or.inr ⟨by rfl, rfl⟩) ?_ ?_
                  rotate_left
                  · simp only [Act.put, List.setIfInBounds_toArray, List.set_cons_zero, List.set_cons_succ, i64_w, i32_w]
                    rfl
                  refine pure_ (i := 14) (N := some 99) (v := undef) (a' := ?_) #[true, true, true, true, true, true, true, true, true, true, true, true, true, true, true, false, false, false, false, false, false, false, false, false, false, false, false] rfl rfl (any_of HT_.out (by kernel_rfl)) (fun _ _ _ h => h) (Or.inr ⟨by rfl, rfl⟩) ?_ ?_
                  rotate_left
                  · simp only [Act.put, List.setIfInBounds_toArray, List.set_cons_zero, List.set_cons_succ, i64_w, i32_w]
                    rfl
                  refine pure_ (i := 15) (N := some 100) (v := undef) (a' := ?_) #[true, true, true, true, true, true, true, true, true, true, true, true, true, true, true, true, false, false, false, false, false, false, false, false, false, false, false] rfl rfl (any_of HT_.out (by kernel_rfl)) (fun _ _ _ h => h) (Or.inr ⟨by rfl, rfl⟩) ?_ ?_
                  rotate_left
                  · simp only [Act.put, List.setIfInBounds_toArray, List.set_cons_zero, List.set_cons_succ, i64_w, i32_w]
                    rfl
                  refine pure_ (i := 16) (N := some 101) (v := undef) (a' := ?_) #[true, true, true, true, true, true, true, true, true, true, true, true, true, true, true, true, true, false, false, false, false, false, false, false, false, false, false] rfl rfl (any_of HT_.out (by kernel_rfl)) (fun _ _ _ h => h) (Or.inr ⟨by rfl, rfl⟩) ?_ ?_
                  rotate_left
                  · simp only [Act.put, List.setIfInBounds_toArray, List.set_cons_zero, List.set_cons_succ, i64_w, i32_w]
                    rfl
                  refine pure_ (i := 17) (N := some 102) (v := undef) (a' := ?_) #[true, true, true, true, true, true, true, true, true, true, true, true, true, true, true, true, true, true, false, false, false, false, false, false, false, false, false] rfl rfl (any_of HT_.out (by kernel_rfl)) (fun _ _ _ h => h) (Or.inr ⟨by rfl, rfl⟩) ?_ ?_
                  rotate_left
                  · simp only [Act.put, List.setIfInBounds_toArray, List.set_cons_zero, List.set_cons_succ, i64_w, i32_w]
                    rfl
                  refine pure_ (i := 18) (N := some 103) (v := undef) (a' := ?_) #[true, true, true, true, true, true, true, true, true, true, true, true, true, true, true, true, true, true, true, false, false, false, false, false, false, false, false] rfl rfl (any_of HT_.out (by kernel_rfl)) (fun _ _ _ h => h) (Or.inr ⟨by rfl, rfl⟩) ?_ ?_
                  rotate_left
                  · simp only [Act.put, List.setIfInBounds_toArray, List.set_cons_zero, List.set_cons_succ, i64_w, i32_w]
                    rfl
                  refine pure_ (i := 19) (N := some 104) (v := ?_) (a' := ?_) #[true, true, true, true, true, true, true, true, true, true, true, true, true, true, true, true, true, true, true, true, false, false, false, false, false, false, false] rfl rfl (any_of HT_.out (by kernel_rfl)) (fun _ _ _ h => h) (Or.inl ⟨by rfl, ?_⟩) ?_ ?_
                  rotate_left
                  · intro w'
                    go_simp
                    with_reducible rfl
                  rotate_left
                  · simp only [Act.put, List.setIfInBounds_toArray, List.set_cons_zero, List.set_cons_succ, i64_w, i32_w]
                    rfl
                  refine pure_ (i := 20) (N := some 105) (v := ?_) (a' := ?_) #[true, true, true, true, true, true, true, true, true, true, true, true, true, true, true, true, true, true, true, true, true, false, false, false, false, false, false] rfl rfl (any_of HT_.out (by kernel_rfl)) (fun _ _ _ h => h) (Or.inl ⟨by rfl, ?_⟩) ?_ ?_
                  rotate_left
                  · intro w'
                    go_simp
                    with_reducible rfl
                  rotate_left
                  · simp only [Act.put, List.setIfInBounds_toArray, List.set_cons_zero, List.set_cons_succ, i64_w, i32_w]
                    rfl
                  refine pure_ (i := 21) (N := some 106) (v := ?_) (a' := ?_) #[true, true, true, true, true, true, true, true, true, true, true, true, true, true, true, true, true, true, true, true, true, true, false, false, false, false, false] rfl rfl (any_of HT_.out (by kernel_rfl)) (fun _ _ _ h => h) (Or.inl ⟨by rfl, ?_⟩) ?_ ?_
                  rotate_left
                  · intro w'
                    go_simp
                    with_reducible rfl
                  rotate_left
                  · simp only [Act.put, List.setIfInBounds_toArray, List.set_cons_zero, List.set_cons_succ, i64_w, i32_w]
                    rfl
                  refine take_ (i := 22) (N := some 107) (v := ?_) (a' := ?_) #[true, true, true, true, true, true, true, true, true, true, true, true, true, true, true, true, true, true, true, true, true, true, true, false, false, false, false] rfl rfl (take_ofW HT_.out HW_.out (by kernel_rfl)) (fun _ _ _ h => h) (Or.inl ⟨by rfl, ?_⟩) hHeld ?_ ?_
                  rotate_left
                  · rintro w' ⟨s0, s1, s2, s3, s4, s5, s6, s7, s8, s9, s10, s11⟩
                    go_simp
                    with_reducible rfl
                  rotate_left
                  · simp only [Act.put, List.setIfInBounds_toArray, List.set_cons_zero, List.set_cons_succ, i64_w, i32_w]
                    rfl
                  refine take_ (i := 23) (N := some 108) (v := ?_) (a' := ?_) #[true, true, true, true, true, true, true, true, true, true, true, true, true, true, true, true, true, true, true, true, true, true, true, true, false, false, false] rfl rfl (take_ofW HT_.out HW_.out (by kernel_rfl)) (fun _ _ _ h => h) (Or.inl ⟨by rfl, ?_⟩) hHeld ?_ ?_
                  rotate_left
                  · rintro w' ⟨s0, s1, s2, s3, s4, s5, s6, s7, s8, s9, s10, s11⟩
                    go_simp
                    with_reducible rfl
                  rotate_left
                  · simp only [Act.put, List.setIfInBounds_toArray, List.set_cons_zero, List.set_cons_succ, i64_w, i32_w]
                    rfl
                  refine one_ (i := 24) (N := some 109) #[true, true, true, true, true, true, true, true, true, true, true, true, true, true, true, true, true, true, true, true, true, true, true, true, true, false, false] rfl rfl (one_of HT_.out (by kernel_rfl)) (by decide) (fun K hK => ?_)
                  refine goes_ Tryd.func21 (by kernel_rfl) rfl #[.agg #[.int .i64 B, .int .i64 I, .int .i64 Nx, .slice (some ⟨b, o, none⟩) n c], .agg #[.int .i64 x.f0, .int .i64 x.f1, .int .i64 x.f2, .int .i64 x.f3, .int .i64 x.f4.f0, .slice A5 x.f4.f1.length c5, .string x.f5, .slice A7 x.f6.length c7]] (by rfl) rfl rfl (by first | rfl | (simp only [List.map_toArray, List.map_cons, List.map_nil]; rfl)) ?_
                  refine (h21 _ XDd.out.b).mono ?_
                  rintro e w3 ⟨q, rfl, hq, hbl⟩
                  refine ⟨_, rfl, ?_⟩
                  have XD3 : Aside (DBox w w3 B I Nx (.slice (some ⟨b, o, none⟩) n c)) := XDd.out.on hbl
                  have XB3 : Aside (Box8 w3 g x.f0 x.f1 x.f2 x.f3 x.f4.f0 (.slice A5 x.f4.f1.length c5) x.f5 (.slice A7 x.f6.length c7)) := XBd.out.on hbl
                  clear hbl hHeld XDd XBd
                  refine hK.out _ _ ⟨XB3.out.c0, XB3.out.c1, XB3.out.c2, XB3.out.c3, XB3.out.c4, XB3.out.c5, XB3.out.c6, XB3.out.c7, XD3.out.d0, XD3.out.d1, XD3.out.d2, XD3.out.d3⟩ (fun hHeld => ?_)
                  clear hK K
                  refine norm_ (a' := ?_) ?_ ?_
                  rotate_left
                  · show Act.put _ (some 109) _ = _
                    simp only [Act.put, List.setIfInBounds_toArray, List.set_cons_zero, List.set_cons_succ, i64_w, i32_w]
                    rfl
                  refine pure_ (i := 25) (N := some 110) (v := ?_) (a' := ?_) #[true, true, true, true, true, true, true, true, true, true, true, true, true, true, true, true, true, true, true, true, true, true, true, true, true, true, false] rfl rfl (any_of HT_.out (by kernel_rfl)) (fun _ _ _ h => h) (Or.inl ⟨by rfl, ?_⟩) ?_ ?_
                  rotate_left
                  · intro w'
                    go_simp
                    with_reducible rfl
                  rotate_left
                  · simp only [Act.put, List.setIfInBounds_toArray, List.set_cons_zero, List.set_cons_succ, i64_w, i32_w]
                    rfl
                  refine pure_ (i := 26) (N := some 111) (v := ?_) (a' := ?_) #[true, true, true, true, true, true, true, true, true, true, true, true, true, true, true, true, true, true, true, true, true, true, true, true, true, true, true] rfl rfl (any_of HT_.out (by kernel_rfl)) (fun _ _ _ h => h) (Or.inl ⟨by rfl, ?_⟩) ?_ ?_
                  rotate_left
                  · intro w'
                    go_simp
                    with_reducible rfl
                  rotate_left
                  · simp only [Act.put, List.setIfInBounds_toArray, List.set_cons_zero, List.set_cons_succ, i64_w, i32_w]
                    rfl
                  refine done_ (done_of HT_.out (by kernel_rfl)) ?_
                  try go_wp2
                  go_meet
                  case rel => exact ⟨!q, rfl, fun h => ⟨fun h => absurd HJ0.out (Nat.ne_of_gt h), hq.out (by simpa using h)⟩, XD3, XB3⟩
                · have hjl : j - 1 < l.length := by have := HN.out; omega
                  obtain ⟨y, hy⟩ : ∃ y, l[j - 1]? = some y := ⟨_, List.getElem?_eq_getElem hjl⟩
                  obtain ⟨_, _, _, _, hNy, -⟩ := HNA2.out (j - 1) y hy
                  have e0 := (hNy.on XD.out.b hb).1
                  have Hy : Aside (l[j - 1]? = some y) := hy
                  clear hNy hy hjl
                  obtain ⟨j', rfl⟩ : ∃ j', j = j' + 1 := ⟨j - 1, by omega⟩
                  rw [Nat.add_sub_cancel] at e0 Hy
                  by_cases p2 : x.f0 ≤ y.f0
                  · have b2 : decide (x.f0 ≤ y.f0) = true := decide_eq_true p2
                    clear p2 h21
                    go_quiet (fail)
                    go_wp2
                    go_meet
                    case rel => exact ⟨true, rfl, fun h => (by cases h), XD.out.on (below_drewN (Below.refl _ _) _), XB.out.on (below_drewN (Below.refl _ _) _)⟩
                  · have b2 : decide (x.f0 ≤ y.f0) = false := decide_eq_false p2
                    have P2 : Aside (y.f0 < x.f0) := Int.not_le.1 p2
                    clear p2
                    have hwj : wrap64 (j' : Int) = (j' : Int) := w64 (by omega) (by omega)
                    have hjn : (j' : Int) < (n : Int) := by omega
                    have hj0' : 0 ≤ (j' : Int) := by omega
                    have XDd : Aside (DBox w wc.drew B I Nx (.slice (some ⟨b, o, none⟩) n c)) := XD.out.on (Below.refl _ _).drew
                    have XBd : Aside (Box8 wc.drew g x.f0 x.f1 x.f2 x.f3 x.f4.f0 (.slice A5 x.f4.f1.length c5) x.f5 (.slice A7 x.f6.length c7)) := XB.out.on (Below.refl _ _).drew
                    have Ed : wc.drew.cell? ⟨b, o + j' * 8, none⟩ = some (.int .i64 y.f0) := ((Below.refl _ _).drew.cell (World.block_lt_of_cell? _ _ e0)).trans e0
                    clear XD XB n0 n1 n2 n3 n4 n5 n6 n7 d0 d1 d2 d3 e0
                    refine start_ (n := 27) (S := fun w' => w'.cell? ⟨g, 0, none⟩ = some (.int .i64 x.f0) ∧ w'.cell? ⟨g, 1, none⟩ = some (.int .i64 x.f1) ∧ w'.cell? ⟨g, 2, none⟩ = some (.int .i64 x.f2) ∧ w'.cell? ⟨g, 3, none⟩ = some (.int .i64 x.f3) ∧ w'.cell? ⟨g, 4, none⟩ = some (.int .i64 x.f4.f0) ∧ w'.cell? ⟨g, 5, none⟩ = some (.slice A5 x.f4.f1.length c5) ∧ w'.cell? ⟨g, 6, none⟩ = some (.string x.f5) ∧ w'.cell? ⟨g, 7, none⟩ = some (.slice A7 x.f6.length c7) ∧ w'.cell? ⟨w.heap.size, 0, none⟩ = some (.int .i64 B) ∧ w'.cell? ⟨w.heap.size, 1, none⟩ = some (.int .i64 I) ∧ w'.cell? ⟨w.heap.size, 2, none⟩ = some (.int .i64 Nx) ∧ w'.cell? ⟨w.heap.size, 3, none⟩ = some (.slice (some ⟨b, o, none⟩) n c) ∧ w'.cell? ⟨b, o + j' * 8, none⟩ = some (.int .i64 y.f0)) (ds := []) #[false, false, false, false, false, false, false, false, false, false, false, false, false, false, false, false, false, false, false, false, false, false, false, false, false, false, false] (by kernel_rfl) rfl rfl ⟨XBd.out.c0, XBd.out.c1, XBd.out.c2, XBd.out.c3, XBd.out.c4, XBd.out.c5, XBd.out.c6, XBd.out.c7, XDd.out.d0, XDd.out.d1, XDd.out.d2, XDd.out.d3, Ed⟩ (fun hHeld => ?_); refine with_tabW isd_tab8 isd_bits8 (fun HT_ HW_ => ?_)
                    clear Ed
                    generalize wc.drew = wd at XDd XBd hHeld ⊢
                    refine pure_ (i := 0) (N := some 85) (v := ?_) (a' := ?_) #[true, false, false, false, false, false, false, false, false, false, false, false, false, false, false, false, false, false, false, false, false, false, false, false, false, false, false] rfl rfl (any_of HT_.out (by kernel_rfl)) (fun _ _ _ h => h) (Or.inl ⟨by rfl, ?_⟩) ?_ ?_
                    rotate_left
                    · intro w'
                      go_simp
                      with_reducible rfl
                    rotate_left
                    · simp only [Act.put, List.setIfInBounds_toArray, List.set_cons_zero, List.set_cons_succ, i64_w, i32_w]
                      rfl
                    refine pure_ (i := 2) (N := some 87) (v := ?_) (a' := ?_) #[true, false, true, false, false, false, false, false, false, false, false, false, false, false, false, false, false, false, false, false, false, false, false, false, false, false, false] rfl rfl (any_of HT_.out (by kernel_rfl)) (fun _ _ _ h => h) (Or.inl ⟨by rfl, ?_⟩) ?_ ?_
                    rotate_left
                    · intro w'
                      go_simp
                      with_reducible rfl
                    rotate_left
                    · simp only [Act.put, List.setIfInBounds_toArray, List.set_cons_zero, List.set_cons_succ, i64_w, i32_w]
                      rfl
                    refine take_ (i := 1) (N := some 86) (v := ?_) (a' := ?_) #[true, true, true, false, false, false, false, false, false, false, false, false, false, false, false, false, false, false, false, false, false, false, false, false, false, false, false] rfl rfl (take_ofW HT_.out HW_.out (by kernel_rfl)) (fun _ _ _ h => h) (Or.inl ⟨by rfl, ?_⟩) hHeld ?_ ?_
                    rotate_left
                    · rintro w' ⟨s0, s1, s2, s3, s4, s5, s6, s7, s8, s9, s10, s11, s12⟩
                      go_simp
                      with_reducible rfl
                    rotate_left
                    · simp only [Act.put, List.setIfInBounds_toArray, List.set_cons_zero, List.set_cons_succ, i64_w, i32_w]
                      rfl
                    refine take_ (i := 3) (N := some 88) (v := ?_) (a' := ?_) #[true, true, true, true, false, false, false, false, false, false, false, false, false, false, false, false, false, false, false, false, false, false, false, false, false, false, false] rfl rfl (take_ofW HT_.out HW_.out (by kernel_rfl)) (fun _ _ _ h => h) (Or.inl ⟨by rfl, ?_⟩) hHeld ?_ ?_
                    rotate_left
                    · rintro w' ⟨s0, s1, s2, s3, s4, s5, s6, s7, s8, s9, s10, s11, s12⟩
                      go_simp
                      with_reducible rfl
                    rotate_left
                    · simp only [Act.put, List.setIfInBounds_toArray, List.set_cons_zero, List.set_cons_succ, i64_w, i32_w]
                      rfl
                    refine pure_ (i := 4) (N := some 89) (v := ?_) (a' := ?_) #[true, true, true, true, true, false, false, false, false, false, false, false, false, false, false, false, false, false, false, false, false, false, false, false, false, false, false] rfl rfl (any_of HT_.out (by kernel_rfl)) (fun _ _ _ h => h) (Or.inl ⟨by rfl, ?_⟩) ?_ ?_
                    rotate_left
                    · intro w'
                      go_simp
                      with_reducible rfl
                    rotate_left
                    · simp only [Act.put, List.setIfInBounds_toArray, List.set_cons_zero, List.set_cons_succ, i64_w, i32_w]
                      rfl
                    refine pure_ (i := 5) (N := some 90) (v := ?_) (a' := ?_) #[true, true, true, true, true, true, false, false, false, false, false, false, false, false, false, false, false, false, false, false, false, false, false, false, false, false, false] rfl rfl (any_of HT_.out (by kernel_rfl)) (fun _ _ _ h => h) (Or.inl ⟨by rfl, ?_⟩) ?_ ?_
                    rotate_left
                    · intro w'
                      go_simp
                      with_reducible rfl
                    rotate_left
                    · simp only [Act.put, List.setIfInBounds_toArray, List.set_cons_zero, List.set_cons_succ, i64_w, i32_w]
                      rfl
                    refine pure_ (i := 6) (N := some 91) (v := ?_) (a' := ?_) #[true, true, true, true, true, true, true, false, false, false, false, false, false, false, false, false, false, false, false, false, false, false, false, false, false, false, false] rfl rfl (any_of HT_.out (by kernel_rfl)) (fun _ _ _ h => h) (Or.inl ⟨by rfl, ?_⟩) ?_ ?_
                    rotate_left
                    · intro w'
                      go_simp
                      with_reducible rfl
                    rotate_left
                    · simp only [Act.put, List.setIfInBounds_toArray, List.set_cons_zero, List.set_cons_succ, i64_w, i32_w]
                      rfl
                    refine pure_ (i := 7) (N := some 92) (v := ?_) (a' := ?_) #[true, true, true, true, true, true, true, true, false, false, false, false, false, false, false, false, false, false, false, false, false, false, false, false, false, false, false] rfl rfl (any_of HT_.out (by kernel_rfl)) (fun _ _ _ h => h) (Or.inl ⟨by rfl, ?_⟩) ?_ ?_
                    rotate_left
                    · intro w'
                      go_simp
                      with_reducible rfl
                    rotate_left
                    · simp only [Act.put, List.setIfInBounds_toArray, List.set_cons_zero, List.set_cons_succ, i64_w, i32_w]
                      rfl
                    refine pure_ (i := 8) (N := some 93) (v := ?_) (a' := ?_) #[true, true, true, true, true, true, true, true, true, false, false, false, false, false, false, false, false, false, false, false, false, false, false, false, false, false, false] rfl rfl (any_of HT_.out (by kernel_rfl)) (fun _ _ _ h => h) (Or.inl ⟨by rfl, ?_⟩) ?_ ?_
                    rotate_left
                    · intro w'
                      go_simp
                      with_reducible rfl
                    rotate_left
                    · simp only [Act.put, List.setIfInBounds_toArray, List.set_cons_zero, List.set_cons_succ, i64_w, i32_w]
                      rfl
                    refine pure_ (i := 9) (N := some 94) (v := ?_) (a' := ?_) #[true, true, true, true, true, true, true, true, true, true, false, false, false, false, false, false, false, false, false, false, false, false, false, false, false, false, false] rfl rfl (any_of HT_.out (by kernel_rfl)) (fun _ _ _ h => h) (Or.inl ⟨by rfl, ?_⟩) ?_ ?_
                    rotate_left
                    · intro w'
                      go_simp
                      with_reducible rfl
                    rotate_left
                    · simp only [Act.put, List.setIfInBounds_toArray, List.set_cons_zero, List.set_cons_succ, i64_w, i32_w]
                      rfl
                    refine take_ (i := 10) (N := some 95) (v := ?_) (a' := ?_) #[true, true, true, true, true, true, true, true, true, true, true, false, false, false, false, false, false, false, false, false, false, false, false, false, false, false, false] rfl rfl (take_ofW HT_.out HW_.out (by kernel_rfl)) (fun _ _ _ h => h) (Or.inl ⟨by rfl, ?_⟩) hHeld ?_ ?_
                    rotate_left
                    · rintro w' ⟨s0, s1, s2, s3, s4, s5, s6, s7, s8, s9, s10, s11, s12⟩
                      go_simp
                      with_reducible rfl
                    rotate_left
                    · simp only [Act.put, List.setIfInBounds_toArray, List.set_cons_zero, List.set_cons_succ, i64_w, i32_w]
                      rfl
                    refine pure_ (i := 11) (N := some 96) (v := ?_) (a' := ?_) #[true, true, true, true, true, true, true, true, true, true, true, true, false, false, false, false, false, false, false, false, false, false, false, false, false, false, false] rfl rfl (any_of HT_.out (by kernel_rfl)) (fun _ _ _ h => h) (Or.inl ⟨by rfl, ?_⟩) ?_ ?_
                    rotate_left
                    · intro w'
                      go_simp
                      with_reducible rfl
                    rotate_left
                    · simp only [Act.put, List.setIfInBounds_toArray, List.set_cons_zero, List.set_cons_succ, i64_w, i32_w]
                      rfl
                    refine take_ (i := 12) (N := some 97) (v := ?_) (a' := ?_) #[true, true, true, true, true, true, true, true, true, true, true, true, true, false, false, false, false, false, false, false, false, false, false, false, false, false, false] rfl rfl (take_ofW HT_.out HW_.out (by kernel_rfl)) (fun _ _ _ h => h) (Or.inl ⟨by rfl, ?_⟩) hHeld ?_ ?_
                    rotate_left
                    · rintro w' ⟨s0, s1, s2, s3, s4, s5, s6, s7, s8, s9, s10, s11, s12⟩
                      go_simp
                      with_reducible rfl
                    rotate_left
                    · simp only [Act.put, List.setIfInBounds_toArray, List.set_cons_zero, List.set_cons_succ, i64_w, i32_w]
                      rfl
                    refine pure_ (i := 13) (N := some 98) (v := ?_) (a' := ?_) #[true, true, true, true, true, true, true, true, true, true, true, true, true, true, false, false, false, false, false, false, false, false, false, false, false, false, false] rfl rfl (any_of HT_.out (by kernel_rfl)) (fun _ _ _ h => h) (Or.inl ⟨by rfl, ?_⟩) ?_ ?_
                    rotate_left
                    · intro w'
                      go_simp
                      with_reducible rfl
                    rotate_left
                    · simp only [Act.put, List.setIfInBounds_toArray, List.set_cons_zero, List.set_cons_succ, i64_w, i32_w]
                      rfl
                    refine pure_ (i := 14) (N := some 99) (v := ?_) (a' := ?_) #[true, true, true, true, true, true, true, true, true, true, true, true, true, true, true, false, false, false, false, false, false, false, false, false, false, false, false] rfl rfl (any_of HT_.out (by kernel_rfl)) (fun _ _ _ h => h) (Or.inl ⟨by rfl, ?_⟩) ?_ ?_
                    rotate_left
                    · intro w'
                      go_simp
                      with_reducible rfl
                    rotate_left
                    · simp only [Act.put, List.setIfInBounds_toArray, List.set_cons_zero, List.set_cons_succ, i64_w, i32_w]
                      rfl
                    refine pure_ (i := 15) (N := some 100) (v := ?_) (a' := ?_) #[true, true, true, true, true, true, true, true, true, true, true, true, true, true, true, true, false, false, false, false, false, false, false, false, false, false, false] rfl rfl (any_of HT_.out (by kernel_rfl)) (fun _ _ _ h => h) (Or.inl ⟨by rfl, ?_⟩) ?_ ?_
                    rotate_left
                    · intro w'
                      go_simp
                      with_reducible rfl
                    rotate_left
                    · simp only [Act.put, List.setIfInBounds_toArray, List.set_cons_zero, List.set_cons_succ, i64_w, i32_w]
                      rfl
                    refine pure_ (i := 16) (N := some 101) (v := ?_) (a' := ?_) #[true, true, true, true, true, true, true, true, true, true, true, true, true, true, true, true, true, false, false, false, false, false, false, false, false, false, false] rfl rfl (any_of HT_.out (by kernel_rfl)) (fun _ _ _ h => h) (Or.inl ⟨by rfl, ?_⟩) ?_ ?_
                    rotate_left
                    · intro w'
                      go_simp
                      with_reducible rfl
                    rotate_left
                    · simp only [Act.put, List.setIfInBounds_toArray, List.set_cons_zero, List.set_cons_succ, i64_w, i32_w]
                      rfl
                    refine take_ (i := 17) (N := some 102) (v := ?_) (a' := ?_) #[true, true, true, true, true, true, true, true, true, true, true, true, true, true, true, true, true, true, false, false, false, false, false, false, false, false, false] rfl rfl (take_ofW HT_.out HW_.out (by kernel_rfl)) (fun _ _ _ h => h) (Or.inl ⟨by rfl, ?_⟩) hHeld ?_ ?_
                    rotate_left
                    · rintro w' ⟨s0, s1, s2, s3, s4, s5, s6, s7, s8, s9, s10, s11, s12⟩
                      go_simp
                      with_reducible rfl
                    rotate_left
                    · simp only [Act.put, List.setIfInBounds_toArray, List.set_cons_zero, List.set_cons_succ, i64_w, i32_w]
                      rfl
                    refine pure_ (i := 18) (N := some 103) (v := ?_) (a' := ?_) #[true, true, true, true, true, true, true, true, true, true, true, true, true, true, true, true, true, true, true, false, false, false, false, false, false, false, false] rfl rfl (any_of HT_.out (by kernel_rfl)) (fun _ _ _ h => h) (Or.inl ⟨by rfl, ?_⟩) ?_ ?_
                    rotate_left
                    · intro w'
                      go_simp
                      with_reducible rfl
                    rotate_left
                    · simp only [Act.put, List.setIfInBounds_toArray, List.set_cons_zero, List.set_cons_succ, i64_w, i32_w]
                      rfl
                    refine pure_ (i := 19) (N := some 104) (v := ?_) (a' := ?_) #[true, true, true, true, true, true, true, true, true, true, true, true, true, true, true, true, true, true, true, true, false, false, false, false, false, false, false] rfl rfl (any_of HT_.out (by kernel_rfl)) (fun _ _ _ h => h) (Or.inl ⟨by rfl, ?_⟩) ?_ ?_
                    rotate_left
                    · intro w'
                      go_simp
                      with_reducible rfl
                    rotate_left
                    · simp only [Act.put, List.setIfInBounds_toArray, List.set_cons_zero, List.set_cons_succ, i64_w, i32_w]
                      rfl
                    refine pure_ (i := 20) (N := some 105) (v := ?_) (a' := ?_) #[true, true, true, true, true, true, true, true, true, true, true, true, true, true, true, true, true, true, true, true, true, false, false, false, false, false, false] rfl rfl (any_of HT_.out (by kernel_rfl)) (fun _ _ _ h => h) (Or.inl ⟨by rfl, ?_⟩) ?_ ?_
                    rotate_left
                    · intro w'
                      go_simp
                      with_reducible rfl
                    rotate_left
                    · simp only [Act.put, List.setIfInBounds_toArray, List.set_cons_zero, List.set_cons_succ, i64_w, i32_w]
                      rfl
                    refine pure_ (i := 21) (N := some 106) (v := ?_) (a' := ?_) #[true, true, true, true, true, true, true, true, true, true, true, true, true, true, true, true, true, true, true, true, true, true, false, false, false, false, false] rfl rfl (any_of HT_.out (by kernel_rfl)) (fun _ _ _ h => h) (Or.inl ⟨by rfl, ?_⟩) ?_ ?_
                    rotate_left
                    · intro w'
                      go_simp
                      with_reducible rfl
                    rotate_left
                    · simp only [Act.put, List.setIfInBounds_toArray, List.set_cons_zero, List.set_cons_succ, i64_w, i32_w]
                      rfl
                    refine take_ (i := 22) (N := some 107) (v := ?_) (a' := ?_) #[true, true, true, true, true, true, true, true, true, true, true, true, true, true, true, true, true, true, true, true, true, true, true, false, false, false, false] rfl rfl (take_ofW HT_.out HW_.out (by kernel_rfl)) (fun _ _ _ h => h) (Or.inl ⟨by rfl, ?_⟩) hHeld ?_ ?_
                    rotate_left
                    · rintro w' ⟨s0, s1, s2, s3, s4, s5, s6, s7, s8, s9, s10, s11, s12⟩
                      go_simp
                      with_reducible rfl
                    rotate_left
                    · simp only [Act.put, List.setIfInBounds_toArray, List.set_cons_zero, List.set_cons_succ, i64_w, i32_w]
                      rfl
                    refine take_ (i := 23) (N := some 108) (v := ?_) (a' := ?_) #[true, true, true, true, true, true, true, true, true, true, true, true, true, true, true, true, true, true, true, true, true, true, true, true, false, false, false] rfl rfl (take_ofW HT_.out HW_.out (by kernel_rfl)) (fun _ _ _ h => h) (Or.inl ⟨by rfl, ?_⟩) hHeld ?_ ?_
                    rotate_left
                    · rintro w' ⟨s0, s1, s2, s3, s4, s5, s6, s7, s8, s9, s10, s11, s12⟩
                      go_simp
                      with_reducible rfl
                    rotate_left
                    · simp only [Act.put, List.setIfInBounds_toArray, List.set_cons_zero, List.set_cons_succ, i64_w, i32_w]
                      rfl
                    refine one_ (i := 24) (N := some 109) #[true, true, true, true, true, true, true, true, true, true, true, true, true, true, true, true, true, true, true, true, true, true, true, true, true, false, false] rfl rfl (one_of HT_.out (by kernel_rfl)) (by decide) (fun K hK => ?_)
                    refine goes_ Tryd.func21 (by kernel_rfl) rfl #[.agg #[.int .i64 B, .int .i64 I, .int .i64 Nx, .slice (some ⟨b, o, none⟩) n c], .agg #[.int .i64 x.f0, .int .i64 x.f1, .int .i64 x.f2, .int .i64 x.f3, .int .i64 x.f4.f0, .slice A5 x.f4.f1.length c5, .string x.f5, .slice A7 x.f6.length c7]] (by rfl) rfl rfl (by first | rfl | (simp only [List.map_toArray, List.map_cons, List.map_nil]; rfl)) ?_
                    refine (h21 _ XDd.out.b).mono ?_
                    rintro e w3 ⟨q, rfl, hq, hbl⟩
                    refine ⟨_, rfl, ?_⟩
                    have XD3 : Aside (DBox w w3 B I Nx (.slice (some ⟨b, o, none⟩) n c)) := XDd.out.on hbl
                    have XB3 : Aside (Box8 w3 g x.f0 x.f1 x.f2 x.f3 x.f4.f0 (.slice A5 x.f4.f1.length c5) x.f5 (.slice A7 x.f6.length c7)) := XBd.out.on hbl
                    have E3 : w3.cell? ⟨b, o + j' * 8, none⟩ = some (.int .i64 y.f0) := keepC hbl hHeld.2.2.2.2.2.2.2.2.2.2.2.2
                    clear hbl hHeld XDd XBd
                    refine hK.out _ _ ⟨XB3.out.c0, XB3.out.c1, XB3.out.c2, XB3.out.c3, XB3.out.c4, XB3.out.c5, XB3.out.c6, XB3.out.c7, XD3.out.d0, XD3.out.d1, XD3.out.d2, XD3.out.d3, E3⟩ (fun hHeld => ?_)
                    clear hK K E3
                    refine norm_ (a' := ?_) ?_ ?_
                    rotate_left
                    · show Act.put _ (some 109) _ = _
                      simp only [Act.put, List.setIfInBounds_toArray, List.set_cons_zero, List.set_cons_succ, i64_w, i32_w]
                      rfl
                    refine pure_ (i := 25) (N := some 110) (v := ?_) (a' := ?_) #[true, true, true, true, true, true, true, true, true, true, true, true, true, true, true, true, true, true, true, true, true, true, true, true, true, true, false] rfl rfl (any_of HT_.out (by kernel_rfl)) (fun _ _ _ h => h) (Or.inl ⟨by rfl, ?_⟩) ?_ ?_
                    rotate_left
                    · intro w'
                      go_simp
                      with_reducible rfl
                    rotate_left
                    · simp only [Act.put, List.setIfInBounds_toArray, List.set_cons_zero, List.set_cons_succ, i64_w, i32_w]
                      rfl
                    refine pure_ (i := 26) (N := some 111) (v := ?_) (a' := ?_) #[true, true, true, true, true, true, true, true, true, true, true, true, true, true, true, true, true, true, true, true, true, true, true, true, true, true, true] rfl rfl (any_of HT_.out (by kernel_rfl)) (fun _ _ _ h => h) (Or.inl ⟨by rfl, ?_⟩) ?_ ?_
                    rotate_left
                    · intro w'
                      go_simp
                      with_reducible rfl
                    rotate_left
                    · simp only [Act.put, List.setIfInBounds_toArray, List.set_cons_zero, List.set_cons_succ, i64_w, i32_w]
                      rfl
                    refine done_ (done_of HT_.out (by kernel_rfl)) ?_
                    try go_wp2
                    go_meet
                    case rel => exact ⟨!q, rfl, fun h => ⟨fun _ y' hy' => by rw [Nat.add_sub_cancel, Hy.out] at hy'; cases hy'; exact P2.out, hq.out (by simpa using h)⟩, XD3, XB3⟩
            case rest =>
              obtain ⟨q, rfl, hq, XD2, XB2⟩ := hcut
              clear XD XB
              cases q with
              | true =>
                go_wp2
                go_ret
                exact ⟨false, rfl, fun h => (by cases h), XD2.out.b⟩
              | false =>
                have HI : Aside (IsTo l (j + 1)) := isTo_step hI.out x Hx.out (hq.out rfl).1 (hq.out rfl).2
                have h22 := H22'.out
                obtain ⟨n0, n1, n2, n3, n4, n5, n6, n7, -, -⟩ := XB2.out
                obtain ⟨d0, d1, d2, d3, -, -⟩ := XD2.out
                go_upto_region 11 with (go_at_call 22; refine (h22 _ XD2.out.b).mono ?_; rintro e w3 ⟨r, rfl, hb3⟩; (have XD3 : Aside (DBox w w3 B I Nx (.slice (some ⟨b, o, none⟩) n c)) := XD2.out.on hb3); (have XB3 : Aside (Box8 w3 g x.f0 x.f1 x.f2 x.f3 x.f4.f0 (.slice A5 x.f4.f1.length c5) x.f5 (.slice A7 x.f6.length c7)) := XB2.out.on hb3); clear hb3)
                clear n0 n1 n2 n3 n4 n5 n6 n7 d0 d1 d2 d3 h22 XD2 XB2
                by_cases hj0 : j = 0
                · have b1 : ((j : Int) == 0) = true := beq_iff_eq.2 (by omega)
                  have b2 : (j == 0) = true := beq_iff_eq.2 hj0
                  have b3 : ((j : Int) = 0) = True := eq_true (by omega)
                  have HJ0 : Aside (j = 0) := hj0
                  clear hj0
                  go_upto_region 13 with fail
                  generalize wrap64 (r + 1) = rr
                  obtain ⟨n0, n1, n2, n3, n4, n5, n6, n7, -, -⟩ := XB3.out
                  go_cut [132] (fun v132 wc => ∃ q : Bool, v132 = .bool q ∧ Aside (DBox w wc B I Nx (.slice (some ⟨b, o, none⟩) n c)))
                  case first =>
                    by_cases p1 : rr = x.f3
                    · have q1 : (rr == x.f3) = true := beq_iff_eq.2 p1
                      have q2 : (rr != x.f3) = false := bne_eq_false_iff_eq.2 p1
                      clear p1
                      by_cases p2 : x.f1 = 2
                      · have q3 : (x.f1 == 2) = true := beq_iff_eq.2 p2
                        have q4 : (x.f1 != 2) = false := bne_eq_false_iff_eq.2 p2
                        clear p2
                        go_wp2
                        go_meet
                        case rel => exact ⟨_, rfl, XD3⟩
                      · have q3 : (x.f1 == 2) = false := beq_eq_false_iff_ne.2 p2
                        have q4 : (x.f1 != 2) = true := bne_iff_ne.2 p2
                        clear p2
                        go_wp2
                        go_meet
                        case rel => exact ⟨_, rfl, XD3⟩
                    · have q1 : (rr == x.f3) = false := beq_eq_false_iff_ne.2 p1
                      have q2 : (rr != x.f3) = true := bne_iff_ne.2 p1
                      clear p1
                      go_wp2
                      go_meet
                      case rel => exact ⟨_, rfl, XD3⟩
                  case rest =>
                    obtain ⟨q, rfl, XE⟩ := hcut
                    clear XD3 XB3 n0 n1 n2 n3 n4 n5 n6 n7
                    cases q with
                    | true =>
                      go_wp2
                      go_ret
                      exact ⟨false, rfl, fun h => (by cases h), XE.out.b⟩
                    | false =>
                      go_wp2
                      go_roundg (n - (j + 1))
                      case measure => have := hg.out; omega
                      case rel => exact ⟨j + 1, Nat.succ_le_of_lt hlt, by go_num, rfl, HI, XE⟩
                · have b1 : ((j : Int) == 0) = false := beq_eq_false_iff_ne.2 (by omega)
                  have b2 : (j == 0) = false := beq_eq_false_iff_ne.2 hj0
                  have b3 : ((j : Int) = 0) = False := eq_false (by omega)
                  clear hj0
                  go_upto_region 13 with fail
                  generalize r = rr
                  obtain ⟨n0, n1, n2, n3, n4, n5, n6, n7, -, -⟩ := XB3.out
                  go_cut [132] (fun v132 wc => ∃ q : Bool, v132 = .bool q ∧ Aside (DBox w wc B I Nx (.slice (some ⟨b, o, none⟩) n c)))
                  case first =>
                    by_cases p1 : rr = x.f3
                    · have q1 : (rr == x.f3) = true := beq_iff_eq.2 p1
                      have q2 : (rr != x.f3) = false := bne_eq_false_iff_eq.2 p1
                      clear p1
                      by_cases p2 : x.f1 = 2
                      · have q3 : (x.f1 == 2) = true := beq_iff_eq.2 p2
                        have q4 : (x.f1 != 2) = false := bne_eq_false_iff_eq.2 p2
                        clear p2
                        go_wp2
                        go_meet
                        case rel => exact ⟨_, rfl, XD3⟩
                      · have q3 : (x.f1 == 2) = false := beq_eq_false_iff_ne.2 p2
                        have q4 : (x.f1 != 2) = true := bne_iff_ne.2 p2
                        clear p2
                        go_wp2
                        go_meet
                        case rel => exact ⟨_, rfl, XD3⟩
                    · have q1 : (rr == x.f3) = false := beq_eq_false_iff_ne.2 p1
                      have q2 : (rr != x.f3) = true := bne_iff_ne.2 p1
                      clear p1
                      go_wp2
                      go_meet
                      case rel => exact ⟨_, rfl, XD3⟩
                  case rest =>
                    obtain ⟨q, rfl, XE⟩ := hcut
                    clear XD3 XB3 n0 n1 n2 n3 n4 n5 n6 n7
                    cases q with
                    | true =>
                      go_wp2
                      go_ret
                      exact ⟨false, rfl, fun h => (by cases h), XE.out.b⟩
                    | false =>
                      go_wp2
                      go_roundg (n - (j + 1))
                      case measure => have := hg.out; omega
                      case rel => exact ⟨j + 1, Nat.succ_le_of_lt hlt, by go_num, rfl, HI, XE⟩
        · obtain rfl : n = j := by omega
          clear hlt
          have h23 := H23.out (hq1.out (by trivial)) hI.out
          obtain ⟨d0, d1, d2, d3, -, wl⟩ := XW.out
          go_wp2_with (go_at_call 23; refine (h23 _ (XW.out.b.alloc (Nat.le_of_lt wl) _) _ 0 (alloc_new _ _)).mono ?_; rintro e w3 ⟨S, m2, u2, q, rfl, hb3⟩; (have X3 : Aside (DBox w w3 B I Nx (.slice A n c)) := (XW.out.past _).on hb3); clear hb3; cases q)
          all_goals go_ret
          all_goals exact ⟨_, rfl, fun _ => ⟨hI.out, hq1.out (by trivial)⟩, X3.out.b⟩
end Go.Proofs.YtaeakifdamlnlaaDoor
