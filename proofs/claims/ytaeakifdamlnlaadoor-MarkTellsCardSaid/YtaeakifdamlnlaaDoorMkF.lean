/- That sound answers on a disk in memory. Conditions: those the theorem states. -/
import Derived.Test.YtaeakifdamlnlaaDoorMkE
import Derived.Deep.DeepMust
import Derived.Deep.RegionHeld3
import Derived.BigQuiet
import Derived.Deep.DeepCutAuto
import Derived.Deep.CutBlock
set_option linter.unusedVariables false
set_option linter.unusedSimpArgs false
set_option maxRecDepth 100000
namespace Go.Proofs.YtaeakifdamlnlaaDoor
open Go.RowKit Go.Lib Go.Proofs.YtaeakifdamlnlaaDoorW.PrintWords Go.Proofs.YtaeakifdamlnlaaDoorW.PrintMore Go.Proofs.YtaeakifdamlnlaaDoorW.PrintLast PMarkTells
def snd_T10 : Bool × List (List Nat × List Nat) := (true, [([], []), ([], []), ([1], [1]), ([], []), ([2, 3], [2, 3]), ([4], [4]), ([5], [5]), ([0, 6], [0, 6]), ([7], [7]), ([8], [8]), ([8], [8]), ([], []), ([11, 9, 7, 0, 1, 2, 3, 4, 5, 6, 7, 8, 9, 11], [9, 11]), ([10, 12, 0, 1, 2, 3, 4, 5, 6, 7, 8, 9, 10, 11, 12], [10])])
def snd_B10 : List Nat := [0, 0, 2, 0, 14, 30, 62, 127, 255, 511, 511, 0, 3071, 8191]
theorem snd_tab10 : rtab .any (opsOf Tryd.f21 10) = snd_T10 := by kernel_rfl
theorem snd_bits10 : waitsOk snd_T10.2 snd_B10 = true := by kernel_rfl
set_option maxHeartbeats 8000000 in
theorem sound (B I Nx : Int) (A : Option Addr) (c : Nat) (l : List S42) (i k m ls s : Int) (A5 : Option Addr) (c5 : Nat) (bl : List S69) (t : ByteArray) (A7 : Option Addr) (c7 : Nat) (N : List S62) (w : World)
    (hr : Kd.C k42 w A l.length l) (hc : l.length ≤ c) (h5 : Kd.C k69 w A5 bl.length bl) (hc5 : bl.length ≤ c5) (h7 : Kd.C k62 w A7 N.length N) (hc7 : N.length ≤ c7)
    (hl : l.length ≤ 4398046511104) (hok : ∀ y ∈ l, NodeOk y) (hbl : bl.length ≤ 4398046511104) (hts : t.size ≤ 9223372036854775807) (hN : N.length < 5864062014805) (hns : ∀ z ∈ N, z.f0.size ≤ 140737488355328) :
    Calls Tryd.prog 21 #[.agg #[.int .i64 B, .int .i64 I, .int .i64 Nx, .slice A l.length c], .agg #[.int .i64 i, .int .i64 k, .int .i64 m, .int .i64 ls, .int .i64 s, .slice A5 bl.length c5, .string t, .slice A7 N.length c7]] w
      fun e w' => ∃ q : Bool, e = .returned (.bool q) ∧ (q = true → Good l N N.length) ∧ Below w.heap.size w w' := by
  have h30 : ∀ W, Below w.heap.size w W → Calls Tryd.prog 30 #[.agg #[.int .i64 s, .slice A5 bl.length c5]] W fun e w' => ∃ q : Bool, e = .returned (.bool q) ∧ Below W.heap.size W w' := fun W hW => by
    obtain ⟨kk, r, h⟩ := is2_ends s bl hbl
    exact (veneerref2_Is.calls kk s A5 c5 bl r W (Kd.C_below h5 hW) hc5 h).mono fun e w' ⟨h1, h2⟩ => ⟨r, h1, h2⟩
  have h31 : ∀ (x : Int) (W : World), Below w.heap.size w W → Calls Tryd.prog 31 #[.agg #[.int .i64 B, .int .i64 I, .int .i64 Nx, .slice A l.length c], .int .i64 x] W fun e w' =>
      ∃ (r1 r2 r3 r4 r5 : Int) (S5 : Option Addr) (m5 e5 : Nat) (r7 : ByteArray) (S7 : Option Addr) (m7 e7 : Nat) (q : Bool), e = .returned (.tuple #[.agg #[.int .i64 r1, .int .i64 r2, .int .i64 r3, .int .i64 r4, .int .i64 r5, .slice S5 m5 e5, .string r7, .slice S7 m7 e7], .bool q]) ∧ Aside (q = (getN l x).isSome) ∧ Below W.heap.size W w' := fun x W hW => by
    have hg := get_is B I Nx x l hl hok (Nat.lt_succ_self _)
    generalize hgg : gotN (getN l x) = g at hg
    obtain ⟨r1, r2, r3, r4, r5, r6, r7, r8, r9⟩ := g
    refine (veneerref3_Get.calls _ B I Nx A c l x r1 r2 r3 r4 r5 r6 r7 r8 r9 W (Kd.C_below hr hW) hc hg).mono fun e w' ⟨v5, v7, h1, hS, hR, h2⟩ => ?_
    obtain ⟨S5, e5, rfl, -⟩ := (Kd.S_R hS).2.slice_
    obtain ⟨S7, e7, rfl, -⟩ := hR.2.slice_
    refine ⟨r1, r2, r3, r4, r5, S5, _, e5, r7, S7, _, e7, r9, h1, ?_, h2⟩
    have h9 : (gotN (getN l x)).2.2.2.2.2.2.2.2 = r9 := by rw [hgg]
    rw [← h9]
    cases getN l x <;> exact rfl
  have h16 : ∀ (j : Nat), j < N.length → ∃ q : Bool, ∀ W, Calls Tryd.prog 16 #[.string (nmL N j)] W fun e w' => e = .returned (.bool q) ∧ ∃ n, w' = W.drewN n := fun j hj => by
    have hx : N[j]? = some N[j] := List.getElem?_eq_getElem hj
    have e : N.getD j z62 = N[j] := by rw [List.getD_eq_getElem?_getD, hx]; rfl
    obtain ⟨kk, r, h⟩ := named_ends (nmL N j) (Nat.le_trans (by unfold nmL; rw [e]; exact hns _ (List.getElem_mem hj)) (by decide))
    exact ⟨r, fun W => (veneerref1_Named.calls kk _ r W h).mono fun e w' ⟨h1, h2⟩ => ⟨h1, h2.out⟩⟩
  have H31 : Aside _ := h31
  have H16 : Aside _ := h16
  have HNA : Aside _ := names_at h7
  clear h31 h16 hr hc h5 hc5 h7 hc7 hl hok hbl hns
  go_enter Tryd.func21, Tryd.ntmps21
  go_upto_region 1 with fail
  generalize hW0 : ((w.alloc (.cells #[.int .i64 B, .int .i64 I, .int .i64 Nx, .slice A l.length c] 24)).alloc (.cells #[.int .i64 i, .int .i64 k, .int .i64 m, .int .i64 ls, .int .i64 s, .slice A5 bl.length c5, .string t, .slice A7 N.length c7] 42)) = W0
  have X0 : Aside (Boxes w W0 B I Nx (.slice A l.length c) i k m ls s (.slice A5 bl.length c5) t (.slice A7 N.length c7)) := by rw [← hW0]; exact boxes_start w B I Nx (.slice A l.length c) i k m ls s (.slice A5 bl.length c5) t (.slice A7 N.length c7)
  clear hW0
  go_cut [31] (fun v31 wc => ∃ q : Bool, v31 = .bool q ∧ Aside (Boxes w wc B I Nx (.slice A l.length c) i k m ls s (.slice A5 bl.length c5) t (.slice A7 N.length c7)))
  case first =>
    obtain ⟨d0, d1, d2, d3, ⟨n0, n1, n2, n3, n4, n5, n6, n7, -, -⟩, -⟩ := X0.out
    by_cases p1 : k < 1
    · have b1 : decide (k < 1) = true := decide_eq_true p1
      go_wp2
      go_meet
      case rel => exact ⟨true, rfl, X0⟩
    · have b1 : decide (k < 1) = false := decide_eq_false p1
      by_cases p2 : 3 < k
      · have b2 : decide (3 < k) = true := decide_eq_true p2
        go_wp2
        go_meet
        case rel => exact ⟨true, rfl, X0⟩
      · have b2 : decide (3 < k) = false := decide_eq_false p2
        by_cases p3 : m < 0
        · have b3 : decide (m < 0) = true := decide_eq_true p3
          go_wp2
          go_meet
          case rel => exact ⟨true, rfl, X0⟩
        · have b3 : decide (m < 0) = false := decide_eq_false p3
          by_cases p4 : 511 < m
          · have b4 : decide (511 < m) = true := decide_eq_true p4
            go_wp2
            go_meet
            case rel => exact ⟨true, rfl, X0⟩
          · have b4 : decide (511 < m) = false := decide_eq_false p4
            clear p1 p2 p3 p4
            go_wp2_with (go_at_call 30; refine (h30 _ X0.out.b).mono ?_; rintro e w1 ⟨q, rfl, hb⟩; have X1 : Aside (Boxes w w1 B I Nx (.slice A l.length c) i k m ls s (.slice A5 bl.length c5) t (.slice A7 N.length c7)) := X0.out.on hb; clear hb)
            go_meet
            case rel => exact ⟨_, rfl, X1⟩
  case rest =>
    obtain ⟨q, rfl, X1⟩ := hcut
    clear X0
    cases q with
    | true =>
      go_wp2
      go_ret
      exact ⟨false, rfl, fun h => (by cases h), X1.out.b⟩
    | false =>
      clear h30
      go_upto_region 3 with fail
      go_cut [58] (fun v58 wc => ∃ q : Bool, v58 = .bool q ∧ Aside (Boxes w wc B I Nx (.slice A l.length c) i k m ls s (.slice A5 bl.length c5) t (.slice A7 N.length c7)))
      case first =>
        obtain ⟨d0, d1, d2, d3, ⟨n0, n1, n2, n3, n4, n5, n6, n7, -, -⟩, -⟩ := X1.out
        by_cases p1 : k = 1
        · have b1 : (k != 1) = false := bne_eq_false_iff_eq.2 p1
          have b2 : (k != 2) = true := bne_iff_ne.2 (by omega)
          clear p1
          go_wp2
          go_meet
          case rel => exact ⟨_, rfl, X1⟩
        · have b1 : (k != 1) = true := bne_iff_ne.2 p1
          have b0 : (k == 1) = false := beq_eq_false_iff_ne.2 p1
          clear p1
          by_cases p2 : 0 < s
          · have b2 : decide (0 < s) = true := decide_eq_true p2
            go_wp2
            go_meet
            case rel => exact ⟨_, rfl, X1⟩
          · have b2 : decide (0 < s) = false := decide_eq_false p2
            clear p2
            by_cases p3 : 0 < (bl.length : Int)
            · have b3 : decide (0 < (bl.length : Int)) = true := decide_eq_true p3
              have b4 : decide (0 < bl.length) = true := decide_eq_true (by omega)
              go_wp2
              go_meet
              case rel => exact ⟨_, rfl, X1⟩
            · have b3 : decide (0 < (bl.length : Int)) = false := decide_eq_false p3
              have b3' : decide (0 < bl.length) = false := decide_eq_false (by omega)
              clear p3
              by_cases p4 : k = 2
              · have b4 : (k != 2) = false := bne_eq_false_iff_eq.2 p4
                have b5 : (k == 2) = true := beq_iff_eq.2 p4
                clear p4
                go_wp2
                go_meet
                case rel => exact ⟨_, rfl, X1⟩
              · have b4 : (k != 2) = true := bne_iff_ne.2 p4
                have b5 : (k == 2) = false := beq_eq_false_iff_ne.2 p4
                clear p4
                go_wp2
                go_meet
                case rel => exact ⟨_, rfl, X1⟩
      case rest =>
        obtain ⟨q, rfl, X2⟩ := hcut
        clear X1
        cases q with
        | true =>
          go_wp2
          go_ret
          exact ⟨false, rfl, fun h => (by cases h), X2.out.b⟩
        | false =>
          go_upto_region 5 with fail
          go_cut [71] (fun v71 wc => ∃ q : Bool, v71 = .bool q ∧ Aside (Boxes w wc B I Nx (.slice A l.length c) i k m ls s (.slice A5 bl.length c5) t (.slice A7 N.length c7)))
          case first =>
            obtain ⟨d0, d1, d2, d3, ⟨n0, n1, n2, n3, n4, n5, n6, n7, -, -⟩, -⟩ := X2.out
            by_cases hq : ((k == 3) = !t.toList.isEmpty)
            · have q0 : ((k == 3) = !t.toList.isEmpty) = True := eq_true hq
              clear hq
              go_wp2
              go_meet
              case rel => exact ⟨_, rfl, X2⟩
            · have q0 : ((k == 3) = !t.toList.isEmpty) = False := eq_false hq
              clear hq
              go_wp2
              go_meet
              case rel => exact ⟨_, rfl, X2⟩
          case rest =>
            obtain ⟨q, rfl, X3⟩ := hcut
            clear X2
            cases q with
            | true =>
              go_wp2
              go_ret
              exact ⟨false, rfl, fun h => (by cases h), X3.out.b⟩
            | false =>
              go_upto_region 7 with fail
              go_wp2_with fail
              go_loopg [5] N.length (fun g v5 w' => ∃ j : Nat, j ≤ N.length ∧ v5 = .int .i64 j ∧ Aside (g = N.length - j) ∧ Aside (Good l N j) ∧ Aside (Boxes w w' B I Nx (.slice A l.length c) i k m ls s (.slice A5 bl.length c5) t (.slice A7 N.length c7)))
              case atStart => exact ⟨0, Nat.zero_le _, rfl, rfl, ⟨fun t h => by omega, fun t h => by omega⟩, X3⟩
              case round =>
                obtain ⟨j, hj, rfl, hg, hG, XW⟩ := hrel
                clear X3
                by_cases hlt : j < N.length
                · obtain ⟨b, o, rfl, hb, hNA⟩ := HNA.out.resolve_left (by omega)
                  have x1 := (XW.out.b.cell hb).trans (hNA j hlt).1
                  have x2 := (XW.out.b.cell hb).trans (hNA j hlt).2
                  clear hNA
                  obtain ⟨d0, d1, d2, d3, ⟨n0, n1, n2, n3, n4, n5, n6, n7, -, nlt⟩, -⟩ := XW.out
                  have hbw : b < wr.heap.size := Nat.lt_of_lt_of_le hb XW.out.b.size
                  have hbn : b ≠ wr.heap.size := Nat.ne_of_lt hbw
                  have hw0 : w.heap.size < wr.heap.size := by omega
                  have hw1 : w.heap.size ≠ wr.heap.size := Nat.ne_of_lt hw0
                  have hw2 : w.heap.size + 1 ≠ wr.heap.size := Nat.ne_of_lt nlt
                  go_upto_region 10 with fail
                  go_cut [7] (fun v7 wc => ∃ q : Bool, v7 = .bool q ∧ Aside (q = (getN l (inoL N j)).isSome) ∧ Aside (Boxes w wc B I Nx (.slice A l.length c) i k m ls s (.slice A5 bl.length c5) t (.slice (some ⟨b, o, none⟩) N.length c7)))
                  case first =>
                    have h31 := H31.out (inoL N j)
                    generalize hxx : inoL N j = xx at x2 h31
                    have HXX : Aside (inoL N j = xx) := hxx
                    clear hxx x1
                    have XWd : Aside (Boxes w wr.drew B I Nx (.slice A l.length c) i k m ls s (.slice A5 bl.length c5) t (.slice (some ⟨b, o, none⟩) N.length c7)) := XW.out.drew
                    have X2d : wr.drew.cell? ⟨b, o + j * 2 + 1, none⟩ = some (.int .i64 xx) := ((Below.refl _ _).drew.cell (World.block_lt_of_cell? _ _ x2)).trans x2
                    have hji : (j : Int) < (N.length : Int) := by omega
                    have hj0 : 0 ≤ (j : Int) := by omega
                    clear XW d0 d1 d2 d3 n0 n1 n2 n3 n4 n5 n6 n7 x2 hbw hbn hw0 hw1 hw2
                    refine start_ (n := 14) (S := fun w' => w'.cell? ⟨w.heap.size, 0, none⟩ = some (.int .i64 B) ∧ w'.cell? ⟨w.heap.size, 1, none⟩ = some (.int .i64 I) ∧ w'.cell? ⟨w.heap.size, 2, none⟩ = some (.int .i64 Nx) ∧ w'.cell? ⟨w.heap.size, 3, none⟩ = some (.slice A l.length c) ∧ w'.cell? ⟨w.heap.size + 1, 7, none⟩ = some (.slice (some ⟨b, o, none⟩) N.length c7) ∧ w'.cell? ⟨b, o + j * 2 + 1, none⟩ = some (.int .i64 xx)) (ds := []) #[false, false, false, false, false, false, false, false, false, false, false, false, false, false] (by kernel_rfl) rfl rfl ⟨XWd.out.d0, XWd.out.d1, XWd.out.d2, XWd.out.d3, XWd.out.n.c7, X2d⟩ (fun hHeld => ?_); refine with_tabW snd_tab10 snd_bits10 (fun HT_ HW_ => ?_)
                    clear X2d
                    have hbd : b < wr.drew.heap.size := Nat.lt_of_lt_of_le hb XWd.out.b.size
                    generalize wr.drew = wd at XWd hHeld hbd ⊢
                    clear nlt
                    refine take_ (i := 0) (N := some 80) (v := ?_) (a' := ?_) #[true, false, false, false, false, false, false, false, false, false, false, false, false, false] rfl rfl (take_ofW HT_.out HW_.out (by kernel_rfl)) (fun _ _ _ h => h) (Or.inl ⟨by rfl, ?_⟩) hHeld ?_ ?_
                    rotate_left
                    · rintro w' ⟨s0, s1, s2, s3, s4, s5⟩
                      go_simp
                      with_reducible rfl
                    rotate_left
                    · simp only [Act.put, List.setIfInBounds_toArray, List.set_cons_zero, List.set_cons_succ, i64_w, i32_w]
                      rfl
                    refine pure_ (i := 1) (N := some 81) (v := ?_) (a' := ?_) #[true, true, false, false, false, false, false, false, false, false, false, false, false, false] rfl rfl (any_of HT_.out (by kernel_rfl)) (fun _ _ _ h => h) (Or.inl ⟨by rfl, ?_⟩) ?_ ?_
                    rotate_left
                    · intro w'
                      go_simp
                      with_reducible rfl
                    rotate_left
                    · simp only [Act.put, List.setIfInBounds_toArray, List.set_cons_zero, List.set_cons_succ, i64_w, i32_w]
                      rfl
                    refine take_ (i := 2) (N := some 82) (v := ?_) (a' := ?_) #[true, true, true, false, false, false, false, false, false, false, false, false, false, false] rfl rfl (take_ofW HT_.out HW_.out (by kernel_rfl)) (fun _ _ _ h => h) (Or.inl ⟨by rfl, ?_⟩) hHeld ?_ ?_
                    rotate_left
                    · rintro w' ⟨s0, s1, s2, s3, s4, s5⟩
                      go_simp
                      with_reducible rfl
                    rotate_left
                    · simp only [Act.put, List.setIfInBounds_toArray, List.set_cons_zero, List.set_cons_succ, i64_w, i32_w]
                      rfl
                    refine pure_ (i := 3) (N := some 83) (v := ?_) (a' := ?_) #[true, true, true, true, false, false, false, false, false, false, false, false, false, false] rfl rfl (any_of HT_.out (by kernel_rfl)) (fun _ _ _ h => h) (Or.inl ⟨by rfl, ?_⟩) ?_ ?_
                    rotate_left
                    · intro w'
                      go_simp
                      with_reducible rfl
                    rotate_left
                    · simp only [Act.put, List.setIfInBounds_toArray, List.set_cons_zero, List.set_cons_succ, i64_w, i32_w]
                      rfl
                    refine pure_ (i := 4) (N := some 84) (v := ?_) (a' := ?_) #[true, true, true, true, true, false, false, false, false, false, false, false, false, false] rfl rfl (any_of HT_.out (by kernel_rfl)) (fun _ _ _ h => h) (Or.inl ⟨by rfl, ?_⟩) ?_ ?_
                    rotate_left
                    · intro w'
                      go_simp
                      with_reducible rfl
                    rotate_left
                    · simp only [Act.put, List.setIfInBounds_toArray, List.set_cons_zero, List.set_cons_succ, i64_w, i32_w]
                      rfl
                    refine pure_ (i := 5) (N := some 85) (v := ?_) (a' := ?_) #[true, true, true, true, true, true, false, false, false, false, false, false, false, false] rfl rfl (any_of HT_.out (by kernel_rfl)) (fun _ _ _ h => h) (Or.inl ⟨by rfl, ?_⟩) ?_ ?_
                    rotate_left
                    · intro w'
                      go_simp
                      with_reducible rfl
                    rotate_left
                    · simp only [Act.put, List.setIfInBounds_toArray, List.set_cons_zero, List.set_cons_succ, i64_w, i32_w]
                      rfl
                    refine take_ (i := 6) (N := some 86) (v := ?_) (a' := ?_) #[true, true, true, true, true, true, true, false, false, false, false, false, false, false] rfl rfl (take_ofW HT_.out HW_.out (by kernel_rfl)) (fun _ _ _ h => h) (Or.inl ⟨by rfl, ?_⟩) hHeld ?_ ?_
                    rotate_left
                    · rintro w' ⟨s0, s1, s2, s3, s4, s5⟩
                      go_simp
                      with_reducible rfl
                    rotate_left
                    · simp only [Act.put, List.setIfInBounds_toArray, List.set_cons_zero, List.set_cons_succ, i64_w, i32_w]
                      rfl
                    refine two_ (i := 7) (j := 11) (Ni := some 87) (Nj := some 6) #[true, true, true, true, true, true, true, true, false, false, false, false, false, false] #[true, true, true, true, true, true, true, false, false, false, false, true, false, false] rfl rfl rfl rfl (two_of HT_.out (by kernel_rfl)) (by decide) (by decide) (fun K hK => ?_) (fun K hK => ?_)
                    · skip
                      refine goes_ Tryd.func31 (by kernel_rfl) rfl #[.agg #[.int .i64 B, .int .i64 I, .int .i64 Nx, .slice A l.length c], .int .i64 xx] (by rfl) rfl rfl (by first | rfl | (simp only [List.map_toArray, List.map_cons, List.map_nil]; rfl)) ?_
                      refine (h31 _ XWd.out.b).mono ?_
                      rintro e w1 ⟨r1, r2, r3, r4, r5, S5, m5, e5, r7, S7, m7, e7, q, rfl, hq, hb1⟩
                      refine ⟨_, rfl, ?_⟩
                      have XA1 : Aside (Boxes w w1 B I Nx (.slice A l.length c) i k m ls s (.slice A5 bl.length c5) t (.slice (some ⟨b, o, none⟩) N.length c7)) := XWd.out.on hb1
                      have E1 := keepC1 hb1 hHeld.2.2.2.2.2
                      have hbd1 : b < w1.heap.size := Nat.lt_of_lt_of_le hbd hb1.size
                      clear hb1 XWd hHeld hbd
                      refine hK.out _ _ ⟨XA1.out.d0, XA1.out.d1, XA1.out.d2, XA1.out.d3, XA1.out.n.c7, E1⟩ (fun hHeld => ?_)
                      clear hK K E1
                      refine norm_ (a' := ?_) ?_ ?_
                      rotate_left
                      · show Act.put _ (some 87) _ = _
                        simp only [Act.put, List.setIfInBounds_toArray, List.set_cons_zero, List.set_cons_succ, i64_w, i32_w]
                        rfl
                      refine pure_ (i := 8) (N := some 79) (v := ?_) (a' := ?_) #[true, true, true, true, true, true, true, true, true, false, false, false, false, false] rfl rfl (any_of HT_.out (by kernel_rfl)) (fun _ _ _ h => h) (Or.inl ⟨by rfl, ?_⟩) ?_ ?_
                      rotate_left
                      · intro w'
                        go_simp
                        with_reducible rfl
                      rotate_left
                      · simp only [Act.put, List.setIfInBounds_toArray, List.set_cons_zero, List.set_cons_succ, i64_w, i32_w]
                        rfl
                      refine pure_ (i := 9) (N := some 88) (v := ?_) (a' := ?_) #[true, true, true, true, true, true, true, true, true, true, false, false, false, false] rfl rfl (any_of HT_.out (by kernel_rfl)) (fun _ _ _ h => h) (Or.inl ⟨by rfl, ?_⟩) ?_ ?_
                      rotate_left
                      · intro w'
                        go_simp
                        with_reducible rfl
                      rotate_left
                      · simp only [Act.put, List.setIfInBounds_toArray, List.set_cons_zero, List.set_cons_succ, i64_w, i32_w]
                        rfl
                      refine pure_ (i := 10) (N := some 89) (v := ?_) (a' := ?_) #[true, true, true, true, true, true, true, true, true, true, true, false, false, false] rfl rfl (any_of HT_.out (by kernel_rfl)) (fun _ _ _ h => h) (Or.inl ⟨by rfl, ?_⟩) ?_ ?_
                      rotate_left
                      · intro w'
                        go_simp
                        with_reducible rfl
                      rotate_left
                      · simp only [Act.put, List.setIfInBounds_toArray, List.set_cons_zero, List.set_cons_succ, i64_w, i32_w]
                        rfl
                      refine one_ (i := 11) (N := some 6) #[true, true, true, true, true, true, true, true, true, true, true, true, false, false] rfl rfl (one_of HT_.out (by kernel_rfl)) (by decide) (fun K hK => ?_)
                      refine box_step ?hg (N := 6) ?hd (cs := #[.int .i64 0, .int .i64 0, .int .i64 0, .int .i64 0, .int .i64 0, .slice none 0 0, .string (⟨#[]⟩ : ByteArray), .slice none 0 0]) (t := 42) ?hr ?_; (case hd => rfl); (case hg => rfl); (case hr => first | (go_simp; done) | (go_simp; rfl))
                      intro gb hg w2 hbox hb2
                      have XA2 : Aside (Boxes w w2 B I Nx (.slice A l.length c) i k m ls s (.slice A5 bl.length c5) t (.slice (some ⟨b, o, none⟩) N.length c7)) := XA1.out.on hb2
                      have Y : Aside (Box8 w2 gb 0 0 0 0 0 (.slice none 0 0) ⟨#[]⟩ (.slice none 0 0)) := box8_of hbox
                      have hgl : w.heap.size + 1 < gb := by have := XA1.out.n.lt; omega
                      have hbg : b ≠ gb := by omega
                      clear hg
                      have E2 := keepC1 hb2 hHeld.2.2.2.2.2
                      clear hb2 hHeld XA1 hbox
                      refine hK.out _ _ ⟨XA2.out.d0, XA2.out.d1, XA2.out.d2, XA2.out.d3, XA2.out.n.c7, E2⟩ (fun hHeld => ?_)
                      clear hK K E2
                      refine norm_ (a' := ?_) ?_ ?_
                      rotate_left
                      · show Act.put _ (some 6) _ = _
                        simp only [Act.put, List.setIfInBounds_toArray, List.set_cons_zero, List.set_cons_succ, i64_w, i32_w]
                        rfl
                      obtain ⟨g0, g1, g2, g3, g4, g5, g6, g7, gz, gl⟩ := Y.out
                      have z0 := gz 0
                      have z1 := gz 1
                      have z2 := gz 2
                      have z3 := gz 3
                      have z4 := gz 4
                      have z5 := gz 5
                      have z6 := gz 6
                      have z7 := gz 7
                      clear gz gl
                      have XS : Aside (Boxes w ((((((((w2.setCell ⟨gb, 0, none⟩ (.int .i64 r1)).setCell ⟨gb, 1, none⟩ (.int .i64 r2)).setCell ⟨gb, 2, none⟩ (.int .i64 r3)).setCell ⟨gb, 3, none⟩ (.int .i64 r4)).setCell ⟨gb, 4, none⟩ (.int .i64 r5)).setCell ⟨gb, 5, none⟩ (.slice S5 m5 e5)).setCell ⟨gb, 6, none⟩ (.string r7)).setCell ⟨gb, 7, none⟩ (.slice S7 m7 e7)) B I Nx (.slice A l.length c) i k m ls s (.slice A5 bl.length c5) t (.slice (some ⟨b, o, none⟩) N.length c7)) := (Boxes.far (Boxes.far (Boxes.far (Boxes.far (Boxes.far (Boxes.far (Boxes.far (Boxes.far XA2.out hgl 0 (.int .i64 r1)) hgl 1 (.int .i64 r2)) hgl 2 (.int .i64 r3)) hgl 3 (.int .i64 r4)) hgl 4 (.int .i64 r5)) hgl 5 (.slice S5 m5 e5)) hgl 6 (.string r7)) hgl 7 (.slice S7 m7 e7))
                      have XC : ((((((((w2.setCell ⟨gb, 0, none⟩ (.int .i64 r1)).setCell ⟨gb, 1, none⟩ (.int .i64 r2)).setCell ⟨gb, 2, none⟩ (.int .i64 r3)).setCell ⟨gb, 3, none⟩ (.int .i64 r4)).setCell ⟨gb, 4, none⟩ (.int .i64 r5)).setCell ⟨gb, 5, none⟩ (.slice S5 m5 e5)).setCell ⟨gb, 6, none⟩ (.string r7)).setCell ⟨gb, 7, none⟩ (.slice S7 m7 e7)).cell? ⟨b, o + j * 2 + 1, none⟩ = some (.int .i64 xx) := ((World.cell?_setCell_far _ _ _ _ (by dsimp only; omega)).trans ((World.cell?_setCell_far _ _ _ _ (by dsimp only; omega)).trans ((World.cell?_setCell_far _ _ _ _ (by dsimp only; omega)).trans ((World.cell?_setCell_far _ _ _ _ (by dsimp only; omega)).trans ((World.cell?_setCell_far _ _ _ _ (by dsimp only; omega)).trans ((World.cell?_setCell_far _ _ _ _ (by dsimp only; omega)).trans ((World.cell?_setCell_far _ _ _ _ (by dsimp only; omega)).trans ((World.cell?_setCell_far _ _ _ _ (by dsimp only; omega)).trans hHeld.2.2.2.2.2))))))))
                      refine one_ (i := 12) (N := none) #[true, true, true, true, true, true, true, true, true, true, true, true, true, false] rfl rfl (one_of HT_.out (by kernel_rfl)) (by decide) (fun K hK => ?_)
                      refine skip_ (w1 := ?_) (by rfl) rfl ?_ ?_
                      rotate_left
                      · go_simp
                        rfl
                      refine hK.out _ _ ⟨XS.out.d0, XS.out.d1, XS.out.d2, XS.out.d3, XS.out.n.c7, XC⟩ (fun hHeld => ?_)
                      clear hK K XC
                      refine pure_ (i := 13) (N := some 7) (v := ?_) (a' := ?_) #[true, true, true, true, true, true, true, true, true, true, true, true, true, true] rfl rfl (any_of HT_.out (by kernel_rfl)) (fun _ _ _ h => h) (Or.inl ⟨by rfl, ?_⟩) ?_ ?_
                      rotate_left
                      · intro w'
                        go_simp
                        with_reducible rfl
                      rotate_left
                      · simp only [Act.put, List.setIfInBounds_toArray, List.set_cons_zero, List.set_cons_succ, i64_w, i32_w]
                        rfl
                      refine done_ (done_of HT_.out (by kernel_rfl)) ?_
                      try go_wp2
                      go_meet
                      case rel => exact ⟨q, rfl, by rw [HXX.out]; exact hq.out, XS⟩
                    · skip
                      refine box_step ?hg (N := 6) ?hd (cs := #[.int .i64 0, .int .i64 0, .int .i64 0, .int .i64 0, .int .i64 0, .slice none 0 0, .string (⟨#[]⟩ : ByteArray), .slice none 0 0]) (t := 42) ?hr ?_; (case hd => rfl); (case hg => rfl); (case hr => first | (go_simp; done) | (go_simp; rfl))
                      intro gb hg w1 hbox hb1
                      have XA1 : Aside (Boxes w w1 B I Nx (.slice A l.length c) i k m ls s (.slice A5 bl.length c5) t (.slice (some ⟨b, o, none⟩) N.length c7)) := XWd.out.on hb1
                      have hgl : w.heap.size + 1 < gb := by have := XWd.out.n.lt; omega
                      have hbg : b ≠ gb := by omega
                      clear hg
                      have E1 := keepC1 hb1 hHeld.2.2.2.2.2
                      clear hb1 XWd hHeld hbd
                      refine hK.out _ _ ⟨XA1.out.d0, XA1.out.d1, XA1.out.d2, XA1.out.d3, XA1.out.n.c7, E1⟩ (fun hHeld => ?_)
                      clear hK K E1
                      refine norm_ (a' := ?_) ?_ ?_
                      rotate_left
                      · show Act.put _ (some 6) _ = _
                        simp only [Act.put, List.setIfInBounds_toArray, List.set_cons_zero, List.set_cons_succ, i64_w, i32_w]
                        rfl
                      refine one_ (i := 7) (N := some 87) #[true, true, true, true, true, true, true, true, false, false, false, true, false, false] rfl rfl (one_of HT_.out (by kernel_rfl)) (by decide) (fun K hK => ?_)
                      refine goes_ Tryd.func31 (by kernel_rfl) rfl #[.agg #[.int .i64 B, .int .i64 I, .int .i64 Nx, .slice A l.length c], .int .i64 xx] (by rfl) rfl rfl (by first | rfl | (simp only [List.map_toArray, List.map_cons, List.map_nil]; rfl)) ?_
                      refine (h31 _ XA1.out.b).mono ?_
                      rintro e w2 ⟨r1, r2, r3, r4, r5, S5, m5, e5, r7, S7, m7, e7, q, rfl, hq, hb2⟩
                      refine ⟨_, rfl, ?_⟩
                      have XA2 : Aside (Boxes w w2 B I Nx (.slice A l.length c) i k m ls s (.slice A5 bl.length c5) t (.slice (some ⟨b, o, none⟩) N.length c7)) := XA1.out.on hb2
                      have Y : Aside (Box8 w2 gb 0 0 0 0 0 (.slice none 0 0) ⟨#[]⟩ (.slice none 0 0)) := (box8_of hbox).on hb2
                      have E2 := keepC1 hb2 hHeld.2.2.2.2.2
                      clear hb2 hHeld XA1 hbox
                      refine hK.out _ _ ⟨XA2.out.d0, XA2.out.d1, XA2.out.d2, XA2.out.d3, XA2.out.n.c7, E2⟩ (fun hHeld => ?_)
                      clear hK K E2
                      refine norm_ (a' := ?_) ?_ ?_
                      rotate_left
                      · show Act.put _ (some 87) _ = _
                        simp only [Act.put, List.setIfInBounds_toArray, List.set_cons_zero, List.set_cons_succ, i64_w, i32_w]
                        rfl
                      refine pure_ (i := 8) (N := some 79) (v := ?_) (a' := ?_) #[true, true, true, true, true, true, true, true, true, false, false, true, false, false] rfl rfl (any_of HT_.out (by kernel_rfl)) (fun _ _ _ h => h) (Or.inl ⟨by rfl, ?_⟩) ?_ ?_
                      rotate_left
                      · intro w'
                        go_simp
                        with_reducible rfl
                      rotate_left
                      · simp only [Act.put, List.setIfInBounds_toArray, List.set_cons_zero, List.set_cons_succ, i64_w, i32_w]
                        rfl
                      refine pure_ (i := 9) (N := some 88) (v := ?_) (a' := ?_) #[true, true, true, true, true, true, true, true, true, true, false, true, false, false] rfl rfl (any_of HT_.out (by kernel_rfl)) (fun _ _ _ h => h) (Or.inl ⟨by rfl, ?_⟩) ?_ ?_
                      rotate_left
                      · intro w'
                        go_simp
                        with_reducible rfl
                      rotate_left
                      · simp only [Act.put, List.setIfInBounds_toArray, List.set_cons_zero, List.set_cons_succ, i64_w, i32_w]
                        rfl
                      refine pure_ (i := 10) (N := some 89) (v := ?_) (a' := ?_) #[true, true, true, true, true, true, true, true, true, true, true, true, false, false] rfl rfl (any_of HT_.out (by kernel_rfl)) (fun _ _ _ h => h) (Or.inl ⟨by rfl, ?_⟩) ?_ ?_
                      rotate_left
                      · intro w'
                        go_simp
                        with_reducible rfl
                      rotate_left
                      · simp only [Act.put, List.setIfInBounds_toArray, List.set_cons_zero, List.set_cons_succ, i64_w, i32_w]
                        rfl
                      obtain ⟨g0, g1, g2, g3, g4, g5, g6, g7, gz, gl⟩ := Y.out
                      have z0 := gz 0
                      have z1 := gz 1
                      have z2 := gz 2
                      have z3 := gz 3
                      have z4 := gz 4
                      have z5 := gz 5
                      have z6 := gz 6
                      have z7 := gz 7
                      clear gz gl
                      have XS : Aside (Boxes w ((((((((w2.setCell ⟨gb, 0, none⟩ (.int .i64 r1)).setCell ⟨gb, 1, none⟩ (.int .i64 r2)).setCell ⟨gb, 2, none⟩ (.int .i64 r3)).setCell ⟨gb, 3, none⟩ (.int .i64 r4)).setCell ⟨gb, 4, none⟩ (.int .i64 r5)).setCell ⟨gb, 5, none⟩ (.slice S5 m5 e5)).setCell ⟨gb, 6, none⟩ (.string r7)).setCell ⟨gb, 7, none⟩ (.slice S7 m7 e7)) B I Nx (.slice A l.length c) i k m ls s (.slice A5 bl.length c5) t (.slice (some ⟨b, o, none⟩) N.length c7)) := (Boxes.far (Boxes.far (Boxes.far (Boxes.far (Boxes.far (Boxes.far (Boxes.far (Boxes.far XA2.out hgl 0 (.int .i64 r1)) hgl 1 (.int .i64 r2)) hgl 2 (.int .i64 r3)) hgl 3 (.int .i64 r4)) hgl 4 (.int .i64 r5)) hgl 5 (.slice S5 m5 e5)) hgl 6 (.string r7)) hgl 7 (.slice S7 m7 e7))
                      have XC : ((((((((w2.setCell ⟨gb, 0, none⟩ (.int .i64 r1)).setCell ⟨gb, 1, none⟩ (.int .i64 r2)).setCell ⟨gb, 2, none⟩ (.int .i64 r3)).setCell ⟨gb, 3, none⟩ (.int .i64 r4)).setCell ⟨gb, 4, none⟩ (.int .i64 r5)).setCell ⟨gb, 5, none⟩ (.slice S5 m5 e5)).setCell ⟨gb, 6, none⟩ (.string r7)).setCell ⟨gb, 7, none⟩ (.slice S7 m7 e7)).cell? ⟨b, o + j * 2 + 1, none⟩ = some (.int .i64 xx) := ((World.cell?_setCell_far _ _ _ _ (by dsimp only; omega)).trans ((World.cell?_setCell_far _ _ _ _ (by dsimp only; omega)).trans ((World.cell?_setCell_far _ _ _ _ (by dsimp only; omega)).trans ((World.cell?_setCell_far _ _ _ _ (by dsimp only; omega)).trans ((World.cell?_setCell_far _ _ _ _ (by dsimp only; omega)).trans ((World.cell?_setCell_far _ _ _ _ (by dsimp only; omega)).trans ((World.cell?_setCell_far _ _ _ _ (by dsimp only; omega)).trans ((World.cell?_setCell_far _ _ _ _ (by dsimp only; omega)).trans hHeld.2.2.2.2.2))))))))
                      refine one_ (i := 12) (N := none) #[true, true, true, true, true, true, true, true, true, true, true, true, true, false] rfl rfl (one_of HT_.out (by kernel_rfl)) (by decide) (fun K hK => ?_)
                      refine skip_ (w1 := ?_) (by rfl) rfl ?_ ?_
                      rotate_left
                      · go_simp
                        rfl
                      refine hK.out _ _ ⟨XS.out.d0, XS.out.d1, XS.out.d2, XS.out.d3, XS.out.n.c7, XC⟩ (fun hHeld => ?_)
                      clear hK K XC
                      refine pure_ (i := 13) (N := some 7) (v := ?_) (a' := ?_) #[true, true, true, true, true, true, true, true, true, true, true, true, true, true] rfl rfl (any_of HT_.out (by kernel_rfl)) (fun _ _ _ h => h) (Or.inl ⟨by rfl, ?_⟩) ?_ ?_
                      rotate_left
                      · intro w'
                        go_simp
                        with_reducible rfl
                      rotate_left
                      · simp only [Act.put, List.setIfInBounds_toArray, List.set_cons_zero, List.set_cons_succ, i64_w, i32_w]
                        rfl
                      refine done_ (done_of HT_.out (by kernel_rfl)) ?_
                      try go_wp2
                      go_meet
                      case rel => exact ⟨q, rfl, by rw [HXX.out]; exact hq.out, XS⟩
                  case rest =>
                    obtain ⟨q7, rfl, hq7, XR⟩ := hcut
                    clear XW
                    go_upto_region 11 with fail
                    go_cut [121] (fun v121 wc => ∃ q : Bool, v121 = .bool q ∧ Aside (q = false → q7 = true ∧ (0 < j → Op.bytesLess (nmL N (j - 1)).toList (nmL N j).toList = true)) ∧ Aside (Boxes w wc B I Nx (.slice A l.length c) i k m ls s (.slice A5 bl.length c5) t (.slice (some ⟨b, o, none⟩) N.length c7)))
                    case first =>
                      obtain ⟨q16, h16⟩ := H16.out j hlt
                      have hbw : b < wc.heap.size := Nat.lt_of_lt_of_le hb XR.out.b.size
                      obtain ⟨-, -, -, -, ⟨-, -, -, -, -, -, -, n7, -, nlt⟩, -⟩ := XR.out
                      obtain ⟨b', o', e', -, hNA⟩ := HNA.out.resolve_left (by omega)
                      cases e'
                      cases q7 with
                      | false =>
                        clear hNA h16
                        go_quiet (fail)
                        go_wp2
                        go_meet
                        case rel => exact ⟨true, rfl, fun h => (by cases h), by first | exact XR | exact XR.out.on (below_drewN (Below.refl _ _) _) | exact XR.out.drew⟩
                      | true =>
                        have x1 := (XR.out.b.cell hb).trans (hNA j hlt).1
                        cases q16 with
                        | false =>
                          clear hNA
                          go_quiet ((go_at_call 16; exact Calls.quiet_of (h16 _)))
                          go_wp2
                          go_meet
                          case rel => exact ⟨true, rfl, fun h => (by cases h), by first | exact XR | exact XR.out.on (below_drewN (Below.refl _ _) _) | exact XR.out.drew⟩
                        | true =>
                          rcases Nat.eq_zero_or_pos j with hj0 | hj0
                          · subst hj0
                            clear hNA
                            have hp : (0 : Int) < (N.length : Int) := by omega
                            simp only [Nat.zero_mul, Nat.add_zero] at x1
                            go_quiet ((go_at_call 16; exact Calls.quiet_of (h16 _)))
                            go_wp2
                            go_meet
                            case rel => exact ⟨false, rfl, fun _ => ⟨trivial, fun h => absurd h (Nat.lt_irrefl _)⟩, by first | exact XR | exact XR.out.on (below_drewN (Below.refl _ _) _) | exact XR.out.drew⟩
                          · have y1 := (XR.out.b.cell hb).trans (hNA (j - 1) (by omega)).1
                            obtain ⟨j', rfl⟩ : ∃ j', j = j' + 1 := ⟨j - 1, by omega⟩
                            rw [Nat.add_sub_cancel] at y1
                            clear hNA
                            go_quiet ((go_at_call 16; exact Calls.quiet_of (h16 _)))
                            go_wp2
                            go_meet
                            case rel => exact ⟨_, rfl, fun h => ⟨trivial, fun _ => by rw [Nat.add_sub_cancel]; exact not_leq h⟩, by first | exact XR | exact XR.out.on (below_drewN (Below.refl _ _) _) | exact XR.out.drew⟩
                    case rest =>
                      obtain ⟨q, rfl, hq, XS⟩ := hcut
                      clear XR
                      cases q with
                      | true =>
                        go_wp2
                        go_ret
                        exact ⟨false, rfl, fun h => (by cases h), XS.out.b⟩
                      | false =>
                        have HG' : Aside (Good l N (j + 1)) := good_step hG.out hlt hq.out hq7.out
                        go_wp2
                        go_roundg (N.length - (j + 1))
                        case measure => have := hg.out; omega
                        case rel => exact ⟨j + 1, Nat.succ_le_of_lt hlt, by go_num, rfl, HG', XS⟩
                · obtain rfl : j = N.length := by omega
                  clear hlt
                  obtain ⟨d0, d1, d2, d3, ⟨n0, n1, n2, n3, n4, n5, n6, n7, -, nlt⟩, -⟩ := XW.out
                  go_wp2
                  go_ret
                  exact ⟨true, rfl, fun _ => hG.out, XW.out.b⟩
end Go.Proofs.YtaeakifdamlnlaaDoor
