/- Functions of the law as plain Lean functions, and that the machine's calls come to them (printed by the kit's print tool, picked). -/
import Derived.Test.YtaeakifdamlnlaaDoorPMarkTellsx0
namespace Go.Proofs.YtaeakifdamlnlaaDoor.PMarkTells
open Go.RowKit Go.Proofs.YtaeakifdamlnlaaDoorW.PrintWords Go.Proofs.YtaeakifdamlnlaaDoorW.PrintLast Go.Proofs.YtaeakifdamlnlaaDoorW.PrintMore
attribute [local go_sem] max2_int min2_int max_two min_two max_three min_three max_four min_four   -- for this text's walks alone
set_option linter.unusedVariables false
set_option linter.unusedSimpArgs false
mutual
def veneerlaw10_heavy.l0 : Nat → List (S24) → Int → Int → Option (Bool)
  | 0, _, _, _ => none
  | k + 1, x0, x3, x4 => if x4 < (x0.length : Int) then (veneerlaw10_heavy.j1 k x0 x3 x4 (decide (x4 < 10))) else (veneerlaw10_heavy.j1 k x0 x3 x4 false)
def veneerlaw10_heavy.j1 : Nat → List (S24) → Int → Int → Bool → Option (Bool)
  | 0, _, _, _, _ => none
  | k + 1, x0, x3, x4, x13 => if x13 = true then (veneerlaw10_heavy.l1 k x0 x3 x4 0) else (if (x0.length : Int) > 8 then (some true) else (some (decide (x3 > 700))))
def veneerlaw10_heavy.l1 : Nat → List (S24) → Int → Int → Int → Option (Bool)
  | 0, _, _, _, _ => none
  | k + 1, x0, x3, x4, x5 => if 0 ≤ x4 then (if x4 < (x0.length : Int) then (if x5 < (((rd_T24 x0 x4).f3).length : Int) then (if x5 < 200 then (if 0 ≤ x5 then (veneerlaw10_heavy.l1 k x0 (wrap64 ((wrap64 ((wrap64 (x3 + 1)) + (((rd_T42 ((rd_T24 x0 x4).f3) x5).f6).length : Int))) + (((rd_T42 ((rd_T24 x0 x4).f3) x5).f4.f1).length : Int))) x4 (wrap64 (x5 + 1))) else (none)) else (veneerlaw10_heavy.l0 k x0 x3 (wrap64 (x4 + 1)))) else (veneerlaw10_heavy.l0 k x0 x3 (wrap64 (x4 + 1)))) else (none)) else (none)
end
def veneerlaw10_heavy.f (k : Nat) (l0 : List (S24)) : Option (Bool) := veneerlaw10_heavy.l0 k l0 0 0
set_option maxHeartbeats 8000000 in
set_option maxRecDepth 100000 in
theorem veneerlaw10_heavy.calls (k : Nat) (A0 : Option Addr) (c0 : Nat) (l0 : List (S24)) (r : Bool) (w : World) (hr0 : Kd.C k24 w A0 l0.length l0) (hc0 : l0.length ≤ c0) (h : veneerlaw10_heavy.f k l0 = some r) :
    Calls Tryd.prog 5 #[.slice A0 l0.length c0] w fun e w' => e = .returned (.bool r) ∧ Drawn0 w w' := by
  have HR0 := Aside0.mk hr0
  have HC0 := Aside0.mk hc0
  clear hr0 hc0
  have H : (veneerlaw10_heavy.l0 k l0 0 0) = some r := h
  clear h
  have H' := Aside0.mk H
  clear H
  go_enter Tryd.func5, Tryd.ntmps5
  go_wp2
  repeat (go_quiet (fail); try go_wp2)
  go_loopg [3, 4] k (fun kq v3 v4 w' => ∃ (x3_1 : Int) (x4_1 : Int), v3 = .int .i64 x3_1 ∧ v4 = .int .i64 x4_1 ∧ Aside0 (veneerlaw10_heavy.l0 kq l0 x3_1 x4_1 = some r) ∧ Aside0 (kq ≤ k) ∧ Drawn0 w w')
  case atStart => exact ⟨(0), (0), (by first | rfl | (simp; done) | (simp [*]; done)), (by first | rfl | (simp; done) | (simp [*]; done)), H', ⟨Nat.le_refl _⟩, by repeat (first | exact Drawn0.refl _ | apply Drawn0.step)⟩
  case round =>
    clear H'
    obtain ⟨x3_1, x4_1, rfl, rfl, HA, HK1, ⟨m1, rfl⟩⟩ := hrel
    cases gk with
    | zero => exact absurd HA.out (by simp [veneerlaw10_heavy.l0])
    | succ k1 =>
      have H := HA.out
      clear HA
      simp only [veneerlaw10_heavy.l0] at H
      have HC2 := Aside0.mk H
      clear H
      go_upto_region 3 with (fail)
      repeat (go_quiet (fail); go_upto_region 3 with (fail))
      go_cut [13] (fun v13 wc => ∃ (kq : Nat) (x13_1 : Bool), v13 = .bool x13_1 ∧ Aside0 (veneerlaw10_heavy.j1 kq l0 x3_1 x4_1 x13_1 = some r) ∧ Aside0 (kq ≤ k1) ∧ Drawn0 w wc)
      case first =>
        have H := HC2.out
        clear HC2
        by_cases c3 : x4_1 < (l0.length : Int)
        · rw [if_pos c3] at H
          have c3b0 : decide (x4_1 < (l0.length : Int)) = true := decide_eq_true c3
          clear c3
          (first | rw [c3b0] | (simp only [i64_w, i32_w]; rw [c3b0]) | skip)
          have H' := Aside0.mk H
          clear H
          go_wp2
          repeat (go_quiet (fail); try go_wp2)
          go_meet
          case rel => exact ⟨_, (decide (x4_1 < 10)), (by first | rfl | (simp; done) | (simp [*]; done)), H', ⟨by have := HK1.out; first | omega | exact Nat.le_refl _⟩, by repeat (first | exact Drawn0.refl _ | apply Drawn0.step)⟩
        · rw [if_neg c3] at H
          have c3b0 : decide (x4_1 < (l0.length : Int)) = false := decide_eq_false c3
          clear c3
          (first | rw [c3b0] | (simp only [i64_w, i32_w]; rw [c3b0]) | skip)
          have H' := Aside0.mk H
          clear H
          go_wp2
          repeat (go_quiet (fail); try go_wp2)
          go_meet
          case rel => exact ⟨_, (false), (by first | rfl | (simp; done) | (simp [*]; done)), H', ⟨by have := HK1.out; first | omega | exact Nat.le_refl _⟩, by repeat (first | exact Drawn0.refl _ | apply Drawn0.step)⟩
      case rest =>
        clear HC2
        try clear p2
        try clear c3
        try clear c3b0
        obtain ⟨kq, x13_1, rfl, HA, HJ1, ⟨mc1, rfl⟩⟩ := hcut
        cases kq with
        | zero => exact absurd HA.out (by simp [veneerlaw10_heavy.j1])
        | succ kj1 =>
          have H := HA.out
          clear HA
          simp only [veneerlaw10_heavy.j1] at H
          by_cases c4 : x13_1 = true
          · subst c4
            have H1 : (veneerlaw10_heavy.l1 kj1 l0 x3_1 x4_1 0) = some r := by rw [if_pos rfl] at H; exact H
            clear H
            have H := H1
            clear H1
            have H' := Aside0.mk H
            clear H
            go_wp2
            repeat (go_quiet (fail); try go_wp2)
            go_loopg [3, 5] kj1 (fun kq v3 v5 w' => ∃ (x3_3 : Int) (x5_3 : Int), v3 = .int .i64 x3_3 ∧ v5 = .int .i64 x5_3 ∧ Aside0 (veneerlaw10_heavy.l1 kq l0 x3_3 x4_1 x5_3 = some r) ∧ Aside0 (kq ≤ kj1) ∧ Drawn0 w w')
            case atStart => exact ⟨(x3_1), (0), (by first | rfl | (simp; done) | (simp [*]; done)), (by first | rfl | (simp; done) | (simp [*]; done)), H', ⟨Nat.le_refl _⟩, by repeat (first | exact Drawn0.refl _ | apply Drawn0.step)⟩
            case round =>
              clear H'
              try clear c1
              try clear p2
              try clear c3
              try clear c3b0
              try clear c4
              try clear p2
              obtain ⟨x3_3, x5_3, rfl, rfl, HA, HK3, ⟨m3, rfl⟩⟩ := hrel
              cases gk with
              | zero => exact absurd HA.out (by simp [veneerlaw10_heavy.l1])
              | succ k3 =>
                have H := HA.out
                clear HA
                simp only [veneerlaw10_heavy.l1] at H
                by_cases c5 : 0 ≤ x4_1
                · rw [if_pos c5] at H
                  have c5b0 : decide (0 ≤ x4_1) = true := decide_eq_true c5
                  clear c5
                  by_cases c6 : x4_1 < (l0.length : Int)
                  · rw [if_pos c6] at H
                    have c6b0 : decide (x4_1 < (l0.length : Int)) = true := decide_eq_true c6
                    clear c6
                    by_cases c7 : x5_3 < (((rd_T24 l0 x4_1).f3).length : Int)
                    · rw [if_pos c7] at H
                      have c7b0 : decide (x5_3 < (((rd_T24 l0 x4_1).f3).length : Int)) = true := decide_eq_true c7
                      clear c7
                      by_cases c8 : x5_3 < 200
                      · rw [if_pos c8] at H
                        have c8b0 : decide (x5_3 < 200) = true := decide_eq_true c8
                        clear c8
                        by_cases c9 : 0 ≤ x5_3
                        · rw [if_pos c9] at H
                          have c9b0 : decide (0 ≤ x5_3) = true := decide_eq_true c9
                          clear c9
                          have H' := Aside0.mk H
                          clear H
                          have p101 : 0 ≤ (x4_1 : Int) := of_decide_eq_true (by first | (with_reducible assumption) | assumption)
                          have q101 : x4_1 < (l0.length : Int) := of_decide_eq_true (by first | (with_reducible assumption) | assumption)
                          obtain ⟨ad101, A101_3, c101_3, e101, hx101_0, hx101_1, hx101_2, hx101_3, hl101_3, hi101_3⟩ := at_T24 HR0.out x4_1 p101 q101
                          cases e101
                          have HR101_3 := Aside0.mk hi101_3
                          have HC101_3 := Aside0.mk hl101_3
                          clear hi101_3 hl101_3
                          replace p101 := eq_true p101
                          replace q101 := eq_true q101
                          have p102 : 0 ≤ (x4_1 : Int) := of_decide_eq_true (by first | (with_reducible assumption) | assumption)
                          have q102 : x4_1 < (l0.length : Int) := of_decide_eq_true (by first | (with_reducible assumption) | assumption)
                          obtain ⟨ad102, A102_3, c102_3, e102, hx102_0, hx102_1, hx102_2, hx102_3, hl102_3, hi102_3⟩ := at_T24 HR0.out x4_1 p102 q102
                          obtain rfl : ad101 = ad102 := (by injection e102)
                          have HR102_3 := Aside0.mk hi102_3
                          have HC102_3 := Aside0.mk hl102_3
                          clear hi102_3 hl102_3
                          replace p102 := eq_true p102
                          replace q102 := eq_true q102
                          have ea_ := Option.some.inj (hx101_3.symm.trans hx102_3)
                          injection ea_ with ea_ en_ ec_
                          subst ea_
                          subst ec_
                          clear en_
                          have p103 : 0 ≤ (x5_3 : Int) := of_decide_eq_true (by first | (with_reducible assumption) | assumption)
                          have q103 : x5_3 < (((rd_T24 l0 x4_1).f3).length : Int) := of_decide_eq_true (by first | (with_reducible assumption) | assumption)
                          obtain ⟨ad103, A103_5, c103_5, A103_7, c103_7, e103, hx103_0, hx103_1, hx103_2, hx103_3, hx103_4, hx103_5, hx103_6, hx103_7, hl103_5, hi103_5, hl103_7, hi103_7⟩ := at_T42 HR102_3.out x5_3 p103 q103
                          cases e103
                          have HR103_5 := Aside0.mk hi103_5
                          have HC103_5 := Aside0.mk hl103_5
                          clear hi103_5 hl103_5
                          have HR103_7 := Aside0.mk hi103_7
                          have HC103_7 := Aside0.mk hl103_7
                          clear hi103_7 hl103_7
                          replace p103 := eq_true p103
                          replace q103 := eq_true q103
                          have p104 : 0 ≤ (x4_1 : Int) := of_decide_eq_true (by first | (with_reducible assumption) | assumption)
                          have q104 : x4_1 < (l0.length : Int) := of_decide_eq_true (by first | (with_reducible assumption) | assumption)
                          obtain ⟨ad104, A104_3, c104_3, e104, hx104_0, hx104_1, hx104_2, hx104_3, hl104_3, hi104_3⟩ := at_T24 HR0.out x4_1 p104 q104
                          obtain rfl : ad101 = ad104 := (by injection e104)
                          have HR104_3 := Aside0.mk hi104_3
                          have HC104_3 := Aside0.mk hl104_3
                          clear hi104_3 hl104_3
                          replace p104 := eq_true p104
                          replace q104 := eq_true q104
                          have ea_ := Option.some.inj (hx101_3.symm.trans hx104_3)
                          injection ea_ with ea_ en_ ec_
                          subst ea_
                          subst ec_
                          clear en_
                          have p105 : 0 ≤ (x5_3 : Int) := of_decide_eq_true (by first | (with_reducible assumption) | assumption)
                          have q105 : x5_3 < (((rd_T24 l0 x4_1).f3).length : Int) := of_decide_eq_true (by first | (with_reducible assumption) | assumption)
                          obtain ⟨ad105, A105_5, c105_5, A105_7, c105_7, e105, hx105_0, hx105_1, hx105_2, hx105_3, hx105_4, hx105_5, hx105_6, hx105_7, hl105_5, hi105_5, hl105_7, hi105_7⟩ := at_T42 HR104_3.out x5_3 p105 q105
                          cases e105
                          have HR105_5 := Aside0.mk hi105_5
                          have HC105_5 := Aside0.mk hl105_5
                          clear hi105_5 hl105_5
                          have HR105_7 := Aside0.mk hi105_7
                          have HC105_7 := Aside0.mk hl105_7
                          clear hi105_7 hl105_7
                          replace p105 := eq_true p105
                          replace q105 := eq_true q105
                          go_wp2
                          repeat (go_quiet (fail); try go_wp2)
                          go_roundg k3
                          case measure => have := HK1.out; have := HJ1.out; have := HK3.out; omega
                          case rel => exact ⟨(wrap64 ((wrap64 ((wrap64 (x3_3 + 1)) + (((rd_T42 ((rd_T24 l0 x4_1).f3) x5_3).f6).length : Int))) + (((rd_T42 ((rd_T24 l0 x4_1).f3) x5_3).f4.f1).length : Int))), (wrap64 (x5_3 + 1)), (by first | rfl | (simp; done) | (simp [*]; done)), (by first | rfl | (simp; done) | (simp [*]; done)), H', ⟨by have := HK1.out; have := HJ1.out; have := HK3.out; omega⟩, by repeat (first | exact Drawn0.refl _ | apply Drawn0.step)⟩
                        · rw [if_neg c9] at H
                          exact absurd H (by simp)
                      · rw [if_neg c8] at H
                        have c8b0 : decide (x5_3 < 200) = false := decide_eq_false c8
                        clear c8
                        have H' := Aside0.mk H
                        clear H
                        have p101 : 0 ≤ (x4_1 : Int) := of_decide_eq_true (by first | (with_reducible assumption) | assumption)
                        have q101 : x4_1 < (l0.length : Int) := of_decide_eq_true (by first | (with_reducible assumption) | assumption)
                        obtain ⟨ad101, A101_3, c101_3, e101, hx101_0, hx101_1, hx101_2, hx101_3, hl101_3, hi101_3⟩ := at_T24 HR0.out x4_1 p101 q101
                        cases e101
                        have HR101_3 := Aside0.mk hi101_3
                        have HC101_3 := Aside0.mk hl101_3
                        clear hi101_3 hl101_3
                        replace p101 := eq_true p101
                        replace q101 := eq_true q101
                        go_wp2
                        repeat (go_quiet (fail); try go_wp2)
                        go_roundg k3
                        case measure => have := HK1.out; have := HJ1.out; have := HK3.out; omega
                        case rel => exact ⟨(x3_3), (wrap64 (x4_1 + 1)), (by first | rfl | (simp; done) | (simp [*]; done)), (by first | rfl | (simp; done) | (simp [*]; done)), H', ⟨by have := HK1.out; have := HJ1.out; have := HK3.out; omega⟩, by repeat (first | exact Drawn0.refl _ | apply Drawn0.step)⟩
                    · rw [if_neg c7] at H
                      have c7b0 : decide (x5_3 < (((rd_T24 l0 x4_1).f3).length : Int)) = false := decide_eq_false c7
                      clear c7
                      have H' := Aside0.mk H
                      clear H
                      have p101 : 0 ≤ (x4_1 : Int) := of_decide_eq_true (by first | (with_reducible assumption) | assumption)
                      have q101 : x4_1 < (l0.length : Int) := of_decide_eq_true (by first | (with_reducible assumption) | assumption)
                      obtain ⟨ad101, A101_3, c101_3, e101, hx101_0, hx101_1, hx101_2, hx101_3, hl101_3, hi101_3⟩ := at_T24 HR0.out x4_1 p101 q101
                      cases e101
                      have HR101_3 := Aside0.mk hi101_3
                      have HC101_3 := Aside0.mk hl101_3
                      clear hi101_3 hl101_3
                      replace p101 := eq_true p101
                      replace q101 := eq_true q101
                      go_wp2
                      repeat (go_quiet (fail); try go_wp2)
                      go_roundg k3
                      case measure => have := HK1.out; have := HJ1.out; have := HK3.out; omega
                      case rel => exact ⟨(x3_3), (wrap64 (x4_1 + 1)), (by first | rfl | (simp; done) | (simp [*]; done)), (by first | rfl | (simp; done) | (simp [*]; done)), H', ⟨by have := HK1.out; have := HJ1.out; have := HK3.out; omega⟩, by repeat (first | exact Drawn0.refl _ | apply Drawn0.step)⟩
                  · rw [if_neg c6] at H
                    exact absurd H (by simp)
                · rw [if_neg c5] at H
                  exact absurd H (by simp)
          · replace c4 := Bool.eq_false_iff.mpr c4
            subst c4
            have H1 : (if (l0.length : Int) > 8 then (some true) else (some (decide (x3_1 > 700)))) = some r := by rw [if_neg (show ¬ (false = true) by decide)] at H; exact H
            clear H
            have H := H1
            clear H1
            by_cases c10 : (l0.length : Int) > 8
            · rw [if_pos c10] at H
              have c10b0 : decide (8 < (l0.length : Int)) = true := decide_eq_true c10
              have c10b1 : decide (8 < l0.length) = true := decide_eq_true (by omega)
              clear c10
              obtain rfl := Option.some.inj H
              go_wp2
              repeat (go_quiet (fail); try go_wp2)
              go_ret
              exact ⟨by first | rfl | (simp; done) | (simp [*]; done), by repeat (first | exact Drawn0.refl _ | apply Drawn0.step)⟩
            · rw [if_neg c10] at H
              have c10b0 : decide (8 < (l0.length : Int)) = false := decide_eq_false c10
              have c10b1 : decide (8 < l0.length) = false := decide_eq_false (by omega)
              clear c10
              obtain rfl := Option.some.inj H
              go_wp2
              repeat (go_quiet (fail); try go_wp2)
              go_ret
              exact ⟨by first | rfl | (simp; done) | (simp [*]; done), by repeat (first | exact Drawn0.refl _ | apply Drawn0.step)⟩

/-! ### veneerref3_Used: function 20 -/
def veneerref3_Used.l0 : Nat → Int → Int → Int → Int → Int → List (S42) → Option (Int × Int)
  | 0, _, _, _, _, _, _ => none
  | k + 1, x4, x5, x107000, x107001, x107002, x107003 => if x5 < (x107003.length : Int) then (if 0 ≤ x5 then (veneerref3_Used.l0 k (wrap64 (x4 + (((rd_T42 x107003 x5).f4.f1).length : Int))) (wrap64 (x5 + 1)) x107000 x107001 x107002 x107003) else (none)) else (some (x4, (x107003.length : Int)))
def veneerref3_Used.f (k : Nat) (a0_0 : Int) (a0_1 : Int) (a0_2 : Int) (l0_3 : List (S42)) : Option (Int × Int) := veneerref3_Used.l0 k 0 0 a0_0 a0_1 a0_2 l0_3
set_option maxHeartbeats 8000000 in
set_option maxRecDepth 100000 in
theorem veneerref3_Used.calls (k : Nat) (a0_0 : Int) (a0_1 : Int) (a0_2 : Int) (A0_3 : Option Addr) (c0_3 : Nat) (l0_3 : List (S42)) (r1 : Int) (r2 : Int) (w : World) (hr0_3 : Kd.C k42 w A0_3 l0_3.length l0_3) (hc0_3 : l0_3.length ≤ c0_3) (h : veneerref3_Used.f k a0_0 a0_1 a0_2 l0_3 = some (r1, r2)) :
    Calls Tryd.prog 20 #[.agg #[.int .i64 a0_0, .int .i64 a0_1, .int .i64 a0_2, .slice A0_3 l0_3.length c0_3]] w fun e w' => e = .returned (.tuple #[.int .i64 r1, .int .i64 r2]) ∧ Below w.heap.size w w' := by
  have hu24 := Tryd.underlying24
  have HR0_3 := Aside0.mk hr0_3
  have HC0_3 := Aside0.mk hc0_3
  clear hr0_3 hc0_3
  have HB := Aside0.mk (Below.refl w.heap.size w)
  have H : (veneerref3_Used.l0 k 0 0 a0_0 a0_1 a0_2 l0_3) = some (r1, r2) := h
  clear h
  have H' := Aside0.mk H
  clear H
  go_enter Tryd.func20, Tryd.ntmps20
  go_wp2_with (first | ((with_reducible refine gate_dst (N := 1) rfl ?_); refine box_event ?hg (N := 1) ?hd (cs := #[.int .i64 a0_0, .int .i64 a0_1, .int .i64 a0_2, .slice A0_3 l0_3.length c0_3]) (t := 24) ?hr ?_; (case hd => rfl); (case hg => rfl); (case hr => first | (go_simp; done) | (go_simp; rfl)); intro gb106 hg w2 hbox hb; have n0_ := Aside0.mk (below_step (by repeat (first | (with_reducible first | exact HB.out | apply below_alloc | apply pw_below_drewN | apply below_drew1) | exact HB.out)) hb); have n1_ := Aside0.mk (hbox); have n2_ := Aside0.mk ((by rw [hg]; exact (below_size (by repeat (first | (with_reducible first | exact HB.out | apply below_alloc | apply pw_below_drewN | apply below_drew1) | exact HB.out))) : w.heap.size ≤ gb106)); have n3_ := Aside0.mk ((by rw [hg]; exact (below_size (by repeat (first | (with_reducible first | exact HB.out | apply below_alloc | apply pw_below_drewN | apply below_drew1) | exact HB.out))) : w.heap.size ≤ gb106)); clear HB; have HB := n0_; have BK106 := n1_; have GW106 := n2_; have GE106 := n3_; clear n0_ n1_ n2_ n3_; clear hb hbox hg))
  repeat (go_quiet (first | ((with_reducible refine gate_dst (N := 1) rfl ?_); refine box_event ?hg (N := 1) ?hd (cs := #[.int .i64 a0_0, .int .i64 a0_1, .int .i64 a0_2, .slice A0_3 l0_3.length c0_3]) (t := 24) ?hr ?_; (case hd => rfl); (case hg => rfl); (case hr => first | (go_simp; done) | (go_simp; rfl)); intro gb106 hg w2 hbox hb; have n0_ := Aside0.mk (below_step (by repeat (first | (with_reducible first | exact HB.out | apply below_alloc | apply pw_below_drewN | apply below_drew1) | exact HB.out)) hb); have n1_ := Aside0.mk (hbox); have n2_ := Aside0.mk ((by rw [hg]; exact (below_size (by repeat (first | (with_reducible first | exact HB.out | apply below_alloc | apply pw_below_drewN | apply below_drew1) | exact HB.out))) : w.heap.size ≤ gb106)); have n3_ := Aside0.mk ((by rw [hg]; exact (below_size (by repeat (first | (with_reducible first | exact HB.out | apply below_alloc | apply pw_below_drewN | apply below_drew1) | exact HB.out))) : w.heap.size ≤ gb106)); clear HB; have HB := n0_; have BK106 := n1_; have GW106 := n2_; have GE106 := n3_; clear n0_ n1_ n2_ n3_; clear hb hbox hg)); try go_wp2_with (first | ((with_reducible refine gate_dst (N := 1) rfl ?_); refine box_event ?hg (N := 1) ?hd (cs := #[.int .i64 a0_0, .int .i64 a0_1, .int .i64 a0_2, .slice A0_3 l0_3.length c0_3]) (t := 24) ?hr ?_; (case hd => rfl); (case hg => rfl); (case hr => first | (go_simp; done) | (go_simp; rfl)); intro gb106 hg w2 hbox hb; have n0_ := Aside0.mk (below_step (by repeat (first | (with_reducible first | exact HB.out | apply below_alloc | apply pw_below_drewN | apply below_drew1) | exact HB.out)) hb); have n1_ := Aside0.mk (hbox); have n2_ := Aside0.mk ((by rw [hg]; exact (below_size (by repeat (first | (with_reducible first | exact HB.out | apply below_alloc | apply pw_below_drewN | apply below_drew1) | exact HB.out))) : w.heap.size ≤ gb106)); have n3_ := Aside0.mk ((by rw [hg]; exact (below_size (by repeat (first | (with_reducible first | exact HB.out | apply below_alloc | apply pw_below_drewN | apply below_drew1) | exact HB.out))) : w.heap.size ≤ gb106)); clear HB; have HB := n0_; have BK106 := n1_; have GW106 := n2_; have GE106 := n3_; clear n0_ n1_ n2_ n3_; clear hb hbox hg)))
  go_loopg [4, 5] k (fun kq v4 v5 w' => ∃ (x4_1 : Int) (x5_1 : Int), v4 = .int .i64 x4_1 ∧ v5 = .int .i64 x5_1 ∧ Aside0 (veneerref3_Used.l0 kq x4_1 x5_1 a0_0 a0_1 a0_2 l0_3 = some (r1, r2)) ∧ Aside0 (kq ≤ k) ∧ Aside0 (w'.heap[gb106]? = some (.cells #[.int .i64 a0_0, .int .i64 a0_1, .int .i64 a0_2, (.slice A0_3 l0_3.length c0_3)] 24 (0, 0))) ∧ Aside0 (Below w.heap.size w w'))
  case atStart => exact ⟨(0), (0), (by first | rfl | (simp; done) | (simp [*]; done)), (by first | rfl | (simp; done) | (simp [*]; done)), H', ⟨Nat.le_refl _⟩, ⟨by (with_reducible repeat (first | refine blk_drewN ?_ _ | refine blk_drew ?_ | refine blk_alloc ?_ _)); exact BK106.out⟩, ⟨by repeat (first | (with_reducible first | exact HB.out | apply below_alloc | apply pw_below_drewN | apply below_drew1 | refine below_set ?_ GE106.out) | exact HB.out)⟩⟩
  case round =>
    clear H'
    try clear c2
    try clear p2
    obtain ⟨x4_1, x5_1, rfl, rfl, HA, HK1, BK106, HB⟩ := hrel
    cases gk with
    | zero => exact absurd HA.out (by simp [veneerref3_Used.l0])
    | succ k1 =>
      have H := HA.out
      clear HA
      simp only [veneerref3_Used.l0] at H
      by_cases c3 : x5_1 < (l0_3.length : Int)
      · rw [if_pos c3] at H
        have c3b0 : decide (x5_1 < (l0_3.length : Int)) = true := decide_eq_true c3
        clear c3
        by_cases c4 : 0 ≤ x5_1
        · rw [if_pos c4] at H
          have c4b0 : decide (0 ≤ x5_1) = true := decide_eq_true c4
          clear c4
          have H' := Aside0.mk H
          clear H
          have hcz5_0 : wr.cell? ⟨gb106, 0, none⟩ = some (.int .i64 a0_0) := (blk_cell BK106.out 0).trans rfl
          have hcz5_1 : wr.cell? ⟨gb106, 1, none⟩ = some (.int .i64 a0_1) := (blk_cell BK106.out 1).trans rfl
          have hcz5_2 : wr.cell? ⟨gb106, 2, none⟩ = some (.int .i64 a0_2) := (blk_cell BK106.out 2).trans rfl
          have hcz5_3 : wr.cell? ⟨gb106, 3, none⟩ = some (.slice A0_3 l0_3.length c0_3) := (blk_cell BK106.out 3).trans rfl
          have hfz5_0 := blk_frozen BK106.out 0
          have hfz5_1 := blk_frozen BK106.out 1
          have hfz5_2 := blk_frozen BK106.out 2
          have hfz5_3 := blk_frozen BK106.out 3
          have p107 : 0 ≤ (x5_1 : Int) := of_decide_eq_true (by first | (with_reducible assumption) | assumption)
          have q107 : x5_1 < (l0_3.length : Int) := of_decide_eq_true (by first | (with_reducible assumption) | assumption)
          obtain ⟨ad107, A107_5, c107_5, A107_7, c107_7, e107, hx107_0, hx107_1, hx107_2, hx107_3, hx107_4, hx107_5, hx107_6, hx107_7, hl107_5, hi107_5, hl107_7, hi107_7⟩ := at_T42 HR0_3.out x5_1 p107 q107
          cases e107
          replace hx107_0 := (HB.out.cell (World.block_lt_of_cell? w _ hx107_0)).trans hx107_0
          replace hx107_1 := (HB.out.cell (World.block_lt_of_cell? w _ hx107_1)).trans hx107_1
          replace hx107_2 := (HB.out.cell (World.block_lt_of_cell? w _ hx107_2)).trans hx107_2
          replace hx107_3 := (HB.out.cell (World.block_lt_of_cell? w _ hx107_3)).trans hx107_3
          replace hx107_4 := (HB.out.cell (World.block_lt_of_cell? w _ hx107_4)).trans hx107_4
          replace hx107_5 := (HB.out.cell (World.block_lt_of_cell? w _ hx107_5)).trans hx107_5
          replace hx107_6 := (HB.out.cell (World.block_lt_of_cell? w _ hx107_6)).trans hx107_6
          replace hx107_7 := (HB.out.cell (World.block_lt_of_cell? w _ hx107_7)).trans hx107_7
          have HR107_5 := Aside0.mk hi107_5
          have HC107_5 := Aside0.mk hl107_5
          clear hi107_5 hl107_5
          have HR107_7 := Aside0.mk hi107_7
          have HC107_7 := Aside0.mk hl107_7
          clear hi107_7 hl107_7
          replace p107 := eq_true p107
          replace q107 := eq_true q107
          go_wp2
          repeat (go_quiet (fail); try go_wp2)
          go_roundg k1
          case measure => have := HK1.out; omega
          case rel => exact ⟨(wrap64 (x4_1 + (((rd_T42 l0_3 x5_1).f4.f1).length : Int))), (wrap64 (x5_1 + 1)), (by first | rfl | (simp; done) | (simp [*]; done)), (by first | rfl | (simp; done) | (simp [*]; done)), H', ⟨by have := HK1.out; omega⟩, ⟨by (with_reducible repeat (first | refine blk_drewN ?_ _ | refine blk_drew ?_ | refine blk_alloc ?_ _)); exact BK106.out⟩, ⟨by repeat (first | (with_reducible first | exact HB.out | apply below_alloc | apply pw_below_drewN | apply below_drew1 | refine below_set ?_ GE106.out) | exact HB.out)⟩⟩
        · rw [if_neg c4] at H
          exact absurd H (by simp)
      · rw [if_neg c3] at H
        have c3b0 : decide (x5_1 < (l0_3.length : Int)) = false := decide_eq_false c3
        clear c3
        simp only [Option.some.injEq, Prod.mk.injEq] at H
        obtain ⟨rfl, rfl⟩ := H
        have hcz6_0 : wr.cell? ⟨gb106, 0, none⟩ = some (.int .i64 a0_0) := (blk_cell BK106.out 0).trans rfl
        have hcz6_1 : wr.cell? ⟨gb106, 1, none⟩ = some (.int .i64 a0_1) := (blk_cell BK106.out 1).trans rfl
        have hcz6_2 : wr.cell? ⟨gb106, 2, none⟩ = some (.int .i64 a0_2) := (blk_cell BK106.out 2).trans rfl
        have hcz6_3 : wr.cell? ⟨gb106, 3, none⟩ = some (.slice A0_3 l0_3.length c0_3) := (blk_cell BK106.out 3).trans rfl
        have hfz6_0 := blk_frozen BK106.out 0
        have hfz6_1 := blk_frozen BK106.out 1
        have hfz6_2 := blk_frozen BK106.out 2
        have hfz6_3 := blk_frozen BK106.out 3
        go_wp2
        repeat (go_quiet (fail); try go_wp2)
        go_ret2
        exact ⟨by first | rfl | (simp [errW_none, errW_some] <;> rfl) | (simp [*, errW_none, errW_some] <;> rfl), by repeat (first | (with_reducible first | exact HB.out | apply below_alloc | apply pw_below_drewN | apply below_drew1 | refine below_set ?_ GE106.out) | exact HB.out)⟩

/-! ### veneerref1_Named: function 16 -/
def veneerref1_Named.l0 : Nat → ByteArray → Int → Option (Bool)
  | 0, _, _ => none
  | k + 1, x0, x3 => if x3 < (x0.size : Int) then (if 0 ≤ x3 then (if (bt x0 x3) = 47 then (some false) else (if (bt x0 x3) = 0 then (some false) else (veneerref1_Named.l0 k x0 (wrap64 (x3 + 1))))) else (none)) else (if (x0.size : Int) ≥ 1 then (if (x0.size : Int) ≤ 24 then (if x0.toList = ([46] : List UInt8) then (some false) else (some (x0.toList != ([46, 46] : List UInt8)))) else (some false)) else (some false))
def veneerref1_Named.f (k : Nat) (a0 : ByteArray) : Option (Bool) := veneerref1_Named.l0 k a0 0
set_option maxHeartbeats 8000000 in
set_option maxRecDepth 100000 in
theorem veneerref1_Named.calls (k : Nat) (a0 : ByteArray) (r : Bool) (w : World) (h : veneerref1_Named.f k a0 = some r) :
    Calls Tryd.prog 16 #[.string a0] w fun e w' => e = .returned (.bool r) ∧ Drawn0 w w' := by
  have H : (veneerref1_Named.l0 k a0 0) = some r := h
  clear h
  have H' := Aside0.mk H
  clear H
  go_enter Tryd.func16, Tryd.ntmps16
  go_wp2
  go_loopg [3] k (fun kq v3 w' => ∃ (x3_1 : Int), v3 = .int .i64 x3_1 ∧ Aside0 (veneerref1_Named.l0 kq a0 x3_1 = some r) ∧ Aside0 (kq ≤ k) ∧ Drawn0 w w')
  case atStart => exact ⟨(0), (by first | rfl | (simp; done) | (simp [*]; done)), H', ⟨Nat.le_refl _⟩, by repeat (first | exact Drawn0.refl _ | apply Drawn0.step)⟩
  case round =>
    clear H'
    try clear c1
    obtain ⟨x3_1, rfl, HA, HK1, ⟨m1, rfl⟩⟩ := hrel
    cases gk with
    | zero => exact absurd HA.out (by simp [veneerref1_Named.l0])
    | succ k1 =>
      have H := HA.out
      clear HA
      simp only [veneerref1_Named.l0] at H
      by_cases c2 : x3_1 < (a0.size : Int)
      · rw [if_pos c2] at H
        have c2b0 : decide (x3_1 < (a0.size : Int)) = true := decide_eq_true c2
        clear c2
        by_cases c3 : 0 ≤ x3_1
        · rw [if_pos c3] at H
          have c3b0 : decide (0 ≤ x3_1) = true := decide_eq_true c3
          clear c3
          by_cases c5 : (bt a0 x3_1) = 47
          · rw [if_pos c5] at H
            have c5b0 : ((bt a0 x3_1) == 47) = true := beq_iff_eq.mpr c5
            have c5b1 : ((bt a0 x3_1) != 47) = false := bne_eq_false_iff_eq.mpr c5
            clear c5
            obtain rfl := Option.some.inj H
            have p4 : 0 ≤ (x3_1 : Int) := of_decide_eq_true (by first | (with_reducible assumption) | assumption)
            have q4 : x3_1 < (a0.size : Int) := of_decide_eq_true (by first | (with_reducible assumption) | assumption)
            have hx4 := bt_at a0 x3_1
            replace p4 := eq_true p4
            replace q4 := eq_true q4
            go_wp2
            go_ret
            exact ⟨by first | rfl | (simp; done) | (simp [*]; done), by repeat (first | exact Drawn0.refl _ | apply Drawn0.step)⟩
          · rw [if_neg c5] at H
            have c5b0 : ((bt a0 x3_1) == 47) = false := beq_eq_false_iff_ne.mpr c5
            have c5b1 : ((bt a0 x3_1) != 47) = true := bne_iff_ne.mpr c5
            by_cases c7 : (bt a0 x3_1) = 0
            · rw [if_pos c7] at H
              have c7b0 : ((bt a0 x3_1) == 0) = true := beq_iff_eq.mpr c7
              have c7b1 : ((bt a0 x3_1) != 0) = false := bne_eq_false_iff_eq.mpr c7
              clear c7
              obtain rfl := Option.some.inj H
              have p4 : 0 ≤ (x3_1 : Int) := of_decide_eq_true (by first | (with_reducible assumption) | assumption)
              have q4 : x3_1 < (a0.size : Int) := of_decide_eq_true (by first | (with_reducible assumption) | assumption)
              have hx4 := bt_at a0 x3_1
              replace p4 := eq_true p4
              replace q4 := eq_true q4
              have p6 : 0 ≤ (x3_1 : Int) := of_decide_eq_true (by first | (with_reducible assumption) | assumption)
              have q6 : x3_1 < (a0.size : Int) := of_decide_eq_true (by first | (with_reducible assumption) | assumption)
              have hx6 := bt_at a0 x3_1
              replace p6 := eq_true p6
              replace q6 := eq_true q6
              go_wp2
              go_ret
              exact ⟨by first | rfl | (simp; done) | (simp [*]; done), by repeat (first | exact Drawn0.refl _ | apply Drawn0.step)⟩
            · rw [if_neg c7] at H
              have c7b0 : ((bt a0 x3_1) == 0) = false := beq_eq_false_iff_ne.mpr c7
              have c7b1 : ((bt a0 x3_1) != 0) = true := bne_iff_ne.mpr c7
              have H' := Aside0.mk H
              clear H
              have p4 : 0 ≤ (x3_1 : Int) := of_decide_eq_true (by first | (with_reducible assumption) | assumption)
              have q4 : x3_1 < (a0.size : Int) := of_decide_eq_true (by first | (with_reducible assumption) | assumption)
              have hx4 := bt_at a0 x3_1
              replace p4 := eq_true p4
              replace q4 := eq_true q4
              have p6 : 0 ≤ (x3_1 : Int) := of_decide_eq_true (by first | (with_reducible assumption) | assumption)
              have q6 : x3_1 < (a0.size : Int) := of_decide_eq_true (by first | (with_reducible assumption) | assumption)
              have hx6 := bt_at a0 x3_1
              replace p6 := eq_true p6
              replace q6 := eq_true q6
              go_wp2
              go_roundg k1
              case measure => have := HK1.out; omega
              case rel => exact ⟨(wrap64 (x3_1 + 1)), (by first | rfl | (simp; done) | (simp [*]; done)), H', ⟨by have := HK1.out; omega⟩, by repeat (first | exact Drawn0.refl _ | apply Drawn0.step)⟩
        · rw [if_neg c3] at H
          exact absurd H (by simp)
      · rw [if_neg c2] at H
        have c2b0 : decide (x3_1 < (a0.size : Int)) = false := decide_eq_false c2
        clear c2
        by_cases c8 : (a0.size : Int) ≥ 1
        · rw [if_pos c8] at H
          have c8b0 : decide (1 ≤ (a0.size : Int)) = true := decide_eq_true c8
          have c8b1 : decide (1 ≤ a0.size) = true := decide_eq_true (by omega)
          clear c8
          by_cases c9 : (a0.size : Int) ≤ 24
          · rw [if_pos c9] at H
            have c9b0 : decide ((a0.size : Int) ≤ 24) = true := decide_eq_true c9
            have c9b1 : decide (a0.size ≤ 24) = true := decide_eq_true (by omega)
            clear c9
            by_cases c10 : a0.toList = ([46] : List UInt8)
            · rw [if_pos c10] at H
              have c10b0 : (a0.toList == ([46] : List UInt8)) = true := beq_iff_eq.mpr c10
              have c10b1 : (a0.toList != ([46] : List UInt8)) = false := bne_eq_false_iff_eq.mpr c10
              clear c10
              obtain rfl := Option.some.inj H
              go_wp2
              go_ret
              exact ⟨by first | rfl | (simp; done) | (simp [*]; done), by repeat (first | exact Drawn0.refl _ | apply Drawn0.step)⟩
            · rw [if_neg c10] at H
              have c10b0 : (a0.toList == ([46] : List UInt8)) = false := beq_eq_false_iff_ne.mpr c10
              have c10b1 : (a0.toList != ([46] : List UInt8)) = true := bne_iff_ne.mpr c10
              obtain rfl := Option.some.inj H
              go_wp2
              go_ret
              exact ⟨by first | rfl | (simp; done) | (simp [*]; done), by repeat (first | exact Drawn0.refl _ | apply Drawn0.step)⟩
          · rw [if_neg c9] at H
            have c9b0 : decide ((a0.size : Int) ≤ 24) = false := decide_eq_false c9
            have c9b1 : decide (a0.size ≤ 24) = false := decide_eq_false (by omega)
            clear c9
            obtain rfl := Option.some.inj H
            go_wp2
            go_ret
            exact ⟨by first | rfl | (simp; done) | (simp [*]; done), by repeat (first | exact Drawn0.refl _ | apply Drawn0.step)⟩
        · rw [if_neg c8] at H
          have c8b0 : decide (1 ≤ (a0.size : Int)) = false := decide_eq_false c8
          have c8b1 : decide (1 ≤ a0.size) = false := decide_eq_false (by omega)
          clear c8
          obtain rfl := Option.some.inj H
          go_wp2
          go_ret
          exact ⟨by first | rfl | (simp; done) | (simp [*]; done), by repeat (first | exact Drawn0.refl _ | apply Drawn0.step)⟩
mutual
def veneerref2_Is.j0 : Nat → Bool → Int → List (S69) → Option (Bool)
  | 0, _, _, _ => none
  | k + 1, x13, x109000, x109001 => if x13 = true then (some false) else (veneerref2_Is.l0 k 0 x109000 x109001)
def veneerref2_Is.l0 : Nat → Int → Int → List (S69) → Option (Bool)
  | 0, _, _, _ => none
  | k + 1, x3, x109000, x109001 => if x3 < (x109001.length : Int) then (if 0 ≤ x3 then (if ((rd_T69 x109001 x3).f0) < 0 then (veneerref2_Is.j2 k x3 true x109000 x109001 ((rd_T69 x109001 x3).f0) ((rd_T69 x109001 x3).f1)) else (if ((rd_T69 x109001 x3).f0) ≥ 32768 then (veneerref2_Is.j2 k x3 true x109000 x109001 ((rd_T69 x109001 x3).f0) ((rd_T69 x109001 x3).f1)) else (if (wrap64 (((rd_T69 x109001 x3).f0) * 16)) ≥ x109000 then (veneerref2_Is.j2 k x3 true x109000 x109001 ((rd_T69 x109001 x3).f0) ((rd_T69 x109001 x3).f1)) else (if (((rd_T69 x109001 x3).f1).length : Int) = 16 then (if x3 > 0 then (if 0 ≤ (wrap64 (x3 - 1)) then (if (wrap64 (x3 - 1)) < (x109001.length : Int) then (veneerref2_Is.j2 k x3 (decide (((rd_T69 x109001 x3).f0) ≤ ((rd_T69 x109001 (wrap64 (x3 - 1))).f0))) x109000 x109001 ((rd_T69 x109001 x3).f0) ((rd_T69 x109001 x3).f1)) else (none)) else (none)) else (veneerref2_Is.j2 k x3 false x109000 x109001 ((rd_T69 x109001 x3).f0) ((rd_T69 x109001 x3).f1))) else (veneerref2_Is.j2 k x3 true x109000 x109001 ((rd_T69 x109001 x3).f0) ((rd_T69 x109001 x3).f1)))))) else (none)) else (some true)
def veneerref2_Is.j2 : Nat → Int → Bool → Int → List (S69) → Int → List Int → Option (Bool)
  | 0, _, _, _, _, _, _ => none
  | k + 1, x3, x63, x109000, x109001, x111000, x111001 => if x63 = true then (some false) else (veneerref2_Is.l1 k x3 0 x109000 x109001 x111000 x111001)
def veneerref2_Is.l1 : Nat → Int → Int → Int → List (S69) → Int → List Int → Option (Bool)
  | 0, _, _, _, _, _, _ => none
  | k + 1, x3, x5, x109000, x109001, x111000, x111001 => if x5 < 16 then (if (wrap64 ((wrap64 (x111000 * 16)) + x5)) ≥ x109000 then (if 0 ≤ x5 then (if x5 < (x111001.length : Int) then (if (rd x111001 x5) = 0 then (veneerref2_Is.l1 k x3 (wrap64 (x5 + 1)) x109000 x109001 x111000 x111001) else (some false)) else (none)) else (none)) else (veneerref2_Is.l1 k x3 (wrap64 (x5 + 1)) x109000 x109001 x111000 x111001)) else (veneerref2_Is.l0 k (wrap64 (x3 + 1)) x109000 x109001)
end
def veneerref2_Is.f (k : Nat) (a0_0 : Int) (l0_1 : List (S69)) : Option (Bool) := if a0_0 < 0 then (veneerref2_Is.j0 k true a0_0 l0_1) else (veneerref2_Is.j0 k (decide (a0_0 > 32768)) a0_0 l0_1)
set_option maxHeartbeats 8000000 in
set_option maxRecDepth 100000 in
theorem veneerref2_Is.calls (k : Nat) (a0_0 : Int) (A0_1 : Option Addr) (c0_1 : Nat) (l0_1 : List (S69)) (r : Bool) (w : World) (hr0_1 : Kd.C k69 w A0_1 l0_1.length l0_1) (hc0_1 : l0_1.length ≤ c0_1) (h : veneerref2_Is.f k a0_0 l0_1 = some r) :
    Calls Tryd.prog 30 #[.agg #[.int .i64 a0_0, .slice A0_1 l0_1.length c0_1]] w fun e w' => e = .returned (.bool r) ∧ Below w.heap.size w w' := by
  have hu39 := Tryd.underlying39
  have hu69 := Tryd.underlying69
  have HR0_1 := Aside0.mk hr0_1
  have HC0_1 := Aside0.mk hc0_1
  clear hr0_1 hc0_1
  have HB := Aside0.mk (Below.refl w.heap.size w)
  have H : (if a0_0 < 0 then (veneerref2_Is.j0 k true a0_0 l0_1) else (veneerref2_Is.j0 k (decide (a0_0 > 32768)) a0_0 l0_1)) = some r := h
  clear h
  have HC2 := Aside0.mk H
  clear H
  go_enter Tryd.func30, Tryd.ntmps30
  go_upto_region 1 with (first | ((with_reducible refine gate_dst (N := 1) rfl ?_); (try (refine gate_guard (by rfl) ?_; dsimp only)); refine box_event ?hg (N := 1) ?hd (cs := #[.int .i64 a0_0, .slice A0_1 l0_1.length c0_1]) (t := 39) ?hr ?_; (case hd => rfl); (case hg => rfl); (case hr => first | (go_simp; done) | (go_simp; rfl)); intro gb108 hg w3 hbox hb; have n0_ := Aside0.mk (below_step (by repeat (first | (with_reducible first | exact HB.out | apply below_alloc | apply pw_below_drewN | apply below_drew1) | exact HB.out)) hb); have n1_ := Aside0.mk (hbox); have n2_ := Aside0.mk ((by rw [hg]; exact (below_size (by repeat (first | (with_reducible first | exact HB.out | apply below_alloc | apply pw_below_drewN | apply below_drew1) | exact HB.out))) : w.heap.size ≤ gb108)); have n3_ := Aside0.mk ((by rw [hg]; exact (below_size (by repeat (first | (with_reducible first | exact HB.out | apply below_alloc | apply pw_below_drewN | apply below_drew1) | exact HB.out))) : w.heap.size ≤ gb108)); clear HB; have HB := n0_; have BK108 := n1_; have GW108 := n2_; have GE108 := n3_; clear n0_ n1_ n2_ n3_; clear hb hbox hg))
  repeat (go_quiet (first | ((with_reducible refine gate_dst (N := 1) rfl ?_); (try (refine gate_guard (by rfl) ?_; dsimp only)); refine box_event ?hg (N := 1) ?hd (cs := #[.int .i64 a0_0, .slice A0_1 l0_1.length c0_1]) (t := 39) ?hr ?_; (case hd => rfl); (case hg => rfl); (case hr => first | (go_simp; done) | (go_simp; rfl)); intro gb108 hg w3 hbox hb; have n0_ := Aside0.mk (below_step (by repeat (first | (with_reducible first | exact HB.out | apply below_alloc | apply pw_below_drewN | apply below_drew1) | exact HB.out)) hb); have n1_ := Aside0.mk (hbox); have n2_ := Aside0.mk ((by rw [hg]; exact (below_size (by repeat (first | (with_reducible first | exact HB.out | apply below_alloc | apply pw_below_drewN | apply below_drew1) | exact HB.out))) : w.heap.size ≤ gb108)); have n3_ := Aside0.mk ((by rw [hg]; exact (below_size (by repeat (first | (with_reducible first | exact HB.out | apply below_alloc | apply pw_below_drewN | apply below_drew1) | exact HB.out))) : w.heap.size ≤ gb108)); clear HB; have HB := n0_; have BK108 := n1_; have GW108 := n2_; have GE108 := n3_; clear n0_ n1_ n2_ n3_; clear hb hbox hg)); go_upto_region 1 with (first | ((with_reducible refine gate_dst (N := 1) rfl ?_); (try (refine gate_guard (by rfl) ?_; dsimp only)); refine box_event ?hg (N := 1) ?hd (cs := #[.int .i64 a0_0, .slice A0_1 l0_1.length c0_1]) (t := 39) ?hr ?_; (case hd => rfl); (case hg => rfl); (case hr => first | (go_simp; done) | (go_simp; rfl)); intro gb108 hg w3 hbox hb; have n0_ := Aside0.mk (below_step (by repeat (first | (with_reducible first | exact HB.out | apply below_alloc | apply pw_below_drewN | apply below_drew1) | exact HB.out)) hb); have n1_ := Aside0.mk (hbox); have n2_ := Aside0.mk ((by rw [hg]; exact (below_size (by repeat (first | (with_reducible first | exact HB.out | apply below_alloc | apply pw_below_drewN | apply below_drew1) | exact HB.out))) : w.heap.size ≤ gb108)); have n3_ := Aside0.mk ((by rw [hg]; exact (below_size (by repeat (first | (with_reducible first | exact HB.out | apply below_alloc | apply pw_below_drewN | apply below_drew1) | exact HB.out))) : w.heap.size ≤ gb108)); clear HB; have HB := n0_; have BK108 := n1_; have GW108 := n2_; have GE108 := n3_; clear n0_ n1_ n2_ n3_; clear hb hbox hg)))
  (try simp only [Act.put, List.setIfInBounds_toArray, List.set_cons_zero, List.set_cons_succ])
  go_cut [13] (fun v13 wc => ∃ (kq : Nat) (x13_1 : Bool), v13 = .bool x13_1 ∧ Aside0 (veneerref2_Is.j0 kq x13_1 a0_0 l0_1 = some r) ∧ Aside0 (kq ≤ k) ∧ Aside0 (wc.heap[gb108]? = some (.cells #[.int .i64 a0_0, (.slice A0_1 l0_1.length c0_1)] 39 (0, 0))) ∧ Aside0 (Below w.heap.size w wc))
  case first =>
    have H := HC2.out
    clear HC2
    by_cases c4 : a0_0 < 0
    · rw [if_pos c4] at H
      have c4b0 : decide (a0_0 < 0) = true := decide_eq_true c4
      clear c4
      (first | rw [c4b0] | (simp only [i64_w, i32_w]; rw [c4b0]) | skip)
      have H' := Aside0.mk H
      clear H
      have hcz5_0 : w3.cell? ⟨gb108, 0, none⟩ = some (.int .i64 a0_0) := (blk_cell BK108.out 0).trans rfl
      have hcz5_1 : w3.cell? ⟨gb108, 1, none⟩ = some (.slice A0_1 l0_1.length c0_1) := (blk_cell BK108.out 1).trans rfl
      have hfz5_0 := blk_frozen BK108.out 0
      have hfz5_1 := blk_frozen BK108.out 1
      go_wp2
      repeat (go_quiet (fail); try go_wp2)
      go_meet
      case rel => exact ⟨_, (true), (by first | rfl | (simp; done) | (simp [*]; done)), H', ⟨by first | omega | exact Nat.le_refl _⟩, ⟨by (with_reducible repeat (first | refine blk_drewN ?_ _ | refine blk_drew ?_ | refine blk_alloc ?_ _)); exact BK108.out⟩, ⟨by repeat (first | (with_reducible first | exact HB.out | apply below_alloc | apply pw_below_drewN | apply below_drew1 | refine below_set ?_ GE108.out) | exact HB.out)⟩⟩
    · rw [if_neg c4] at H
      have c4b0 : decide (a0_0 < 0) = false := decide_eq_false c4
      clear c4
      (first | rw [c4b0] | (simp only [i64_w, i32_w]; rw [c4b0]) | skip)
      have H' := Aside0.mk H
      clear H
      have hcz6_0 : w3.cell? ⟨gb108, 0, none⟩ = some (.int .i64 a0_0) := (blk_cell BK108.out 0).trans rfl
      have hcz6_1 : w3.cell? ⟨gb108, 1, none⟩ = some (.slice A0_1 l0_1.length c0_1) := (blk_cell BK108.out 1).trans rfl
      have hfz6_0 := blk_frozen BK108.out 0
      have hfz6_1 := blk_frozen BK108.out 1
      go_wp2
      repeat (go_quiet (fail); try go_wp2)
      go_meet
      case rel => exact ⟨_, (decide (a0_0 > 32768)), (by first | rfl | (simp; done) | (simp [*]; done)), H', ⟨by first | omega | exact Nat.le_refl _⟩, ⟨by (with_reducible repeat (first | refine blk_drewN ?_ _ | refine blk_drew ?_ | refine blk_alloc ?_ _)); exact BK108.out⟩, ⟨by repeat (first | (with_reducible first | exact HB.out | apply below_alloc | apply pw_below_drewN | apply below_drew1 | refine below_set ?_ GE108.out) | exact HB.out)⟩⟩
  case rest =>
    clear HC2
    try clear p2
    try clear c3
    try clear c4
    try clear c4b0
    try clear hcz5_0
    try clear hcz5_1
    try clear hcz6_0
    try clear hcz6_1
    try clear hfz5_0
    try clear hfz5_1
    try clear hfz6_0
    try clear hfz6_1
    obtain ⟨kq, x13_1, rfl, HA, HJ1, BK108, HB⟩ := hcut
    cases kq with
    | zero => exact absurd HA.out (by simp [veneerref2_Is.j0])
    | succ kj1 =>
      have H := HA.out
      clear HA
      simp only [veneerref2_Is.j0] at H
      by_cases c7 : x13_1 = true
      · subst c7
        have H1 : (some false) = some r := by rw [if_pos rfl] at H; exact H
        clear H
        have H := H1
        clear H1
        obtain rfl := Option.some.inj H
        go_wp2
        repeat (go_quiet (fail); try go_wp2)
        go_ret
        exact ⟨by first | rfl | (simp [errW_none, errW_some] <;> rfl) | (simp [*, errW_none, errW_some] <;> rfl), by repeat (first | (with_reducible first | exact HB.out | apply below_alloc | apply pw_below_drewN | apply below_drew1 | refine below_set ?_ GE108.out) | exact HB.out)⟩
      · replace c7 := Bool.eq_false_iff.mpr c7
        subst c7
        have H1 : (veneerref2_Is.l0 kj1 0 a0_0 l0_1) = some r := by rw [if_neg (show ¬ (false = true) by decide)] at H; exact H
        clear H
        have H := H1
        clear H1
        have H' := Aside0.mk H
        clear H
        go_wp2
        repeat (go_quiet (fail); try go_wp2)
        go_loopg [3] kj1 (fun kq v3 w' => ∃ (x3_2 : Int), v3 = .int .i64 x3_2 ∧ Aside0 (veneerref2_Is.l0 kq x3_2 a0_0 l0_1 = some r) ∧ Aside0 (kq ≤ kj1) ∧ Aside0 (w'.heap[gb108]? = some (.cells #[.int .i64 a0_0, (.slice A0_1 l0_1.length c0_1)] 39 (0, 0))) ∧ Aside0 (Below w.heap.size w w'))
        case atStart => exact ⟨(0), (by first | rfl | (simp; done) | (simp [*]; done)), H', ⟨Nat.le_refl _⟩, ⟨by (with_reducible repeat (first | refine blk_drewN ?_ _ | refine blk_drew ?_ | refine blk_alloc ?_ _)); exact BK108.out⟩, ⟨by repeat (first | (with_reducible first | exact HB.out | apply below_alloc | apply pw_below_drewN | apply below_drew1 | refine below_set ?_ GE108.out) | exact HB.out)⟩⟩
        case round =>
          clear H'
          try clear p2
          try clear c3
          try clear c4
          try clear c4b0
          try clear c7
          try clear hcz5_0
          try clear hcz5_1
          try clear hcz6_0
          try clear hcz6_1
          try clear hfz5_0
          try clear hfz5_1
          try clear hfz6_0
          try clear hfz6_1
          try clear p2
          obtain ⟨x3_2, rfl, HA, HK2, BK108, HB⟩ := hrel
          cases gk with
          | zero => exact absurd HA.out (by simp [veneerref2_Is.l0])
          | succ k2 =>
            have H := HA.out
            clear HA
            simp only [veneerref2_Is.l0] at H
            by_cases c8 : x3_2 < (l0_1.length : Int)
            · rw [if_pos c8] at H
              have c8b0 : decide (x3_2 < (l0_1.length : Int)) = true := decide_eq_true c8
              clear c8
              by_cases c9 : 0 ≤ x3_2
              · rw [if_pos c9] at H
                have c9b0 : decide (0 ≤ x3_2) = true := decide_eq_true c9
                clear c9
                have HC10 := Aside0.mk H
                clear H
                have hcz11_0 : wr.cell? ⟨gb108, 0, none⟩ = some (.int .i64 a0_0) := (blk_cell BK108.out 0).trans rfl
                have hcz11_1 : wr.cell? ⟨gb108, 1, none⟩ = some (.slice A0_1 l0_1.length c0_1) := (blk_cell BK108.out 1).trans rfl
                have hfz11_0 := blk_frozen BK108.out 0
                have hfz11_1 := blk_frozen BK108.out 1
                have p109 : 0 ≤ (x3_2 : Int) := of_decide_eq_true (by first | (with_reducible assumption) | assumption)
                have q109 : x3_2 < (l0_1.length : Int) := of_decide_eq_true (by first | (with_reducible assumption) | assumption)
                obtain ⟨ad109, A109_1, c109_1, e109, hx109_0, hx109_1, hl109_1, hi109_1⟩ := at_T69 HR0_1.out x3_2 p109 q109
                cases e109
                replace hx109_0 := (HB.out.cell (World.block_lt_of_cell? w _ hx109_0)).trans hx109_0
                replace hx109_1 := (HB.out.cell (World.block_lt_of_cell? w _ hx109_1)).trans hx109_1
                have HR109_1 := Aside0.mk hi109_1
                have HC109_1 := Aside0.mk hl109_1
                clear hi109_1 hl109_1
                replace p109 := eq_true p109
                replace q109 := eq_true q109
                go_upto_region 7 with (first | ((with_reducible refine gate_dst (N := 4) rfl ?_); (try (refine gate_guard (by rfl) ?_; dsimp only)); refine box_event ?hg (N := 4) ?hd (cs := #[.int .i64 0, .slice none 0 0]) (t := 69) ?hr ?_; (case hd => rfl); (case hg => rfl); (case hr => first | (go_simp; done) | (go_simp; rfl)); intro gb110 hg w12 hbox hb; have n0_ := Aside0.mk (blk_below (g := gb108) (o := .cells #[.int .i64 a0_0, .slice (some ad109) l0_1.length c0_1] 39 (0, 0)) (by (with_reducible repeat (first | refine blk_drewN ?_ _ | refine blk_drew ?_ | refine blk_alloc ?_ _)); exact BK108.out) hb); have n1_ := Aside0.mk (below_step (by repeat (first | (with_reducible first | exact HB.out | apply below_alloc | apply pw_below_drewN | apply below_drew1 | refine below_set ?_ GE108.out) | exact HB.out)) hb); have n2_ := Aside0.mk (hbox); have n3_ := Aside0.mk ((by rw [hg]; exact (below_size (by repeat (first | (with_reducible first | exact HB.out | apply below_alloc | apply pw_below_drewN | apply below_drew1 | refine below_set ?_ GE108.out) | exact HB.out))) : w.heap.size ≤ gb110)); have n4_ := Aside0.mk ((by rw [hg]; exact (below_size (by repeat (first | (with_reducible first | exact HB.out | apply below_alloc | apply pw_below_drewN | apply below_drew1 | refine below_set ?_ GE108.out) | exact HB.out))) : w.heap.size ≤ gb110)); have n5_ := Aside0.mk ((by rw [hg]; exact Nat.ne_of_lt (blk_lt (g := gb108) (o := .cells #[.int .i64 a0_0, .slice (some ad109) l0_1.length c0_1] 39 (0, 0)) (by (with_reducible repeat (first | refine blk_drewN ?_ _ | refine blk_drew ?_ | refine blk_alloc ?_ _)); exact BK108.out)) : gb108 ≠ gb110)); have n6_ := Aside0.mk ((by rw [hg]; exact Nat.ne_of_gt (blk_lt (g := gb108) (o := .cells #[.int .i64 a0_0, .slice (some ad109) l0_1.length c0_1] 39 (0, 0)) (by (with_reducible repeat (first | refine blk_drewN ?_ _ | refine blk_drew ?_ | refine blk_alloc ?_ _)); exact BK108.out)) : gb110 ≠ gb108)); clear BK108; clear HB; have BK108 := n0_; have HB := n1_; have BK110 := n2_; have GW110 := n3_; have GE110 := n4_; have NB108_110 := n5_; have NB110_108 := n6_; clear n0_ n1_ n2_ n3_ n4_ n5_ n6_; clear hb hbox hg; have hnb13 := NB110_108.out; have hnc13 := NB108_110.out; have hcz14_0 : w12.cell? ⟨gb110, 0, none⟩ = some (.int .i64 0) := (blk_cell BK110.out 0).trans rfl; have hcz14_1 : w12.cell? ⟨gb110, 1, none⟩ = some (.slice none 0 0) := (blk_cell BK110.out 1).trans rfl; have hfz14_0 := blk_frozen BK110.out 0; have hfz14_1 := blk_frozen BK110.out 1))
                repeat (go_quiet (first | ((with_reducible refine gate_dst (N := 4) rfl ?_); (try (refine gate_guard (by rfl) ?_; dsimp only)); refine box_event ?hg (N := 4) ?hd (cs := #[.int .i64 0, .slice none 0 0]) (t := 69) ?hr ?_; (case hd => rfl); (case hg => rfl); (case hr => first | (go_simp; done) | (go_simp; rfl)); intro gb110 hg w12 hbox hb; have n0_ := Aside0.mk (blk_below (g := gb108) (o := .cells #[.int .i64 a0_0, .slice (some ad109) l0_1.length c0_1] 39 (0, 0)) (by (with_reducible repeat (first | refine blk_drewN ?_ _ | refine blk_drew ?_ | refine blk_alloc ?_ _)); exact BK108.out) hb); have n1_ := Aside0.mk (below_step (by repeat (first | (with_reducible first | exact HB.out | apply below_alloc | apply pw_below_drewN | apply below_drew1 | refine below_set ?_ GE108.out) | exact HB.out)) hb); have n2_ := Aside0.mk (hbox); have n3_ := Aside0.mk ((by rw [hg]; exact (below_size (by repeat (first | (with_reducible first | exact HB.out | apply below_alloc | apply pw_below_drewN | apply below_drew1 | refine below_set ?_ GE108.out) | exact HB.out))) : w.heap.size ≤ gb110)); have n4_ := Aside0.mk ((by rw [hg]; exact (below_size (by repeat (first | (with_reducible first | exact HB.out | apply below_alloc | apply pw_below_drewN | apply below_drew1 | refine below_set ?_ GE108.out) | exact HB.out))) : w.heap.size ≤ gb110)); have n5_ := Aside0.mk ((by rw [hg]; exact Nat.ne_of_lt (blk_lt (g := gb108) (o := .cells #[.int .i64 a0_0, .slice (some ad109) l0_1.length c0_1] 39 (0, 0)) (by (with_reducible repeat (first | refine blk_drewN ?_ _ | refine blk_drew ?_ | refine blk_alloc ?_ _)); exact BK108.out)) : gb108 ≠ gb110)); have n6_ := Aside0.mk ((by rw [hg]; exact Nat.ne_of_gt (blk_lt (g := gb108) (o := .cells #[.int .i64 a0_0, .slice (some ad109) l0_1.length c0_1] 39 (0, 0)) (by (with_reducible repeat (first | refine blk_drewN ?_ _ | refine blk_drew ?_ | refine blk_alloc ?_ _)); exact BK108.out)) : gb110 ≠ gb108)); clear BK108; clear HB; have BK108 := n0_; have HB := n1_; have BK110 := n2_; have GW110 := n3_; have GE110 := n4_; have NB108_110 := n5_; have NB110_108 := n6_; clear n0_ n1_ n2_ n3_ n4_ n5_ n6_; clear hb hbox hg; have hnb13 := NB110_108.out; have hnc13 := NB108_110.out; have hcz14_0 : w12.cell? ⟨gb110, 0, none⟩ = some (.int .i64 0) := (blk_cell BK110.out 0).trans rfl; have hcz14_1 : w12.cell? ⟨gb110, 1, none⟩ = some (.slice none 0 0) := (blk_cell BK110.out 1).trans rfl; have hfz14_0 := blk_frozen BK110.out 0; have hfz14_1 := blk_frozen BK110.out 1)); go_upto_region 7 with (first | ((with_reducible refine gate_dst (N := 4) rfl ?_); (try (refine gate_guard (by rfl) ?_; dsimp only)); refine box_event ?hg (N := 4) ?hd (cs := #[.int .i64 0, .slice none 0 0]) (t := 69) ?hr ?_; (case hd => rfl); (case hg => rfl); (case hr => first | (go_simp; done) | (go_simp; rfl)); intro gb110 hg w12 hbox hb; have n0_ := Aside0.mk (blk_below (g := gb108) (o := .cells #[.int .i64 a0_0, .slice (some ad109) l0_1.length c0_1] 39 (0, 0)) (by (with_reducible repeat (first | refine blk_drewN ?_ _ | refine blk_drew ?_ | refine blk_alloc ?_ _)); exact BK108.out) hb); have n1_ := Aside0.mk (below_step (by repeat (first | (with_reducible first | exact HB.out | apply below_alloc | apply pw_below_drewN | apply below_drew1 | refine below_set ?_ GE108.out) | exact HB.out)) hb); have n2_ := Aside0.mk (hbox); have n3_ := Aside0.mk ((by rw [hg]; exact (below_size (by repeat (first | (with_reducible first | exact HB.out | apply below_alloc | apply pw_below_drewN | apply below_drew1 | refine below_set ?_ GE108.out) | exact HB.out))) : w.heap.size ≤ gb110)); have n4_ := Aside0.mk ((by rw [hg]; exact (below_size (by repeat (first | (with_reducible first | exact HB.out | apply below_alloc | apply pw_below_drewN | apply below_drew1 | refine below_set ?_ GE108.out) | exact HB.out))) : w.heap.size ≤ gb110)); have n5_ := Aside0.mk ((by rw [hg]; exact Nat.ne_of_lt (blk_lt (g := gb108) (o := .cells #[.int .i64 a0_0, .slice (some ad109) l0_1.length c0_1] 39 (0, 0)) (by (with_reducible repeat (first | refine blk_drewN ?_ _ | refine blk_drew ?_ | refine blk_alloc ?_ _)); exact BK108.out)) : gb108 ≠ gb110)); have n6_ := Aside0.mk ((by rw [hg]; exact Nat.ne_of_gt (blk_lt (g := gb108) (o := .cells #[.int .i64 a0_0, .slice (some ad109) l0_1.length c0_1] 39 (0, 0)) (by (with_reducible repeat (first | refine blk_drewN ?_ _ | refine blk_drew ?_ | refine blk_alloc ?_ _)); exact BK108.out)) : gb110 ≠ gb108)); clear BK108; clear HB; have BK108 := n0_; have HB := n1_; have BK110 := n2_; have GW110 := n3_; have GE110 := n4_; have NB108_110 := n5_; have NB110_108 := n6_; clear n0_ n1_ n2_ n3_ n4_ n5_ n6_; clear hb hbox hg; have hnb13 := NB110_108.out; have hnc13 := NB108_110.out; have hcz14_0 : w12.cell? ⟨gb110, 0, none⟩ = some (.int .i64 0) := (blk_cell BK110.out 0).trans rfl; have hcz14_1 : w12.cell? ⟨gb110, 1, none⟩ = some (.slice none 0 0) := (blk_cell BK110.out 1).trans rfl; have hfz14_0 := blk_frozen BK110.out 0; have hfz14_1 := blk_frozen BK110.out 1)))
                (try simp only [Act.put, List.setIfInBounds_toArray, List.set_cons_zero, List.set_cons_succ])
                go_cut [63] (fun v63 wc => ∃ (kq : Nat) (x63_9 : Bool), v63 = .bool x63_9 ∧ Aside0 (veneerref2_Is.j2 kq x3_2 x63_9 a0_0 l0_1 ((rd_T69 l0_1 x3_2).f0) ((rd_T69 l0_1 x3_2).f1) = some r) ∧ Aside0 (kq ≤ k2) ∧ Aside0 (wc.heap[gb108]? = some (.cells #[.int .i64 a0_0, (.slice (some ad109) l0_1.length c0_1)] 39 (0, 0))) ∧ Aside0 (wc.heap[gb110]? = some (.cells #[.int .i64 ((rd_T69 l0_1 x3_2).f0), (.slice A109_1 ((rd_T69 l0_1 x3_2).f1).length c109_1)] 69 (0, 0))) ∧ Aside0 (Below w.heap.size w wc))
                case first =>
                  have H := HC10.out
                  clear HC10
                  by_cases c15 : ((rd_T69 l0_1 x3_2).f0) < 0
                  · rw [if_pos c15] at H
                    have c15b0 : decide (((rd_T69 l0_1 x3_2).f0) < 0) = true := decide_eq_true c15
                    clear c15
                    (first | rw [c15b0] | (simp only [i64_w, i32_w]; rw [c15b0]) | skip)
                    have H' := Aside0.mk H
                    clear H
                    have hnb16 := NB110_108.out
                    have hnc16 := NB108_110.out
                    have hcz17_0 : w12.cell? ⟨gb110, 0, none⟩ = some (.int .i64 0) := (blk_cell BK110.out 0).trans rfl
                    have hcz17_1 : w12.cell? ⟨gb110, 1, none⟩ = some (.slice none 0 0) := (blk_cell BK110.out 1).trans rfl
                    have hfz17_0 := blk_frozen BK110.out 0
                    have hfz17_1 := blk_frozen BK110.out 1
                    go_wp2
                    repeat (go_quiet (fail); try go_wp2)
                    go_meet
                    case rel => exact ⟨_, (true), (by first | rfl | (simp; done) | (simp [*]; done)), H', ⟨by have := HJ1.out; have := HK2.out; first | omega | exact Nat.le_refl _⟩, ⟨by (with_reducible repeat (first | refine blk_drewN ?_ _ | refine blk_drew ?_ | refine blk_alloc ?_ _)); refine blk_far ?_ NB108_110.out _; (with_reducible repeat (first | refine blk_drewN ?_ _ | refine blk_drew ?_ | refine blk_alloc ?_ _)); refine blk_far ?_ NB108_110.out _; (with_reducible repeat (first | refine blk_drewN ?_ _ | refine blk_drew ?_ | refine blk_alloc ?_ _)); exact BK108.out⟩, ⟨by (with_reducible repeat (first | refine blk_drewN ?_ _ | refine blk_drew ?_ | refine blk_alloc ?_ _)); refine blk_put (cs := #[.int .i64 ((rd_T69 l0_1 x3_2).f0), .slice none 0 0]) ?_ 1 _ rfl; (with_reducible repeat (first | refine blk_drewN ?_ _ | refine blk_drew ?_ | refine blk_alloc ?_ _)); refine blk_put (cs := #[.int .i64 0, .slice none 0 0]) ?_ 0 _ rfl; (with_reducible repeat (first | refine blk_drewN ?_ _ | refine blk_drew ?_ | refine blk_alloc ?_ _)); exact BK110.out⟩, ⟨by repeat (first | (with_reducible first | exact HB.out | apply below_alloc | apply pw_below_drewN | apply below_drew1 | refine below_set ?_ GE108.out | refine below_set ?_ GE110.out) | exact HB.out)⟩⟩
                  · rw [if_neg c15] at H
                    have c15b0 : decide (((rd_T69 l0_1 x3_2).f0) < 0) = false := decide_eq_false c15
                    clear c15
                    (first | rw [c15b0] | (simp only [i64_w, i32_w]; rw [c15b0]) | skip)
                    by_cases c18 : ((rd_T69 l0_1 x3_2).f0) ≥ 32768
                    · rw [if_pos c18] at H
                      have c18b0 : decide (32768 ≤ ((rd_T69 l0_1 x3_2).f0)) = true := decide_eq_true c18
                      clear c18
                      have H' := Aside0.mk H
                      clear H
                      have hnb19 := NB110_108.out
                      have hnc19 := NB108_110.out
                      have hcz20_0 : w12.cell? ⟨gb110, 0, none⟩ = some (.int .i64 0) := (blk_cell BK110.out 0).trans rfl
                      have hcz20_1 : w12.cell? ⟨gb110, 1, none⟩ = some (.slice none 0 0) := (blk_cell BK110.out 1).trans rfl
                      have hfz20_0 := blk_frozen BK110.out 0
                      have hfz20_1 := blk_frozen BK110.out 1
                      go_wp2
                      repeat (go_quiet (fail); try go_wp2)
                      go_meet
                      case rel => exact ⟨_, (true), (by first | rfl | (simp; done) | (simp [*]; done)), H', ⟨by have := HJ1.out; have := HK2.out; first | omega | exact Nat.le_refl _⟩, ⟨by (with_reducible repeat (first | refine blk_drewN ?_ _ | refine blk_drew ?_ | refine blk_alloc ?_ _)); refine blk_far ?_ NB108_110.out _; (with_reducible repeat (first | refine blk_drewN ?_ _ | refine blk_drew ?_ | refine blk_alloc ?_ _)); refine blk_far ?_ NB108_110.out _; (with_reducible repeat (first | refine blk_drewN ?_ _ | refine blk_drew ?_ | refine blk_alloc ?_ _)); exact BK108.out⟩, ⟨by (with_reducible repeat (first | refine blk_drewN ?_ _ | refine blk_drew ?_ | refine blk_alloc ?_ _)); refine blk_put (cs := #[.int .i64 ((rd_T69 l0_1 x3_2).f0), .slice none 0 0]) ?_ 1 _ rfl; (with_reducible repeat (first | refine blk_drewN ?_ _ | refine blk_drew ?_ | refine blk_alloc ?_ _)); refine blk_put (cs := #[.int .i64 0, .slice none 0 0]) ?_ 0 _ rfl; (with_reducible repeat (first | refine blk_drewN ?_ _ | refine blk_drew ?_ | refine blk_alloc ?_ _)); exact BK110.out⟩, ⟨by repeat (first | (with_reducible first | exact HB.out | apply below_alloc | apply pw_below_drewN | apply below_drew1 | refine below_set ?_ GE108.out | refine below_set ?_ GE110.out) | exact HB.out)⟩⟩
                    · rw [if_neg c18] at H
                      have c18b0 : decide (32768 ≤ ((rd_T69 l0_1 x3_2).f0)) = false := decide_eq_false c18
                      clear c18
                      by_cases c21 : (wrap64 (((rd_T69 l0_1 x3_2).f0) * 16)) ≥ a0_0
                      · rw [if_pos c21] at H
                        have c21b0 : decide (a0_0 ≤ (wrap64 (((rd_T69 l0_1 x3_2).f0) * 16))) = true := decide_eq_true c21
                        clear c21
                        have H' := Aside0.mk H
                        clear H
                        have hnb22 := NB110_108.out
                        have hnc22 := NB108_110.out
                        have hcz23_0 : w12.cell? ⟨gb110, 0, none⟩ = some (.int .i64 0) := (blk_cell BK110.out 0).trans rfl
                        have hcz23_1 : w12.cell? ⟨gb110, 1, none⟩ = some (.slice none 0 0) := (blk_cell BK110.out 1).trans rfl
                        have hfz23_0 := blk_frozen BK110.out 0
                        have hfz23_1 := blk_frozen BK110.out 1
                        have hcz24_0 : w12.cell? ⟨gb108, 0, none⟩ = some (.int .i64 a0_0) := (blk_cell BK108.out 0).trans rfl
                        have hcz24_1 : w12.cell? ⟨gb108, 1, none⟩ = some (.slice (some ad109) l0_1.length c0_1) := (blk_cell BK108.out 1).trans rfl
                        have hfz24_0 := blk_frozen BK108.out 0
                        have hfz24_1 := blk_frozen BK108.out 1
                        go_wp2
                        repeat (go_quiet (fail); try go_wp2)
                        go_meet
                        case rel => exact ⟨_, (true), (by first | rfl | (simp; done) | (simp [*]; done)), H', ⟨by have := HJ1.out; have := HK2.out; first | omega | exact Nat.le_refl _⟩, ⟨by (with_reducible repeat (first | refine blk_drewN ?_ _ | refine blk_drew ?_ | refine blk_alloc ?_ _)); refine blk_far ?_ NB108_110.out _; (with_reducible repeat (first | refine blk_drewN ?_ _ | refine blk_drew ?_ | refine blk_alloc ?_ _)); refine blk_far ?_ NB108_110.out _; (with_reducible repeat (first | refine blk_drewN ?_ _ | refine blk_drew ?_ | refine blk_alloc ?_ _)); exact BK108.out⟩, ⟨by (with_reducible repeat (first | refine blk_drewN ?_ _ | refine blk_drew ?_ | refine blk_alloc ?_ _)); refine blk_put (cs := #[.int .i64 ((rd_T69 l0_1 x3_2).f0), .slice none 0 0]) ?_ 1 _ rfl; (with_reducible repeat (first | refine blk_drewN ?_ _ | refine blk_drew ?_ | refine blk_alloc ?_ _)); refine blk_put (cs := #[.int .i64 0, .slice none 0 0]) ?_ 0 _ rfl; (with_reducible repeat (first | refine blk_drewN ?_ _ | refine blk_drew ?_ | refine blk_alloc ?_ _)); exact BK110.out⟩, ⟨by repeat (first | (with_reducible first | exact HB.out | apply below_alloc | apply pw_below_drewN | apply below_drew1 | refine below_set ?_ GE108.out | refine below_set ?_ GE110.out) | exact HB.out)⟩⟩
                      · rw [if_neg c21] at H
                        have c21b0 : decide (a0_0 ≤ (wrap64 (((rd_T69 l0_1 x3_2).f0) * 16))) = false := decide_eq_false c21
                        clear c21
                        by_cases c25 : (((rd_T69 l0_1 x3_2).f1).length : Int) = 16
                        · rw [if_pos c25] at H
                          have c25b0 : ((((rd_T69 l0_1 x3_2).f1).length : Int) == 16) = true := beq_iff_eq.mpr c25
                          have c25b1 : ((((rd_T69 l0_1 x3_2).f1).length : Int) != 16) = false := bne_eq_false_iff_eq.mpr c25
                          clear c25
                          by_cases c26 : x3_2 > 0
                          · rw [if_pos c26] at H
                            have c26b0 : decide (0 < x3_2) = true := decide_eq_true c26
                            clear c26
                            obtain ⟨ji27, hji27⟩ : ∃ j_ : Int, (wrap64 (x3_2 - 1)) = j_ := ⟨_, rfl⟩
                            replace H : (if 0 ≤ (ji27) then (if (ji27) < (l0_1.length : Int) then (veneerref2_Is.j2 k2 x3_2 (decide (((rd_T69 l0_1 x3_2).f0) ≤ ((rd_T69 l0_1 (ji27)).f0))) a0_0 l0_1 ((rd_T69 l0_1 x3_2).f0) ((rd_T69 l0_1 x3_2).f1)) else (none)) else (none)) = some r := by first | (rw [hji27] at H; exact H) | (simp only [hji27] at H ⊢; exact H)
                            have hji27w : (IntKind.i64.wrap (x3_2 - 1)) = ji27 := (i64_w _).trans hji27
                            by_cases c28 : 0 ≤ (ji27)
                            · rw [if_pos c28] at H
                              have c28b0 : decide (0 ≤ (ji27)) = true := decide_eq_true c28
                              clear c28
                              by_cases c29 : (ji27) < (l0_1.length : Int)
                              · rw [if_pos c29] at H
                                have c29b0 : decide ((ji27) < (l0_1.length : Int)) = true := decide_eq_true c29
                                clear c29
                                have H' := Aside0.mk H
                                clear H
                                have hnb30 := NB110_108.out
                                have hnc30 := NB108_110.out
                                have hcz31_0 : w12.cell? ⟨gb110, 0, none⟩ = some (.int .i64 0) := (blk_cell BK110.out 0).trans rfl
                                have hcz31_1 : w12.cell? ⟨gb110, 1, none⟩ = some (.slice none 0 0) := (blk_cell BK110.out 1).trans rfl
                                have hfz31_0 := blk_frozen BK110.out 0
                                have hfz31_1 := blk_frozen BK110.out 1
                                have hcz32_0 : w12.cell? ⟨gb108, 0, none⟩ = some (.int .i64 a0_0) := (blk_cell BK108.out 0).trans rfl
                                have hcz32_1 : w12.cell? ⟨gb108, 1, none⟩ = some (.slice (some ad109) l0_1.length c0_1) := (blk_cell BK108.out 1).trans rfl
                                have hfz32_0 := blk_frozen BK108.out 0
                                have hfz32_1 := blk_frozen BK108.out 1
                                have p111 : 0 ≤ ((ji27) : Int) := of_decide_eq_true (by first | (with_reducible assumption) | assumption)
                                have q111 : (ji27) < (l0_1.length : Int) := of_decide_eq_true (by first | (with_reducible assumption) | assumption)
                                obtain ⟨ad111, A111_1, c111_1, e111, hx111_0, hx111_1, hl111_1, hi111_1⟩ := at_T69 HR0_1.out (ji27) p111 q111
                                obtain rfl : ad109 = ad111 := (by injection e111)
                                have hn111_0 : ad109.block ≠ gb110 := Nat.ne_of_lt (Nat.lt_of_lt_of_le (by have := World.block_lt_of_cell? _ _ hx111_0; first | rwa [add_block] at this | exact this) GW110.out)
                                have hn111_1 : ad109.block ≠ gb110 := Nat.ne_of_lt (Nat.lt_of_lt_of_le (by have := World.block_lt_of_cell? _ _ hx111_0; first | rwa [add_block] at this | exact this) GW110.out)
                                replace hx111_0 := (HB.out.cell (World.block_lt_of_cell? w _ hx111_0)).trans hx111_0
                                replace hx111_1 := (HB.out.cell (World.block_lt_of_cell? w _ hx111_1)).trans hx111_1
                                have HR111_1 := Aside0.mk hi111_1
                                have HC111_1 := Aside0.mk hl111_1
                                clear hi111_1 hl111_1
                                replace hx111_0 := (cell_far (p := ⟨gb110, 0, none⟩) (by first | (rw [add_block]; exact hn111_0) | (show (Addr.add _ _).block ≠ _; rw [add_block]; exact hn111_0) | exact hn111_0) (.int .i64 ((rd_T69 l0_1 x3_2).f0))).trans hx111_0
                                replace hx111_1 := (cell_far (p := ⟨gb110, 0, none⟩) (by first | (rw [add_block]; exact hn111_0) | (show (Addr.add _ _).block ≠ _; rw [add_block]; exact hn111_0) | exact hn111_0) (.int .i64 ((rd_T69 l0_1 x3_2).f0))).trans hx111_1
                                replace hx111_0 := (cell_far (p := ⟨gb110, 1, none⟩) (by first | (rw [add_block]; exact hn111_1) | (show (Addr.add _ _).block ≠ _; rw [add_block]; exact hn111_1) | exact hn111_1) (.slice A109_1 ((rd_T69 l0_1 x3_2).f1).length c109_1)).trans hx111_0
                                replace hx111_1 := (cell_far (p := ⟨gb110, 1, none⟩) (by first | (rw [add_block]; exact hn111_1) | (show (Addr.add _ _).block ≠ _; rw [add_block]; exact hn111_1) | exact hn111_1) (.slice A109_1 ((rd_T69 l0_1 x3_2).f1).length c109_1)).trans hx111_1
                                (try have hy111_0 := fun (n_ : Nat) => (show ((((w12.drewN n_).setCell ⟨gb110, 0, none⟩ (.int .i64 ((rd_T69 l0_1 x3_2).f0))).setCell ⟨gb110, 1, none⟩ (.slice A109_1 ((rd_T69 l0_1 x3_2).f1).length c109_1))).cell? _ = some _ from hx111_0))
                                (try have hy111_1 := fun (n_ : Nat) => (show ((((w12.drewN n_).setCell ⟨gb110, 0, none⟩ (.int .i64 ((rd_T69 l0_1 x3_2).f0))).setCell ⟨gb110, 1, none⟩ (.slice A109_1 ((rd_T69 l0_1 x3_2).f1).length c109_1))).cell? _ = some _ from hx111_1))
                                clear hn111_0
                                clear hn111_1
                                replace p111 := eq_true p111
                                replace q111 := eq_true q111
                                go_wp2
                                repeat (go_quiet (fail); try go_wp2)
                                go_meet
                                case rel => exact ⟨_, (decide (((rd_T69 l0_1 x3_2).f0) ≤ ((rd_T69 l0_1 (ji27)).f0))), (by first | rfl | (simp; done) | (simp only [← hji27] <;> (first | rfl | simp)) | (simp [*]; done)), H', ⟨by have := HJ1.out; have := HK2.out; first | omega | exact Nat.le_refl _⟩, ⟨by (with_reducible repeat (first | refine blk_drewN ?_ _ | refine blk_drew ?_ | refine blk_alloc ?_ _)); refine blk_far ?_ NB108_110.out _; (with_reducible repeat (first | refine blk_drewN ?_ _ | refine blk_drew ?_ | refine blk_alloc ?_ _)); refine blk_far ?_ NB108_110.out _; (with_reducible repeat (first | refine blk_drewN ?_ _ | refine blk_drew ?_ | refine blk_alloc ?_ _)); exact BK108.out⟩, ⟨by (with_reducible repeat (first | refine blk_drewN ?_ _ | refine blk_drew ?_ | refine blk_alloc ?_ _)); refine blk_put (cs := #[.int .i64 ((rd_T69 l0_1 x3_2).f0), .slice none 0 0]) ?_ 1 _ rfl; (with_reducible repeat (first | refine blk_drewN ?_ _ | refine blk_drew ?_ | refine blk_alloc ?_ _)); refine blk_put (cs := #[.int .i64 0, .slice none 0 0]) ?_ 0 _ rfl; (with_reducible repeat (first | refine blk_drewN ?_ _ | refine blk_drew ?_ | refine blk_alloc ?_ _)); exact BK110.out⟩, ⟨by repeat (first | (with_reducible first | exact HB.out | apply below_alloc | apply pw_below_drewN | apply below_drew1 | refine below_set ?_ GE108.out | refine below_set ?_ GE110.out) | exact HB.out)⟩⟩
                              · rw [if_neg c29] at H
                                exact absurd H (by simp)
                            · rw [if_neg c28] at H
                              exact absurd H (by simp)
                          · rw [if_neg c26] at H
                            have c26b0 : decide (0 < x3_2) = false := decide_eq_false c26
                            clear c26
                            have H' := Aside0.mk H
                            clear H
                            have hnb33 := NB110_108.out
                            have hnc33 := NB108_110.out
                            have hcz34_0 : w12.cell? ⟨gb110, 0, none⟩ = some (.int .i64 0) := (blk_cell BK110.out 0).trans rfl
                            have hcz34_1 : w12.cell? ⟨gb110, 1, none⟩ = some (.slice none 0 0) := (blk_cell BK110.out 1).trans rfl
                            have hfz34_0 := blk_frozen BK110.out 0
                            have hfz34_1 := blk_frozen BK110.out 1
                            have hcz35_0 : w12.cell? ⟨gb108, 0, none⟩ = some (.int .i64 a0_0) := (blk_cell BK108.out 0).trans rfl
                            have hcz35_1 : w12.cell? ⟨gb108, 1, none⟩ = some (.slice (some ad109) l0_1.length c0_1) := (blk_cell BK108.out 1).trans rfl
                            have hfz35_0 := blk_frozen BK108.out 0
                            have hfz35_1 := blk_frozen BK108.out 1
                            go_wp2
                            repeat (go_quiet (fail); try go_wp2)
                            go_meet
                            case rel => exact ⟨_, (false), (by first | rfl | (simp; done) | (simp [*]; done)), H', ⟨by have := HJ1.out; have := HK2.out; first | omega | exact Nat.le_refl _⟩, ⟨by (with_reducible repeat (first | refine blk_drewN ?_ _ | refine blk_drew ?_ | refine blk_alloc ?_ _)); refine blk_far ?_ NB108_110.out _; (with_reducible repeat (first | refine blk_drewN ?_ _ | refine blk_drew ?_ | refine blk_alloc ?_ _)); refine blk_far ?_ NB108_110.out _; (with_reducible repeat (first | refine blk_drewN ?_ _ | refine blk_drew ?_ | refine blk_alloc ?_ _)); exact BK108.out⟩, ⟨by (with_reducible repeat (first | refine blk_drewN ?_ _ | refine blk_drew ?_ | refine blk_alloc ?_ _)); refine blk_put (cs := #[.int .i64 ((rd_T69 l0_1 x3_2).f0), .slice none 0 0]) ?_ 1 _ rfl; (with_reducible repeat (first | refine blk_drewN ?_ _ | refine blk_drew ?_ | refine blk_alloc ?_ _)); refine blk_put (cs := #[.int .i64 0, .slice none 0 0]) ?_ 0 _ rfl; (with_reducible repeat (first | refine blk_drewN ?_ _ | refine blk_drew ?_ | refine blk_alloc ?_ _)); exact BK110.out⟩, ⟨by repeat (first | (with_reducible first | exact HB.out | apply below_alloc | apply pw_below_drewN | apply below_drew1 | refine below_set ?_ GE108.out | refine below_set ?_ GE110.out) | exact HB.out)⟩⟩
                        · rw [if_neg c25] at H
                          have c25b0 : ((((rd_T69 l0_1 x3_2).f1).length : Int) == 16) = false := beq_eq_false_iff_ne.mpr c25
                          have c25b1 : ((((rd_T69 l0_1 x3_2).f1).length : Int) != 16) = true := bne_iff_ne.mpr c25
                          have H' := Aside0.mk H
                          clear H
                          have hnb36 := NB110_108.out
                          have hnc36 := NB108_110.out
                          have hcz37_0 : w12.cell? ⟨gb110, 0, none⟩ = some (.int .i64 0) := (blk_cell BK110.out 0).trans rfl
                          have hcz37_1 : w12.cell? ⟨gb110, 1, none⟩ = some (.slice none 0 0) := (blk_cell BK110.out 1).trans rfl
                          have hfz37_0 := blk_frozen BK110.out 0
                          have hfz37_1 := blk_frozen BK110.out 1
                          have hcz38_0 : w12.cell? ⟨gb108, 0, none⟩ = some (.int .i64 a0_0) := (blk_cell BK108.out 0).trans rfl
                          have hcz38_1 : w12.cell? ⟨gb108, 1, none⟩ = some (.slice (some ad109) l0_1.length c0_1) := (blk_cell BK108.out 1).trans rfl
                          have hfz38_0 := blk_frozen BK108.out 0
                          have hfz38_1 := blk_frozen BK108.out 1
                          go_wp2
                          repeat (go_quiet (fail); try go_wp2)
                          go_meet
                          case rel => exact ⟨_, (true), (by first | rfl | (simp; done) | (simp [*]; done)), H', ⟨by have := HJ1.out; have := HK2.out; first | omega | exact Nat.le_refl _⟩, ⟨by (with_reducible repeat (first | refine blk_drewN ?_ _ | refine blk_drew ?_ | refine blk_alloc ?_ _)); refine blk_far ?_ NB108_110.out _; (with_reducible repeat (first | refine blk_drewN ?_ _ | refine blk_drew ?_ | refine blk_alloc ?_ _)); refine blk_far ?_ NB108_110.out _; (with_reducible repeat (first | refine blk_drewN ?_ _ | refine blk_drew ?_ | refine blk_alloc ?_ _)); exact BK108.out⟩, ⟨by (with_reducible repeat (first | refine blk_drewN ?_ _ | refine blk_drew ?_ | refine blk_alloc ?_ _)); refine blk_put (cs := #[.int .i64 ((rd_T69 l0_1 x3_2).f0), .slice none 0 0]) ?_ 1 _ rfl; (with_reducible repeat (first | refine blk_drewN ?_ _ | refine blk_drew ?_ | refine blk_alloc ?_ _)); refine blk_put (cs := #[.int .i64 0, .slice none 0 0]) ?_ 0 _ rfl; (with_reducible repeat (first | refine blk_drewN ?_ _ | refine blk_drew ?_ | refine blk_alloc ?_ _)); exact BK110.out⟩, ⟨by repeat (first | (with_reducible first | exact HB.out | apply below_alloc | apply pw_below_drewN | apply below_drew1 | refine below_set ?_ GE108.out | refine below_set ?_ GE110.out) | exact HB.out)⟩⟩
                case rest =>
                  clear HC10
                  try clear c1
                  try clear p1
                  try clear q1
                  try clear hx1
                  try clear c2
                  try clear p2
                  try clear c3
                  try clear c4
                  try clear c4b0
                  try clear p6
                  try clear c7
                  try clear c8
                  try clear c8b0
                  try clear c9
                  try clear c9b0
                  try clear c10
                  try clear p10
                  try clear q10
                  try clear hx10
                  try clear c11
                  try clear p11
                  try clear q11
                  try clear hx11
                  try clear c13
                  try clear c15
                  try clear c15b0
                  try clear c16
                  try clear c18
                  try clear c18b0
                  try clear c19
                  try clear c21
                  try clear c21b0
                  try clear c22
                  try clear c25
                  try clear c25b0
                  try clear c25b1
                  try clear c26
                  try clear c26b0
                  try clear c28
                  try clear c28b0
                  try clear c29
                  try clear c29b0
                  try clear c30
                  try clear c33
                  try clear c36
                  try clear hcz11_0
                  try clear hcz11_1
                  try clear hcz14_0
                  try clear hcz14_1
                  try clear hcz17_0
                  try clear hcz17_1
                  try clear hcz20_0
                  try clear hcz20_1
                  try clear hcz23_0
                  try clear hcz23_1
                  try clear hcz24_0
                  try clear hcz24_1
                  try clear hcz31_0
                  try clear hcz31_1
                  try clear hcz32_0
                  try clear hcz32_1
                  try clear hcz34_0
                  try clear hcz34_1
                  try clear hcz35_0
                  try clear hcz35_1
                  try clear hcz37_0
                  try clear hcz37_1
                  try clear hcz38_0
                  try clear hcz38_1
                  try clear hcz5_0
                  try clear hcz5_1
                  try clear hcz6_0
                  try clear hcz6_1
                  try clear hfz11_0
                  try clear hfz11_1
                  try clear hfz14_0
                  try clear hfz14_1
                  try clear hfz17_0
                  try clear hfz17_1
                  try clear hfz20_0
                  try clear hfz20_1
                  try clear hfz23_0
                  try clear hfz23_1
                  try clear hfz24_0
                  try clear hfz24_1
                  try clear hfz31_0
                  try clear hfz31_1
                  try clear hfz32_0
                  try clear hfz32_1
                  try clear hfz34_0
                  try clear hfz34_1
                  try clear hfz35_0
                  try clear hfz35_1
                  try clear hfz37_0
                  try clear hfz37_1
                  try clear hfz38_0
                  try clear hfz38_1
                  try clear hfz5_0
                  try clear hfz5_1
                  try clear hfz6_0
                  try clear hfz6_1
                  try clear hx109_0
                  try clear hx109_1
                  try clear hx111_0
                  try clear hx111_1
                  try clear p109
                  try clear p111
                  try clear p2
                  try clear q109
                  try clear q111
                  obtain ⟨kq, x63_9, rfl, HA, HJ9, BK108, BK110, HB⟩ := hcut
                  cases kq with
                  | zero => exact absurd HA.out (by simp [veneerref2_Is.j2])
                  | succ kj9 =>
                    have H := HA.out
                    clear HA
                    simp only [veneerref2_Is.j2] at H
                    by_cases c39 : x63_9 = true
                    · subst c39
                      have H1 : (some false) = some r := by rw [if_pos rfl] at H; exact H
                      clear H
                      have H := H1
                      clear H1
                      obtain rfl := Option.some.inj H
                      go_wp2
                      repeat (go_quiet (fail); try go_wp2)
                      go_ret
                      exact ⟨by first | rfl | (simp [errW_none, errW_some] <;> rfl) | (simp [*, errW_none, errW_some] <;> rfl), by repeat (first | (with_reducible first | exact HB.out | apply below_alloc | apply pw_below_drewN | apply below_drew1 | refine below_set ?_ GE108.out | refine below_set ?_ GE110.out) | exact HB.out)⟩
                    · replace c39 := Bool.eq_false_iff.mpr c39
                      subst c39
                      have H1 : (veneerref2_Is.l1 kj9 x3_2 0 a0_0 l0_1 ((rd_T69 l0_1 x3_2).f0) ((rd_T69 l0_1 x3_2).f1)) = some r := by rw [if_neg (show ¬ (false = true) by decide)] at H; exact H
                      clear H
                      have H := H1
                      clear H1
                      have H' := Aside0.mk H
                      clear H
                      go_wp2
                      repeat (go_quiet (fail); try go_wp2)
                      go_loopg [5] kj9 (fun kq v5 w' => ∃ (x5_4 : Int), v5 = .int .i64 x5_4 ∧ Aside0 (veneerref2_Is.l1 kq x3_2 x5_4 a0_0 l0_1 ((rd_T69 l0_1 x3_2).f0) ((rd_T69 l0_1 x3_2).f1) = some r) ∧ Aside0 (kq ≤ kj9) ∧ Aside0 (w'.heap[gb108]? = some (.cells #[.int .i64 a0_0, (.slice (some ad109) l0_1.length c0_1)] 39 (0, 0))) ∧ Aside0 (w'.heap[gb110]? = some (.cells #[.int .i64 ((rd_T69 l0_1 x3_2).f0), (.slice A109_1 ((rd_T69 l0_1 x3_2).f1).length c109_1)] 69 (0, 0))) ∧ Aside0 (Below w.heap.size w w'))
                      case atStart => exact ⟨(0), (by first | rfl | (simp; done) | (simp [*]; done)), H', ⟨Nat.le_refl _⟩, ⟨by (with_reducible repeat (first | refine blk_drewN ?_ _ | refine blk_drew ?_ | refine blk_alloc ?_ _)); exact BK108.out⟩, ⟨by (with_reducible repeat (first | refine blk_drewN ?_ _ | refine blk_drew ?_ | refine blk_alloc ?_ _)); exact BK110.out⟩, ⟨by repeat (first | (with_reducible first | exact HB.out | apply below_alloc | apply pw_below_drewN | apply below_drew1 | refine below_set ?_ GE108.out | refine below_set ?_ GE110.out) | exact HB.out)⟩⟩
                      case round =>
                        clear H'
                        try clear c1
                        try clear p1
                        try clear q1
                        try clear hx1
                        try clear c2
                        try clear p2
                        try clear c3
                        try clear c4
                        try clear c4b0
                        try clear p6
                        try clear c7
                        try clear c8
                        try clear c8b0
                        try clear c9
                        try clear c9b0
                        try clear c10
                        try clear p10
                        try clear q10
                        try clear hx10
                        try clear c11
                        try clear p11
                        try clear q11
                        try clear hx11
                        try clear c13
                        try clear c15
                        try clear c15b0
                        try clear c16
                        try clear c18
                        try clear c18b0
                        try clear c19
                        try clear c21
                        try clear c21b0
                        try clear c22
                        try clear c25
                        try clear c25b0
                        try clear c25b1
                        try clear c26
                        try clear c26b0
                        try clear c28
                        try clear c28b0
                        try clear c29
                        try clear c29b0
                        try clear c30
                        try clear c33
                        try clear c36
                        try clear c39
                        try clear hcz11_0
                        try clear hcz11_1
                        try clear hcz14_0
                        try clear hcz14_1
                        try clear hcz17_0
                        try clear hcz17_1
                        try clear hcz20_0
                        try clear hcz20_1
                        try clear hcz23_0
                        try clear hcz23_1
                        try clear hcz24_0
                        try clear hcz24_1
                        try clear hcz31_0
                        try clear hcz31_1
                        try clear hcz32_0
                        try clear hcz32_1
                        try clear hcz34_0
                        try clear hcz34_1
                        try clear hcz35_0
                        try clear hcz35_1
                        try clear hcz37_0
                        try clear hcz37_1
                        try clear hcz38_0
                        try clear hcz38_1
                        try clear hcz5_0
                        try clear hcz5_1
                        try clear hcz6_0
                        try clear hcz6_1
                        try clear hfz11_0
                        try clear hfz11_1
                        try clear hfz14_0
                        try clear hfz14_1
                        try clear hfz17_0
                        try clear hfz17_1
                        try clear hfz20_0
                        try clear hfz20_1
                        try clear hfz23_0
                        try clear hfz23_1
                        try clear hfz24_0
                        try clear hfz24_1
                        try clear hfz31_0
                        try clear hfz31_1
                        try clear hfz32_0
                        try clear hfz32_1
                        try clear hfz34_0
                        try clear hfz34_1
                        try clear hfz35_0
                        try clear hfz35_1
                        try clear hfz37_0
                        try clear hfz37_1
                        try clear hfz38_0
                        try clear hfz38_1
                        try clear hfz5_0
                        try clear hfz5_1
                        try clear hfz6_0
                        try clear hfz6_1
                        try clear hx109_0
                        try clear hx109_1
                        try clear hx111_0
                        try clear hx111_1
                        try clear p1
                        try clear p10
                        try clear p109
                        try clear p11
                        try clear p111
                        try clear p2
                        try clear p6
                        try clear q1
                        try clear q10
                        try clear q109
                        try clear q11
                        try clear q111
                        obtain ⟨x5_4, rfl, HA, HK4, BK108, BK110, HB⟩ := hrel
                        cases gk with
                        | zero => exact absurd HA.out (by simp [veneerref2_Is.l1])
                        | succ k4 =>
                          have H := HA.out
                          clear HA
                          simp only [veneerref2_Is.l1] at H
                          by_cases c40 : x5_4 < 16
                          · rw [if_pos c40] at H
                            have c40b0 : decide (x5_4 < 16) = true := decide_eq_true c40
                            clear c40
                            by_cases c41 : (wrap64 ((wrap64 (((rd_T69 l0_1 x3_2).f0) * 16)) + x5_4)) ≥ a0_0
                            · rw [if_pos c41] at H
                              have c41b0 : decide (a0_0 ≤ (wrap64 ((wrap64 (((rd_T69 l0_1 x3_2).f0) * 16)) + x5_4))) = true := decide_eq_true c41
                              clear c41
                              by_cases c42 : 0 ≤ x5_4
                              · rw [if_pos c42] at H
                                have c42b0 : decide (0 ≤ x5_4) = true := decide_eq_true c42
                                clear c42
                                by_cases c43 : x5_4 < (((rd_T69 l0_1 x3_2).f1).length : Int)
                                · rw [if_pos c43] at H
                                  have c43b0 : decide (x5_4 < (((rd_T69 l0_1 x3_2).f1).length : Int)) = true := decide_eq_true c43
                                  clear c43
                                  by_cases c44 : (rd ((rd_T69 l0_1 x3_2).f1) x5_4) = 0
                                  · rw [if_pos c44] at H
                                    have c44b0 : ((rd ((rd_T69 l0_1 x3_2).f1) x5_4) == 0) = true := beq_iff_eq.mpr c44
                                    have c44b1 : ((rd ((rd_T69 l0_1 x3_2).f1) x5_4) != 0) = false := bne_eq_false_iff_eq.mpr c44
                                    clear c44
                                    have H' := Aside0.mk H
                                    clear H
                                    have hnb45 := NB110_108.out
                                    have hnc45 := NB108_110.out
                                    have hcz46_0 : wr.cell? ⟨gb110, 0, none⟩ = some (.int .i64 ((rd_T69 l0_1 x3_2).f0)) := (blk_cell BK110.out 0).trans rfl
                                    have hcz46_1 : wr.cell? ⟨gb110, 1, none⟩ = some (.slice A109_1 ((rd_T69 l0_1 x3_2).f1).length c109_1) := (blk_cell BK110.out 1).trans rfl
                                    have hfz46_0 := blk_frozen BK110.out 0
                                    have hfz46_1 := blk_frozen BK110.out 1
                                    have hcz47_0 : wr.cell? ⟨gb108, 0, none⟩ = some (.int .i64 a0_0) := (blk_cell BK108.out 0).trans rfl
                                    have hcz47_1 : wr.cell? ⟨gb108, 1, none⟩ = some (.slice (some ad109) l0_1.length c0_1) := (blk_cell BK108.out 1).trans rfl
                                    have hfz47_0 := blk_frozen BK108.out 0
                                    have hfz47_1 := blk_frozen BK108.out 1
                                    have p112 : 0 ≤ (x5_4 : Int) := of_decide_eq_true (by first | (with_reducible assumption) | assumption)
                                    have q112 : x5_4 < (((rd_T69 l0_1 x3_2).f1).length : Int) := of_decide_eq_true (by first | (with_reducible assumption) | assumption)
                                    obtain ⟨ad112, e112, hx112_0⟩ := Kd.at_int HR109_1.out x5_4 p112 q112
                                    cases e112
                                    replace hx112_0 := (HB.out.cell (World.block_lt_of_cell? w _ hx112_0)).trans hx112_0
                                    replace p112 := eq_true p112
                                    replace q112 := eq_true q112
                                    go_wp2
                                    repeat (go_quiet (fail); try go_wp2)
                                    go_roundg k4
                                    case measure => have := HJ1.out; have := HK2.out; have := HJ9.out; have := HK4.out; omega
                                    case rel => exact ⟨(wrap64 (x5_4 + 1)), (by first | rfl | (simp; done) | (simp [*]; done)), H', ⟨by have := HJ1.out; have := HK2.out; have := HJ9.out; have := HK4.out; omega⟩, ⟨by (with_reducible repeat (first | refine blk_drewN ?_ _ | refine blk_drew ?_ | refine blk_alloc ?_ _)); exact BK108.out⟩, ⟨by (with_reducible repeat (first | refine blk_drewN ?_ _ | refine blk_drew ?_ | refine blk_alloc ?_ _)); exact BK110.out⟩, ⟨by repeat (first | (with_reducible first | exact HB.out | apply below_alloc | apply pw_below_drewN | apply below_drew1 | refine below_set ?_ GE108.out | refine below_set ?_ GE110.out) | exact HB.out)⟩⟩
                                  · rw [if_neg c44] at H
                                    have c44b0 : ((rd ((rd_T69 l0_1 x3_2).f1) x5_4) == 0) = false := beq_eq_false_iff_ne.mpr c44
                                    have c44b1 : ((rd ((rd_T69 l0_1 x3_2).f1) x5_4) != 0) = true := bne_iff_ne.mpr c44
                                    obtain rfl := Option.some.inj H
                                    have hnb48 := NB110_108.out
                                    have hnc48 := NB108_110.out
                                    have hcz49_0 : wr.cell? ⟨gb110, 0, none⟩ = some (.int .i64 ((rd_T69 l0_1 x3_2).f0)) := (blk_cell BK110.out 0).trans rfl
                                    have hcz49_1 : wr.cell? ⟨gb110, 1, none⟩ = some (.slice A109_1 ((rd_T69 l0_1 x3_2).f1).length c109_1) := (blk_cell BK110.out 1).trans rfl
                                    have hfz49_0 := blk_frozen BK110.out 0
                                    have hfz49_1 := blk_frozen BK110.out 1
                                    have hcz50_0 : wr.cell? ⟨gb108, 0, none⟩ = some (.int .i64 a0_0) := (blk_cell BK108.out 0).trans rfl
                                    have hcz50_1 : wr.cell? ⟨gb108, 1, none⟩ = some (.slice (some ad109) l0_1.length c0_1) := (blk_cell BK108.out 1).trans rfl
                                    have hfz50_0 := blk_frozen BK108.out 0
                                    have hfz50_1 := blk_frozen BK108.out 1
                                    have p112 : 0 ≤ (x5_4 : Int) := of_decide_eq_true (by first | (with_reducible assumption) | assumption)
                                    have q112 : x5_4 < (((rd_T69 l0_1 x3_2).f1).length : Int) := of_decide_eq_true (by first | (with_reducible assumption) | assumption)
                                    obtain ⟨ad112, e112, hx112_0⟩ := Kd.at_int HR109_1.out x5_4 p112 q112
                                    cases e112
                                    replace hx112_0 := (HB.out.cell (World.block_lt_of_cell? w _ hx112_0)).trans hx112_0
                                    replace p112 := eq_true p112
                                    replace q112 := eq_true q112
                                    go_wp2
                                    repeat (go_quiet (fail); try go_wp2)
                                    go_ret
                                    exact ⟨by first | rfl | (simp [errW_none, errW_some] <;> rfl) | (simp [*, errW_none, errW_some] <;> rfl), by repeat (first | (with_reducible first | exact HB.out | apply below_alloc | apply pw_below_drewN | apply below_drew1 | refine below_set ?_ GE108.out | refine below_set ?_ GE110.out) | exact HB.out)⟩
                                · rw [if_neg c43] at H
                                  exact absurd H (by simp)
                              · rw [if_neg c42] at H
                                exact absurd H (by simp)
                            · rw [if_neg c41] at H
                              have c41b0 : decide (a0_0 ≤ (wrap64 ((wrap64 (((rd_T69 l0_1 x3_2).f0) * 16)) + x5_4))) = false := decide_eq_false c41
                              clear c41
                              have H' := Aside0.mk H
                              clear H
                              have hnb51 := NB110_108.out
                              have hnc51 := NB108_110.out
                              have hcz52_0 : wr.cell? ⟨gb110, 0, none⟩ = some (.int .i64 ((rd_T69 l0_1 x3_2).f0)) := (blk_cell BK110.out 0).trans rfl
                              have hcz52_1 : wr.cell? ⟨gb110, 1, none⟩ = some (.slice A109_1 ((rd_T69 l0_1 x3_2).f1).length c109_1) := (blk_cell BK110.out 1).trans rfl
                              have hfz52_0 := blk_frozen BK110.out 0
                              have hfz52_1 := blk_frozen BK110.out 1
                              have hcz53_0 : wr.cell? ⟨gb108, 0, none⟩ = some (.int .i64 a0_0) := (blk_cell BK108.out 0).trans rfl
                              have hcz53_1 : wr.cell? ⟨gb108, 1, none⟩ = some (.slice (some ad109) l0_1.length c0_1) := (blk_cell BK108.out 1).trans rfl
                              have hfz53_0 := blk_frozen BK108.out 0
                              have hfz53_1 := blk_frozen BK108.out 1
                              go_wp2
                              repeat (go_quiet (fail); try go_wp2)
                              go_roundg k4
                              case measure => have := HJ1.out; have := HK2.out; have := HJ9.out; have := HK4.out; omega
                              case rel => exact ⟨(wrap64 (x5_4 + 1)), (by first | rfl | (simp; done) | (simp [*]; done)), H', ⟨by have := HJ1.out; have := HK2.out; have := HJ9.out; have := HK4.out; omega⟩, ⟨by (with_reducible repeat (first | refine blk_drewN ?_ _ | refine blk_drew ?_ | refine blk_alloc ?_ _)); exact BK108.out⟩, ⟨by (with_reducible repeat (first | refine blk_drewN ?_ _ | refine blk_drew ?_ | refine blk_alloc ?_ _)); exact BK110.out⟩, ⟨by repeat (first | (with_reducible first | exact HB.out | apply below_alloc | apply pw_below_drewN | apply below_drew1 | refine below_set ?_ GE108.out | refine below_set ?_ GE110.out) | exact HB.out)⟩⟩
                          · rw [if_neg c40] at H
                            have c40b0 : decide (x5_4 < 16) = false := decide_eq_false c40
                            clear c40
                            have H' := Aside0.mk H
                            clear H
                            go_wp2
                            repeat (go_quiet (fail); try go_wp2)
                            go_roundg k4
                            case measure => have := HJ1.out; have := HK2.out; have := HJ9.out; have := HK4.out; omega
                            case rel => exact ⟨(wrap64 (x3_2 + 1)), (by first | rfl | (simp; done) | (simp [*]; done)), H', ⟨by have := HJ1.out; have := HK2.out; have := HJ9.out; have := HK4.out; omega⟩, ⟨by (with_reducible repeat (first | refine blk_drewN ?_ _ | refine blk_drew ?_ | refine blk_alloc ?_ _)); exact BK108.out⟩, ⟨by repeat (first | (with_reducible first | exact HB.out | apply below_alloc | apply pw_below_drewN | apply below_drew1 | refine below_set ?_ GE108.out | refine below_set ?_ GE110.out) | exact HB.out)⟩⟩
              · rw [if_neg c9] at H
                exact absurd H (by simp)
            · rw [if_neg c8] at H
              have c8b0 : decide (x3_2 < (l0_1.length : Int)) = false := decide_eq_false c8
              clear c8
              obtain rfl := Option.some.inj H
              have hcz54_0 : wr.cell? ⟨gb108, 0, none⟩ = some (.int .i64 a0_0) := (blk_cell BK108.out 0).trans rfl
              have hcz54_1 : wr.cell? ⟨gb108, 1, none⟩ = some (.slice A0_1 l0_1.length c0_1) := (blk_cell BK108.out 1).trans rfl
              have hfz54_0 := blk_frozen BK108.out 0
              have hfz54_1 := blk_frozen BK108.out 1
              go_wp2
              repeat (go_quiet (fail); try go_wp2)
              go_ret
              exact ⟨by first | rfl | (simp [errW_none, errW_some] <;> rfl) | (simp [*, errW_none, errW_some] <;> rfl), by repeat (first | (with_reducible first | exact HB.out | apply below_alloc | apply pw_below_drewN | apply below_drew1 | refine below_set ?_ GE108.out) | exact HB.out)⟩
end Go.Proofs.YtaeakifdamlnlaaDoor.PMarkTells
