/- What functions of the program compute, written down; read off their code. -/
import Derived.Test.YtkccnomdfkhfnaaGreatSEF
set_option linter.unusedSimpArgs false
set_option maxRecDepth 100000
set_option linter.unusedVariables false
namespace Go.Proofs.YtkccnomdfkhfnaaGreat
open Go.RowKit Go.Proofs.YtkccnomdfkhfnaaGreat.Ev
noncomputable def F3C : Con Tryz.prog := conD 3 F3A F3B F3.pre F3.fn F3ok (by kernel_rfl)
noncomputable def cfgL61 : List (Con Tryz.prog) := F3C :: cfgL60
noncomputable def cfg61 : Cfg := cfgOf cfgL61
theorem cfg61ok : CfgOk Tryz.prog cfg61 := cfgOf_ok cfgnamed cfgmixed _
/-! 52 veneer/veneerref1.Parse -/
def F52L0S : Shape := ⟨[(0, .v (.one .str)), (4, .v (.one (.int .i64)))], [], 0⟩
def F52L0S0 : Shape := ⟨[(2, .val .nils), (3, .v (.one (.int .i64)))], [], 0⟩
def F52L0S1 : Shape := ⟨[(0, .v (.one .str))], [], 0⟩
def F52L0X : List (Option Nat × Shape) := [(none, F52L0S0), (some 0, F52L0S1)]
noncomputable def F52L0 (x : List UInt8 × Int × Unit) : DT ((List UInt8 × Int × Unit) ⊕ ((Unit × Int × Unit) ⊕ (List UInt8 × Unit) ⊕ Empty)) :=
  .node [] (decide (x.2.1 < (Int.ofNat (List.length x.1))))
    (.node [0 ≤ x.2.1, x.2.1 < Int.ofNat (List.length x.1)] ((Int.ofNat (List.getD x.1 (Int.toNat x.2.1) 0).toNat) == (0 : Int))
      (.leaf [] (.inr (.inl ((), (1 : Int), ()))))
      (.leaf [] (.inl (x.1, (wrp .i64 (x.2.1 + (1 : Int))), ()))))
    (.leaf [] (.inr (.inr (.inl (x.1, ())))))
def F52L1S : Shape := ⟨[(0, .v (.one .str)), (5, .v (.one (.row (.one .str)))), (6, .v (.one (.int .i64))), (7, .v (.one (.int .i64)))], [], 0⟩
def F52L1S0 : Shape := ⟨[(2, .val .nils), (3, .v (.one (.int .i64)))], [], 0⟩
def F52L1S1 : Shape := ⟨[(5, .v (.one (.row (.one .str))))], [], 0⟩
def F52L1X : List (Option Nat × Shape) := [(none, F52L1S0), (some 2, F52L1S1)]
noncomputable def F52L1 (x : List UInt8 × List (List UInt8) × Int × Int × Unit) : DT ((List UInt8 × List (List UInt8) × Int × Int × Unit) ⊕ ((Unit × Int × Unit) ⊕ (List (List UInt8) × Unit) ⊕ Empty)) :=
  .node [] (decide (x.2.2.2.1 ≤ (Int.ofNat (List.length x.1))))
    (.node [] (decide (x.2.2.2.1 < (Int.ofNat (List.length x.1))))
      (.node [0 ≤ x.2.2.2.1, x.2.2.2.1 < Int.ofNat (List.length x.1)] ((Int.ofNat (List.getD x.1 (Int.toNat x.2.2.2.1) 0).toNat) != (47 : Int))
        (.leaf [] (.inl (x.1, x.2.1, x.2.2.1, (wrp .i64 (x.2.2.2.1 + (1 : Int))), ())))
        (.node [0 ≤ x.2.2.2.1, x.2.2.2.1 ≤ Int.ofNat (List.length x.1), 0 ≤ x.2.2.1, x.2.2.1 ≤ Int.ofNat (Int.toNat x.2.2.2.1)] ((List.drop (Int.toNat x.2.2.1) (List.take (Int.toNat x.2.2.2.1) x.1)) == (dec 0 0 []))
          (.leaf [] (.inl (x.1, x.2.1, (wrp .i64 (x.2.2.2.1 + (1 : Int))), (wrp .i64 (x.2.2.2.1 + (1 : Int))), ())))
          (.node [] ((List.drop (Int.toNat x.2.2.1) (List.take (Int.toNat x.2.2.2.1) x.1)) == (dec 1 46 []))
            (.leaf [] (.inl (x.1, x.2.1, (wrp .i64 (x.2.2.2.1 + (1 : Int))), (wrp .i64 (x.2.2.2.1 + (1 : Int))), ())))
            (.node [] ((List.drop (Int.toNat x.2.2.1) (List.take (Int.toNat x.2.2.2.1) x.1)) == (dec 2 11822 []))
              (.leaf [0 ≤ (mxI (wrp .i64 ((Int.ofNat (List.length x.2.1)) - (1 : Int))) (0 : Int)), (mxI (wrp .i64 ((Int.ofNat (List.length x.2.1)) - (1 : Int))) (0 : Int)) ≤ Int.ofNat (List.length x.2.1)] (.inl (x.1, (List.take (Int.toNat (mxI (wrp .i64 ((Int.ofNat (List.length x.2.1)) - (1 : Int))) (0 : Int))) x.2.1), (wrp .i64 (x.2.2.2.1 + (1 : Int))), (wrp .i64 (x.2.2.2.1 + (1 : Int))), ())))
              (.node [] (decide ((Int.ofNat (List.length (List.drop (Int.toNat x.2.2.1) (List.take (Int.toNat x.2.2.2.1) x.1)))) > (24 : Int)))
                (.leaf [] (.inr (.inl ((), (9 : Int), ()))))
                (.node [] (decide ((Int.ofNat (List.length x.2.1)) ≥ (16 : Int)))
                  (.leaf [] (.inr (.inl ((), (9 : Int), ()))))
                  (.leaf [(List.length (([] ++ x.2.1) ++ ((List.drop (Int.toNat x.2.2.1) (List.take (Int.toNat x.2.2.2.1) x.1)) :: []))) * 16 ≤ Room, (List.length ([] ++ x.2.1)) * 16 ≤ Room] (.inl (x.1, (([] ++ x.2.1) ++ ((List.drop (Int.toNat x.2.2.1) (List.take (Int.toNat x.2.2.2.1) x.1)) :: [])), (wrp .i64 (x.2.2.2.1 + (1 : Int))), (wrp .i64 (x.2.2.2.1 + (1 : Int))), ())))))))))
      (.node [0 ≤ x.2.2.2.1, x.2.2.2.1 ≤ Int.ofNat (List.length x.1), 0 ≤ x.2.2.1, x.2.2.1 ≤ Int.ofNat (Int.toNat x.2.2.2.1)] ((List.drop (Int.toNat x.2.2.1) (List.take (Int.toNat x.2.2.2.1) x.1)) == (dec 0 0 []))
        (.leaf [] (.inl (x.1, x.2.1, (wrp .i64 (x.2.2.2.1 + (1 : Int))), (wrp .i64 (x.2.2.2.1 + (1 : Int))), ())))
        (.node [] ((List.drop (Int.toNat x.2.2.1) (List.take (Int.toNat x.2.2.2.1) x.1)) == (dec 1 46 []))
          (.leaf [] (.inl (x.1, x.2.1, (wrp .i64 (x.2.2.2.1 + (1 : Int))), (wrp .i64 (x.2.2.2.1 + (1 : Int))), ())))
          (.node [] ((List.drop (Int.toNat x.2.2.1) (List.take (Int.toNat x.2.2.2.1) x.1)) == (dec 2 11822 []))
            (.leaf [0 ≤ (mxI (wrp .i64 ((Int.ofNat (List.length x.2.1)) - (1 : Int))) (0 : Int)), (mxI (wrp .i64 ((Int.ofNat (List.length x.2.1)) - (1 : Int))) (0 : Int)) ≤ Int.ofNat (List.length x.2.1)] (.inl (x.1, (List.take (Int.toNat (mxI (wrp .i64 ((Int.ofNat (List.length x.2.1)) - (1 : Int))) (0 : Int))) x.2.1), (wrp .i64 (x.2.2.2.1 + (1 : Int))), (wrp .i64 (x.2.2.2.1 + (1 : Int))), ())))
            (.node [] (decide ((Int.ofNat (List.length (List.drop (Int.toNat x.2.2.1) (List.take (Int.toNat x.2.2.2.1) x.1)))) > (24 : Int)))
              (.leaf [] (.inr (.inl ((), (9 : Int), ()))))
              (.node [] (decide ((Int.ofNat (List.length x.2.1)) ≥ (16 : Int)))
                (.leaf [] (.inr (.inl ((), (9 : Int), ()))))
                (.leaf [(List.length (([] ++ x.2.1) ++ ((List.drop (Int.toNat x.2.2.1) (List.take (Int.toNat x.2.2.2.1) x.1)) :: []))) * 16 ≤ Room, (List.length ([] ++ x.2.1)) * 16 ≤ Room] (.inl (x.1, (([] ++ x.2.1) ++ ((List.drop (Int.toNat x.2.2.1) (List.take (Int.toNat x.2.2.2.1) x.1)) :: [])), (wrp .i64 (x.2.2.2.1 + (1 : Int))), (wrp .i64 (x.2.2.2.1 + (1 : Int))), ())))))))))
    (.leaf [] (.inr (.inr (.inl (x.2.1, ())))))
noncomputable def F52 (x : List UInt8 × Unit) : DT (List (List UInt8) × Int × Unit) :=
  .node [] ((Int.ofNat (List.length x.1)) == (0 : Int))
    (.leaf [] ([], (1 : Int), ()))
    (.node [0 ≤ (0 : Int), (0 : Int) < Int.ofNat (List.length x.1)] ((Int.ofNat (List.getD x.1 (Int.toNat (0 : Int)) 0).toNat) != (47 : Int))
      (.leaf [] ([], (1 : Int), ()))
      (let y0 := loopOut F52L0 (x.1, (0 : Int), ())
      .node [loopInv F52L0 (x.1, (0 : Int), ())] (isL y0)
        (let y1 : Unit × Int × Unit := getL (Shape.z F52L0S0) y0
        .leaf [] ([], y1.2.1, ()))
        (let y1 : List UInt8 × Unit := getL (Shape.z F52L0S1) (restR y0)
        .node [] (decide ((Int.ofNat (List.length y1.1)) > (120 : Int)))
          (.leaf [] ([], (9 : Int), ()))
          (let y2 := loopOut F52L1 (y1.1, [], (1 : Int), (1 : Int), ())
          .node [loopInv F52L1 (y1.1, [], (1 : Int), (1 : Int), ())] (isL y2)
            (let y3 : Unit × Int × Unit := getL (Shape.z F52L1S0) y2
            .leaf [] ([], y3.2.1, ()))
            (let y3 : List (List UInt8) × Unit := getL (Shape.z F52L1S1) (restR y2)
            .leaf [] (y3.1, (0 : Int), ()))))))
abbrev F52A : List AT := [.v (.one .str)]
abbrev F52B : List AT := [.v (.one (.row (.one .str))), .v (.one (.int .i64))]
noncomputable def F52R : List (Nat × Rule) := [(0, ruleOf F52L0S F52L0X F52L0), (1, ruleOf F52L1S F52L1X F52L1)]
theorem F52L0is : ∀ x, DT.Is (runL Tryz.prog cfg61 1000 (lsOf F52R) 52 0 F52L0S F52L0X x) (F52L0 x) := fun x => by unfold DT.Is; kernel_rfl
theorem F52L1is : ∀ x, DT.Is (runL Tryz.prog cfg61 1000 (lsOf F52R) 52 1 F52L1S F52L1X x) (F52L1 x) := fun x => by unfold DT.Is; kernel_rfl
theorem F52is : ∀ x, DT.Is (runF Tryz.prog cfg61 1000 (lsOf F52R) 52 F52A F52B x) (F52 x) := fun x => by unfold DT.Is; kernel_rfl
noncomputable def F52.fn (x : List UInt8 × Unit) : List (List UInt8) × Int × Unit := (F52 x).fn
noncomputable def F52.pre (x : List UInt8 × Unit) : Prop := (F52 x).pre
theorem F52ok : DataOk Tryz.prog 52 F52A F52B F52.pre F52.fn := data_of_tree F52A F52B F52 cfg61ok (.of_all cfg61ok (.cons (rule_of_tree F52L0S F52L0X F52L0 (F52L0is)) (.cons (rule_of_tree F52L1S F52L1X F52L1 (F52L1is)) .nil))) F52is
noncomputable def F52C : Con Tryz.prog := conD 52 F52A F52B F52.pre F52.fn F52ok (by kernel_rfl)
noncomputable def cfgL62 : List (Con Tryz.prog) := F52C :: cfgL61
noncomputable def cfg62 : Cfg := cfgOf cfgL62
theorem cfg62ok : CfgOk Tryz.prog cfg62 := cfgOf_ok cfgnamed cfgmixed _
/-! 53 veneer/veneerref8.Two -/
noncomputable def F53 (x : (Int × List UInt8 × List UInt8 × Int × Int × Int × List (Int)) × Unit) : DT (Bool × Unit) :=
  .node [] (x.1.1 == (3 : Int))
    (.leaf [] (true, ()))
    (.leaf [] ((x.1.1 == (6 : Int)), ()))
abbrev F53A : List AT := [.v (.agg (.cons (.int .i64) (.cons .str (.cons .str (.cons (.int .i64) (.cons (.int .i64) Bk))))))]
abbrev F53B : List AT := [.v (.one .bool)]
theorem F53is : ∀ x, DT.Is (runF Tryz.prog cfg62 1000 noL 53 F53A F53B x) (F53 x) := fun x => by unfold DT.Is; kernel_rfl
noncomputable def F53.fn (x : (Int × List UInt8 × List UInt8 × Int × Int × Int × List (Int)) × Unit) : Bool × Unit := (F53 x).fn
noncomputable def F53.pre (x : (Int × List UInt8 × List UInt8 × Int × Int × Int × List (Int)) × Unit) : Prop := (F53 x).pre
theorem F53ok : DataOk Tryz.prog 53 F53A F53B F53.pre F53.fn := data_of_tree F53A F53B F53 cfg62ok FnLoops.none F53is
noncomputable def F53C : Con Tryz.prog := conD 53 F53A F53B F53.pre F53.fn F53ok (by kernel_rfl)
noncomputable def cfgL63 : List (Con Tryz.prog) := F53C :: cfgL62
noncomputable def cfg63 : Cfg := cfgOf cfgL63
theorem cfg63ok : CfgOk Tryz.prog cfg63 := cfgOf_ok cfgnamed cfgmixed _
/-! 54 veneer/veneerref8.Asks -/
noncomputable def F54 (x : (Int × List UInt8 × List UInt8 × Int × Int × Int × List (Int)) × Unit) : DT (Bool × Unit) :=
  .node [] (x.1.1 == (8 : Int))
    (.leaf [] (true, ()))
    (.node [] (x.1.1 == (11 : Int))
      (.leaf [] (true, ()))
      (.node [] (x.1.1 == (12 : Int))
        (.leaf [] (true, ()))
        (.leaf [] ((x.1.1 == (14 : Int)), ()))))
abbrev F54A : List AT := [.v (.agg (.cons (.int .i64) (.cons .str (.cons .str (.cons (.int .i64) (.cons (.int .i64) Bk))))))]
abbrev F54B : List AT := [.v (.one .bool)]
theorem F54is : ∀ x, DT.Is (runF Tryz.prog cfg63 1000 noL 54 F54A F54B x) (F54 x) := fun x => by unfold DT.Is; kernel_rfl
noncomputable def F54.fn (x : (Int × List UInt8 × List UInt8 × Int × Int × Int × List (Int)) × Unit) : Bool × Unit := (F54 x).fn
noncomputable def F54.pre (x : (Int × List UInt8 × List UInt8 × Int × Int × Int × List (Int)) × Unit) : Prop := (F54 x).pre
theorem F54ok : DataOk Tryz.prog 54 F54A F54B F54.pre F54.fn := data_of_tree F54A F54B F54 cfg63ok FnLoops.none F54is
noncomputable def F54C : Con Tryz.prog := conD 54 F54A F54B F54.pre F54.fn F54ok (by kernel_rfl)
noncomputable def cfgL64 : List (Con Tryz.prog) := F54C :: cfgL63
noncomputable def cfg64 : Cfg := cfgOf cfgL64
theorem cfg64ok : CfgOk Tryz.prog cfg64 := cfgOf_ok cfgnamed cfgmixed _
/-! 76 veneer/veneerref8.nul -/
def F76L0S : Shape := ⟨[(0, .v (.one .str)), (3, .v (.one (.int .i64)))], [], 0⟩
def F76L0S0 : Shape := ⟨[(2, .v (.one .bool))], [], 0⟩
def F76L0S1 : Shape := ⟨[], [], 0⟩
def F76L0X : List (Option Nat × Shape) := [(none, F76L0S0), (some 0, F76L0S1)]
noncomputable def F76L0 (x : List UInt8 × Int × Unit) : DT ((List UInt8 × Int × Unit) ⊕ ((Bool × Unit) ⊕ (Unit) ⊕ Empty)) :=
  .node [] (decide (x.2.1 < (Int.ofNat (List.length x.1))))
    (.node [0 ≤ x.2.1, x.2.1 < Int.ofNat (List.length x.1)] ((Int.ofNat (List.getD x.1 (Int.toNat x.2.1) 0).toNat) == (0 : Int))
      (.leaf [] (.inr (.inl (true, ()))))
      (.leaf [] (.inl (x.1, (wrp .i64 (x.2.1 + (1 : Int))), ()))))
    (.leaf [] (.inr (.inr (.inl ()))))
noncomputable def F76 (x : List UInt8 × Unit) : DT (Bool × Unit) :=
  let y0 := loopOut F76L0 (x.1, (0 : Int), ())
  .node [loopInv F76L0 (x.1, (0 : Int), ())] (isL y0)
    (let y1 : Bool × Unit := getL (Shape.z F76L0S0) y0
    .leaf [] (y1.1, ()))
    (let y1 : Unit := getL (Shape.z F76L0S1) (restR y0)
    .leaf [] (false, ()))
abbrev F76A : List AT := [.v (.one .str)]
abbrev F76B : List AT := [.v (.one .bool)]
noncomputable def F76R : List (Nat × Rule) := [(0, ruleOf F76L0S F76L0X F76L0)]
theorem F76L0is : ∀ x, DT.Is (runL Tryz.prog cfg64 1000 (lsOf F76R) 76 0 F76L0S F76L0X x) (F76L0 x) := fun x => by unfold DT.Is; kernel_rfl
theorem F76is : ∀ x, DT.Is (runF Tryz.prog cfg64 1000 (lsOf F76R) 76 F76A F76B x) (F76 x) := fun x => by unfold DT.Is; kernel_rfl
noncomputable def F76.fn (x : List UInt8 × Unit) : Bool × Unit := (F76 x).fn
noncomputable def F76.pre (x : List UInt8 × Unit) : Prop := (F76 x).pre
theorem F76ok : DataOk Tryz.prog 76 F76A F76B F76.pre F76.fn := data_of_tree F76A F76B F76 cfg64ok (.of_all cfg64ok (.cons (rule_of_tree F76L0S F76L0X F76L0 (F76L0is)) .nil)) F76is
noncomputable def F76C : Con Tryz.prog := conD 76 F76A F76B F76.pre F76.fn F76ok (by kernel_rfl)
noncomputable def cfgL65 : List (Con Tryz.prog) := F76C :: cfgL64
noncomputable def cfg65 : Cfg := cfgOf cfgL65
theorem cfg65ok : CfgOk Tryz.prog cfg65 := cfgOf_ok cfgnamed cfgmixed _
/-! 78 veneer/veneerref5.Node -/
def F78L0S : Shape := ⟨[(1, .v (.one (.row (.one .str)))), (2, .val (.ptr 0 0)), (4, .val (.ptr 1 0)), (6, .val (.ptr 2 0)), (8, .v (.one (.int .i64)))], [(0, 4, [.v (.one (.int .i64)), .v (.one (.int .i64)), .v (.one (.int .i64)), .v (.one (.row Nd))]), (1, 8, [.v (.one (.int .i64)), .v (.one (.int .i64)), .v (.one (.int .i64)), .v (.one (.int .i64)), .v (.one (.int .i64)), .val .nils, .v (.one .str), .val .nils]), (2, 8, [.v (.one (.int .i64)), .v (.one (.int .i64)), .v (.one (.int .i64)), .v (.one (.int .i64)), .v (.one (.int .i64)), .v (.one (.row Bk)), .v (.one .str), .v (.one (.row Nm))])], 3⟩
def F78L0S0 : Shape := ⟨[(4, .val (.ptr 1 0)), (5, .v (.one (.int .i64)))], [(1, 8, [.v (.one (.int .i64)), .v (.one (.int .i64)), .v (.one (.int .i64)), .v (.one (.int .i64)), .v (.one (.int .i64)), .val .nils, .v (.one .str), .val .nils])], 3⟩
def F78L0S1 : Shape := ⟨[(4, .val (.ptr 1 0)), (6, .val (.ptr 2 0))], [(1, 8, [.v (.one (.int .i64)), .v (.one (.int .i64)), .v (.one (.int .i64)), .v (.one (.int .i64)), .v (.one (.int .i64)), .val .nils, .v (.one .str), .val .nils]), (2, 8, [.v (.one (.int .i64)), .v (.one (.int .i64)), .v (.one (.int .i64)), .v (.one (.int .i64)), .v (.one (.int .i64)), .v (.one (.row Bk)), .v (.one .str), .v (.one (.row Nm))])], 3⟩
def F78L0X : List (Option Nat × Shape) := [(none, F78L0S0), (some 0, F78L0S1)]
noncomputable def F78L0 (x : List (List UInt8) × Unit × Unit × Unit × Int × Int × Int × Int × List Ndt × Int × Int × Int × Int × Int × Unit × List UInt8 × Unit × Int × Int × Int × Int × Int × List Bkt × List UInt8 × List Nmt × Unit) : DT ((List (List UInt8) × Unit × Unit × Unit × Int × Int × Int × Int × List Ndt × Int × Int × Int × Int × Int × Unit × List UInt8 × Unit × Int × Int × Int × Int × Int × List Bkt × List UInt8 × List Nmt × Unit) ⊕ ((Unit × Int × Int × Int × Int × Int × Int × Unit × List UInt8 × Unit × Unit) ⊕ (Unit × Unit × Int × Int × Int × Int × Int × Unit × List UInt8 × Unit × Int × Int × Int × Int × Int × List Bkt × List UInt8 × List Nmt × Unit) ⊕ Empty)) :=
  .node [] (decide (x.2.2.2.2.1 < (Int.ofNat (List.length x.1))))
    (.node [] (x.2.2.2.2.2.2.2.2.2.2.2.2.2.2.2.2.2.2.1 != (2 : Int))
      (.leaf [] (.inr (.inl ((), (4 : Int), (0 : Int), (0 : Int), (0 : Int), (0 : Int), (0 : Int), (), (dec 0 0 []), (), ()))))
      (let y0 := F49.fn ((x.2.2.2.2.2.2.2.2.2.2.2.2.2.2.2.2.2.1, (x.2.2.2.2.2.2.2.2.2.2.2.2.2.2.2.2.2.2.1, (x.2.2.2.2.2.2.2.2.2.2.2.2.2.2.2.2.2.2.2.1, (x.2.2.2.2.2.2.2.2.2.2.2.2.2.2.2.2.2.2.2.2.1, (x.2.2.2.2.2.2.2.2.2.2.2.2.2.2.2.2.2.2.2.2.2.1, (x.2.2.2.2.2.2.2.2.2.2.2.2.2.2.2.2.2.2.2.2.2.2.1, (x.2.2.2.2.2.2.2.2.2.2.2.2.2.2.2.2.2.2.2.2.2.2.2.1, x.2.2.2.2.2.2.2.2.2.2.2.2.2.2.2.2.2.2.2.2.2.2.2.2.1))))))), (@id (List UInt8) (xsAt (.one .str) x.1 (Int.toNat x.2.2.2.2.1))), ())
      .node [F49.pre ((x.2.2.2.2.2.2.2.2.2.2.2.2.2.2.2.2.2.1, (x.2.2.2.2.2.2.2.2.2.2.2.2.2.2.2.2.2.2.1, (x.2.2.2.2.2.2.2.2.2.2.2.2.2.2.2.2.2.2.2.1, (x.2.2.2.2.2.2.2.2.2.2.2.2.2.2.2.2.2.2.2.2.1, (x.2.2.2.2.2.2.2.2.2.2.2.2.2.2.2.2.2.2.2.2.2.1, (x.2.2.2.2.2.2.2.2.2.2.2.2.2.2.2.2.2.2.2.2.2.2.1, (x.2.2.2.2.2.2.2.2.2.2.2.2.2.2.2.2.2.2.2.2.2.2.2.1, x.2.2.2.2.2.2.2.2.2.2.2.2.2.2.2.2.2.2.2.2.2.2.2.2.1))))))), (@id (List UInt8) (xsAt (.one .str) x.1 (Int.toNat x.2.2.2.2.1))), ()), 0 ≤ x.2.2.2.2.1, x.2.2.2.2.1 < Int.ofNat (List.length x.1)] (!y0.2.1)
        (.leaf [] (.inr (.inl ((), (2 : Int), (0 : Int), (0 : Int), (0 : Int), (0 : Int), (0 : Int), (), (dec 0 0 []), (), ()))))
        (let y1 := F12.fn ((x.2.2.2.2.2.1, (x.2.2.2.2.2.2.1, (x.2.2.2.2.2.2.2.1, x.2.2.2.2.2.2.2.2.1))), y0.1, ())
        .leaf [F12.pre ((x.2.2.2.2.2.1, (x.2.2.2.2.2.2.1, (x.2.2.2.2.2.2.2.1, x.2.2.2.2.2.2.2.2.1))), y0.1, ())] (.inl (x.1, (), (), (), (wrp .i64 (x.2.2.2.2.1 + (1 : Int))), x.2.2.2.2.2.1, x.2.2.2.2.2.2.1, x.2.2.2.2.2.2.2.1, x.2.2.2.2.2.2.2.2.1, x.2.2.2.2.2.2.2.2.2.1, x.2.2.2.2.2.2.2.2.2.2.1, x.2.2.2.2.2.2.2.2.2.2.2.1, x.2.2.2.2.2.2.2.2.2.2.2.2.1, x.2.2.2.2.2.2.2.2.2.2.2.2.2.1, (), x.2.2.2.2.2.2.2.2.2.2.2.2.2.2.2.1, (), y1.1.1, y1.1.2.1, y1.1.2.2.1, y1.1.2.2.2.1, y1.1.2.2.2.2.1, y1.1.2.2.2.2.2.1, y1.1.2.2.2.2.2.2.1, y1.1.2.2.2.2.2.2.2, ())))))
    (.leaf [] (.inr (.inr (.inl ((), (), x.2.2.2.2.2.2.2.2.2.1, x.2.2.2.2.2.2.2.2.2.2.1, x.2.2.2.2.2.2.2.2.2.2.2.1, x.2.2.2.2.2.2.2.2.2.2.2.2.1, x.2.2.2.2.2.2.2.2.2.2.2.2.2.1, (), x.2.2.2.2.2.2.2.2.2.2.2.2.2.2.2.1, (), x.2.2.2.2.2.2.2.2.2.2.2.2.2.2.2.2.2.1, x.2.2.2.2.2.2.2.2.2.2.2.2.2.2.2.2.2.2.1, x.2.2.2.2.2.2.2.2.2.2.2.2.2.2.2.2.2.2.2.1, x.2.2.2.2.2.2.2.2.2.2.2.2.2.2.2.2.2.2.2.2.1, x.2.2.2.2.2.2.2.2.2.2.2.2.2.2.2.2.2.2.2.2.2.1, x.2.2.2.2.2.2.2.2.2.2.2.2.2.2.2.2.2.2.2.2.2.2.1, x.2.2.2.2.2.2.2.2.2.2.2.2.2.2.2.2.2.2.2.2.2.2.2.1, x.2.2.2.2.2.2.2.2.2.2.2.2.2.2.2.2.2.2.2.2.2.2.2.2.1, ())))))
noncomputable def F78 (x : Dkt × List (List UInt8) × Unit) : DT (Ndt × Int × Unit) :=
  let y0 := F12.fn (x.1, (1 : Int), ())
  let y1 := loopOut F78L0 (x.2.1, (), (), (), (0 : Int), x.1.1, x.1.2.1, x.1.2.2.1, x.1.2.2.2, (0 : Int), (0 : Int), (0 : Int), (0 : Int), (0 : Int), (), (dec 0 0 []), (), y0.1.1, y0.1.2.1, y0.1.2.2.1, y0.1.2.2.2.1, y0.1.2.2.2.2.1, y0.1.2.2.2.2.2.1, y0.1.2.2.2.2.2.2.1, y0.1.2.2.2.2.2.2.2, ())
  .node [loopInv F78L0 (x.2.1, (), (), (), (0 : Int), x.1.1, x.1.2.1, x.1.2.2.1, x.1.2.2.2, (0 : Int), (0 : Int), (0 : Int), (0 : Int), (0 : Int), (), (dec 0 0 []), (), y0.1.1, y0.1.2.1, y0.1.2.2.1, y0.1.2.2.2.1, y0.1.2.2.2.2.1, y0.1.2.2.2.2.2.1, y0.1.2.2.2.2.2.2.1, y0.1.2.2.2.2.2.2.2, ()), F12.pre (x.1, (1 : Int), ())] (isL y1)
    (let y2 : Unit × Int × Int × Int × Int × Int × Int × Unit × List UInt8 × Unit × Unit := getL (Shape.z F78L0S0) y1
    .leaf [] ((y2.2.2.1, (y2.2.2.2.1, (y2.2.2.2.2.1, (y2.2.2.2.2.2.1, (y2.2.2.2.2.2.2.1, ([], (y2.2.2.2.2.2.2.2.2.1, []))))))), y2.2.1, ()))
    (let y2 : Unit × Unit × Int × Int × Int × Int × Int × Unit × List UInt8 × Unit × Int × Int × Int × Int × Int × List Bkt × List UInt8 × List Nmt × Unit := getL (Shape.z F78L0S1) (restR y1)
    .leaf [] ((y2.2.2.2.2.2.2.2.2.2.2.1, (y2.2.2.2.2.2.2.2.2.2.2.2.1, (y2.2.2.2.2.2.2.2.2.2.2.2.2.1, (y2.2.2.2.2.2.2.2.2.2.2.2.2.2.1, (y2.2.2.2.2.2.2.2.2.2.2.2.2.2.2.1, (y2.2.2.2.2.2.2.2.2.2.2.2.2.2.2.2.1, (y2.2.2.2.2.2.2.2.2.2.2.2.2.2.2.2.2.1, y2.2.2.2.2.2.2.2.2.2.2.2.2.2.2.2.2.2.1))))))), (0 : Int), ()))
abbrev F78A : List AT := [.v (.agg Dk), .v (.one (.row (.one .str)))]
abbrev F78B : List AT := [.v (.agg Nd), .v (.one (.int .i64))]
noncomputable def F78R : List (Nat × Rule) := [(0, ruleOf F78L0S F78L0X F78L0)]
theorem F78L0is : ∀ x, DT.Is (runL Tryz.prog cfg65 1000 (lsOf F78R) 78 0 F78L0S F78L0X x) (F78L0 x) := fun x => by unfold DT.Is; kernel_rfl
theorem F78is : ∀ x, DT.Is (runF Tryz.prog cfg65 1000 (lsOf F78R) 78 F78A F78B x) (F78 x) := fun x => by unfold DT.Is; kernel_rfl
noncomputable def F78.fn (x : Dkt × List (List UInt8) × Unit) : Ndt × Int × Unit := (F78 x).fn
noncomputable def F78.pre (x : Dkt × List (List UInt8) × Unit) : Prop := (F78 x).pre
theorem F78ok : DataOk Tryz.prog 78 F78A F78B F78.pre F78.fn := data_of_tree F78A F78B F78 cfg65ok (.of_all cfg65ok (.cons (rule_of_tree F78L0S F78L0X F78L0 (F78L0is)) .nil)) F78is
noncomputable def F78C : Con Tryz.prog := conD 78 F78A F78B F78.pre F78.fn F78ok (by kernel_rfl)
noncomputable def cfgL66 : List (Con Tryz.prog) := F78C :: cfgL65
noncomputable def cfg66 : Cfg := cfgOf cfgL66
theorem cfg66ok : CfgOk Tryz.prog cfg66 := cfgOf_ok cfgnamed cfgmixed _
/-! 77 veneer/veneerref5.Up -/
noncomputable def F77 (x : Dkt × List (List UInt8) × Unit) : DT (Ndt × List UInt8 × Int × Unit) :=
  let y0 := F78.fn (x.1, (List.take (Int.toNat (wrp .i64 ((Int.ofNat (List.length x.2.1)) - (1 : Int)))) x.2.1), ())
  .node [F78.pre (x.1, (List.take (Int.toNat (wrp .i64 ((Int.ofNat (List.length x.2.1)) - (1 : Int)))) x.2.1), ()), 0 ≤ (wrp .i64 ((Int.ofNat (List.length x.2.1)) - (1 : Int))), (wrp .i64 ((Int.ofNat (List.length x.2.1)) - (1 : Int))) ≤ Int.ofNat (List.length x.2.1)] (y0.2.1 != (0 : Int))
    (.leaf [] (((0 : Int), ((0 : Int), ((0 : Int), ((0 : Int), ((0 : Int), ([], ((dec 0 0 []), []))))))), (dec 0 0 []), y0.2.1, ()))
    (.node [] (y0.1.2.1 != (2 : Int))
      (.leaf [] (((0 : Int), ((0 : Int), ((0 : Int), ((0 : Int), ((0 : Int), ([], ((dec 0 0 []), []))))))), (dec 0 0 []), (4 : Int), ()))
      (.leaf [(let r : List AV := [.x (.s (@id (List UInt8) (xsAt (.one .str) x.2.1 (Int.toNat (wrp .i64 ((Int.ofNat (List.length x.2.1)) - (1 : Int)))))))]; r = r), 0 ≤ (wrp .i64 ((Int.ofNat (List.length x.2.1)) - (1 : Int))), (wrp .i64 ((Int.ofNat (List.length x.2.1)) - (1 : Int))) < Int.ofNat (List.length x.2.1)] (y0.1, (@id (List UInt8) (xsAt (.one .str) x.2.1 (Int.toNat (wrp .i64 ((Int.ofNat (List.length x.2.1)) - (1 : Int)))))), (0 : Int), ())))
abbrev F77A : List AT := [.v (.agg Dk), .v (.one (.row (.one .str)))]
abbrev F77B : List AT := [.v (.agg Nd), .v (.one .str), .v (.one (.int .i64))]
theorem F77is : ∀ x, DT.Is (runF Tryz.prog cfg66 1000 noL 77 F77A F77B x) (F77 x) := fun x => by unfold DT.Is; kernel_rfl
noncomputable def F77.fn (x : Dkt × List (List UInt8) × Unit) : Ndt × List UInt8 × Int × Unit := (F77 x).fn
noncomputable def F77.pre (x : Dkt × List (List UInt8) × Unit) : Prop := (F77 x).pre
theorem F77ok : DataOk Tryz.prog 77 F77A F77B F77.pre F77.fn := data_of_tree F77A F77B F77 cfg66ok FnLoops.none F77is
noncomputable def F77C : Con Tryz.prog := conD 77 F77A F77B F77.pre F77.fn F77ok (by kernel_rfl)
noncomputable def cfgL67 : List (Con Tryz.prog) := F77C :: cfgL66
noncomputable def cfg67 : Cfg := cfgOf cfgL67
theorem cfg67ok : CfgOk Tryz.prog cfg67 := cfgOf_ok cfgnamed cfgmixed _
/-! 30 veneer/veneerref6.had -/
noncomputable def F30 (x : Dkt × Int × List UInt8 × Unit) : DT (Int × Bool × Unit) :=
  let y0 := F12.fn (x.1, x.2.1, ())
  let y1 := F49.fn (y0.1, x.2.2.1, ())
  .leaf [F49.pre (y0.1, x.2.2.1, ()), F12.pre (x.1, x.2.1, ())] (y1.1, y1.2.1, ())
abbrev F30A : List AT := [.v (.agg Dk), .v (.one (.int .i64)), .v (.one .str)]
abbrev F30B : List AT := [.v (.one (.int .i64)), .v (.one .bool)]
theorem F30is : ∀ x, DT.Is (runF Tryz.prog cfg67 1000 noL 30 F30A F30B x) (F30 x) := fun x => by unfold DT.Is; kernel_rfl
noncomputable def F30.fn (x : Dkt × Int × List UInt8 × Unit) : Int × Bool × Unit := (F30 x).fn
noncomputable def F30.pre (x : Dkt × Int × List UInt8 × Unit) : Prop := (F30 x).pre
theorem F30ok : DataOk Tryz.prog 30 F30A F30B F30.pre F30.fn := data_of_tree F30A F30B F30 cfg67ok FnLoops.none F30is
noncomputable def F30C : Con Tryz.prog := conD 30 F30A F30B F30.pre F30.fn F30ok (by kernel_rfl)
noncomputable def cfgL68 : List (Con Tryz.prog) := F30C :: cfgL67
noncomputable def cfg68 : Cfg := cfgOf cfgL68
theorem cfg68ok : CfgOk Tryz.prog cfg68 := cfgOf_ok cfgnamed cfgmixed _
/-! 60 veneer/veneerref3.Drop -/
def F60L0S : Shape := ⟨[(1, .v (.one (.int .i64))), (2, .val (.ptr 0 0)), (4, .val (.ptr 1 0)), (5, .own Nd), (6, .v (.one (.int .i64)))], [(0, 4, [.v (.one (.int .i64)), .v (.one (.int .i64)), .v (.one (.int .i64)), .v (.one (.row Nd))]), (1, 4, [.v (.one (.int .i64)), .v (.one (.int .i64)), .v (.one (.int .i64)), .val .nils])], 2⟩
def F60L0S0 : Shape := ⟨[(2, .val (.ptr 0 0)), (4, .val (.ptr 1 0)), (5, .own Nd)], [(0, 4, [.v (.one (.int .i64)), .v (.one (.int .i64)), .v (.one (.int .i64)), .v (.one (.row Nd))]), (1, 4, [.v (.one (.int .i64)), .v (.one (.int .i64)), .v (.one (.int .i64)), .val .nils])], 2⟩
def F60L0X : List (Option Nat × Shape) := [(some 0, F60L0S0)]
noncomputable def F60L0 (x : Int × Unit × Unit × List Ndt × Int × Int × Int × Int × List Ndt × Int × Int × Int × Unit × Unit) : DT ((Int × Unit × Unit × List Ndt × Int × Int × Int × Int × List Ndt × Int × Int × Int × Unit × Unit) ⊕ ((Unit × Unit × List Ndt × Int × Int × Int × List Ndt × Int × Int × Int × Unit × Unit) ⊕ Empty)) :=
  .node [] (decide (x.2.2.2.2.1 < (Int.ofNat (List.length x.2.2.2.2.2.2.2.2.1))))
    (.node [0 ≤ x.2.2.2.2.1, x.2.2.2.2.1 < Int.ofNat (List.length x.2.2.2.2.2.2.2.2.1)] ((@id (Ndt) (xsAt Nd x.2.2.2.2.2.2.2.2.1 (Int.toNat x.2.2.2.2.1))).1 != x.1)
      (.leaf [(List.length (x.2.2.2.1 ++ ((@id (Ndt) (xsAt Nd x.2.2.2.2.2.2.2.2.1 (Int.toNat x.2.2.2.2.1))) :: []))) * 104 ≤ Room, 0 ≤ x.2.2.2.2.1, x.2.2.2.2.1 < Int.ofNat (List.length x.2.2.2.2.2.2.2.2.1)] (.inl (x.1, (), (), (x.2.2.2.1 ++ ((@id (Ndt) (xsAt Nd x.2.2.2.2.2.2.2.2.1 (Int.toNat x.2.2.2.2.1))) :: [])), (wrp .i64 (x.2.2.2.2.1 + (1 : Int))), x.2.2.2.2.2.1, x.2.2.2.2.2.2.1, x.2.2.2.2.2.2.2.1, x.2.2.2.2.2.2.2.2.1, x.2.2.2.2.2.2.2.2.2.1, x.2.2.2.2.2.2.2.2.2.2.1, x.2.2.2.2.2.2.2.2.2.2.2.1, (), ())))
      (.leaf [] (.inl (x.1, (), (), x.2.2.2.1, (wrp .i64 (x.2.2.2.2.1 + (1 : Int))), x.2.2.2.2.2.1, x.2.2.2.2.2.2.1, x.2.2.2.2.2.2.2.1, x.2.2.2.2.2.2.2.2.1, x.2.2.2.2.2.2.2.2.2.1, x.2.2.2.2.2.2.2.2.2.2.1, x.2.2.2.2.2.2.2.2.2.2.2.1, (), ()))))
    (.leaf [] (.inr (.inl ((), (), x.2.2.2.1, x.2.2.2.2.2.1, x.2.2.2.2.2.2.1, x.2.2.2.2.2.2.2.1, x.2.2.2.2.2.2.2.2.1, x.2.2.2.2.2.2.2.2.2.1, x.2.2.2.2.2.2.2.2.2.2.1, x.2.2.2.2.2.2.2.2.2.2.2.1, (), ()))))
noncomputable def F60 (x : Dkt × Int × Unit) : DT (Dkt × Unit) :=
  let y0 := loopOut F60L0 (x.2.1, (), (), [], (0 : Int), x.1.1, x.1.2.1, x.1.2.2.1, x.1.2.2.2, (0 : Int), (0 : Int), (0 : Int), (), ())
  let y1 : Unit × Unit × List Ndt × Int × Int × Int × List Ndt × Int × Int × Int × Unit × Unit := getL (Shape.z F60L0S0) y0
  .leaf [loopInv F60L0 (x.2.1, (), (), [], (0 : Int), x.1.1, x.1.2.1, x.1.2.2.1, x.1.2.2.2, (0 : Int), (0 : Int), (0 : Int), (), ())] ((y1.2.2.2.1, (y1.2.2.2.2.1, (y1.2.2.2.2.2.1, y1.2.2.1))), ())
abbrev F60A : List AT := [.v (.agg Dk), .v (.one (.int .i64))]
abbrev F60B : List AT := [.v (.agg Dk)]
noncomputable def F60R : List (Nat × Rule) := [(0, ruleOf F60L0S F60L0X F60L0)]
theorem F60L0is : ∀ x, DT.Is (runL Tryz.prog cfg68 1000 (lsOf F60R) 60 0 F60L0S F60L0X x) (F60L0 x) := fun x => by unfold DT.Is; kernel_rfl
theorem F60is : ∀ x, DT.Is (runF Tryz.prog cfg68 1000 (lsOf F60R) 60 F60A F60B x) (F60 x) := fun x => by unfold DT.Is; kernel_rfl
noncomputable def F60.fn (x : Dkt × Int × Unit) : Dkt × Unit := (F60 x).fn
noncomputable def F60.pre (x : Dkt × Int × Unit) : Prop := (F60 x).pre
theorem F60ok : DataOk Tryz.prog 60 F60A F60B F60.pre F60.fn := data_of_tree F60A F60B F60 cfg68ok (.of_all cfg68ok (.cons (rule_of_tree F60L0S F60L0X F60L0 (F60L0is)) .nil)) F60is
noncomputable def F60C : Con Tryz.prog := conD 60 F60A F60B F60.pre F60.fn F60ok (by kernel_rfl)
noncomputable def cfgL69 : List (Con Tryz.prog) := F60C :: cfgL68
noncomputable def cfg69 : Cfg := cfgOf cfgL69
theorem cfg69ok : CfgOk Tryz.prog cfg69 := cfgOf_ok cfgnamed cfgmixed _
/-! 32 veneer/veneerref3.Put -/
def F32L0S : Shape := ⟨[(2, .val (.ptr 0 0)), (3, .val (.ptr 1 0)), (4, .val (.ptr 2 0)), (5, .v (.one (.int .i64)))], [(0, 4, [.v (.one (.int .i64)), .v (.one (.int .i64)), .v (.one (.int .i64)), .v (.one (.row Nd))]), (1, 8, [.v (.one (.int .i64)), .v (.one (.int .i64)), .v (.one (.int .i64)), .v (.one (.int .i64)), .v (.one (.int .i64)), .v (.one (.row Bk)), .v (.one .str), .v (.one (.row Nm))]), (2, 4, [.v (.one (.int .i64)), .v (.one (.int .i64)), .v (.one (.int .i64)), .val .nils])], 3⟩
def F32L0S0 : Shape := ⟨[(2, .val (.ptr 0 0)), (3, .val (.ptr 1 0)), (4, .val (.ptr 2 0)), (5, .v (.one (.int .i64)))], [(0, 4, [.v (.one (.int .i64)), .v (.one (.int .i64)), .v (.one (.int .i64)), .v (.one (.row Nd))]), (1, 8, [.v (.one (.int .i64)), .v (.one (.int .i64)), .v (.one (.int .i64)), .v (.one (.int .i64)), .v (.one (.int .i64)), .v (.one (.row Bk)), .v (.one .str), .v (.one (.row Nm))]), (2, 4, [.v (.one (.int .i64)), .v (.one (.int .i64)), .v (.one (.int .i64)), .val .nils])], 3⟩
def F32L0X : List (Option Nat × Shape) := [(some 0, F32L0S0)]
noncomputable def F32L0 (x : Unit × Unit × Unit × Int × Int × Int × Int × List Ndt × Int × Int × Int × Int × Int × List Bkt × List UInt8 × List Nmt × Int × Int × Int × Unit × Unit) : DT ((Unit × Unit × Unit × Int × Int × Int × Int × List Ndt × Int × Int × Int × Int × Int × List Bkt × List UInt8 × List Nmt × Int × Int × Int × Unit × Unit) ⊕ ((Unit × Unit × Unit × Int × Int × Int × Int × List Ndt × Int × Int × Int × Int × Int × List Bkt × List UInt8 × List Nmt × Int × Int × Int × Unit × Unit) ⊕ Empty)) :=
  .node [] (decide (x.2.2.2.1 < (Int.ofNat (List.length x.2.2.2.2.2.2.2.1))))
    (.node [0 ≤ x.2.2.2.1, x.2.2.2.1 < Int.ofNat (List.length x.2.2.2.2.2.2.2.1)] (decide ((@id (Ndt) (xsAt Nd x.2.2.2.2.2.2.2.1 (Int.toNat x.2.2.2.1))).1 < x.2.2.2.2.2.2.2.2.1))
      (.leaf [] (.inl ((), (), (), (wrp .i64 (x.2.2.2.1 + (1 : Int))), x.2.2.2.2.1, x.2.2.2.2.2.1, x.2.2.2.2.2.2.1, x.2.2.2.2.2.2.2.1, x.2.2.2.2.2.2.2.2.1, x.2.2.2.2.2.2.2.2.2.1, x.2.2.2.2.2.2.2.2.2.2.1, x.2.2.2.2.2.2.2.2.2.2.2.1, x.2.2.2.2.2.2.2.2.2.2.2.2.1, x.2.2.2.2.2.2.2.2.2.2.2.2.2.1, x.2.2.2.2.2.2.2.2.2.2.2.2.2.2.1, x.2.2.2.2.2.2.2.2.2.2.2.2.2.2.2.1, x.2.2.2.2.2.2.2.2.2.2.2.2.2.2.2.2.1, x.2.2.2.2.2.2.2.2.2.2.2.2.2.2.2.2.2.1, x.2.2.2.2.2.2.2.2.2.2.2.2.2.2.2.2.2.2.1, (), ())))
      (.leaf [] (.inr (.inl ((), (), (), x.2.2.2.1, x.2.2.2.2.1, x.2.2.2.2.2.1, x.2.2.2.2.2.2.1, x.2.2.2.2.2.2.2.1, x.2.2.2.2.2.2.2.2.1, x.2.2.2.2.2.2.2.2.2.1, x.2.2.2.2.2.2.2.2.2.2.1, x.2.2.2.2.2.2.2.2.2.2.2.1, x.2.2.2.2.2.2.2.2.2.2.2.2.1, x.2.2.2.2.2.2.2.2.2.2.2.2.2.1, x.2.2.2.2.2.2.2.2.2.2.2.2.2.2.1, x.2.2.2.2.2.2.2.2.2.2.2.2.2.2.2.1, x.2.2.2.2.2.2.2.2.2.2.2.2.2.2.2.2.1, x.2.2.2.2.2.2.2.2.2.2.2.2.2.2.2.2.2.1, x.2.2.2.2.2.2.2.2.2.2.2.2.2.2.2.2.2.2.1, (), ())))))
    (.leaf [] (.inr (.inl ((), (), (), x.2.2.2.1, x.2.2.2.2.1, x.2.2.2.2.2.1, x.2.2.2.2.2.2.1, x.2.2.2.2.2.2.2.1, x.2.2.2.2.2.2.2.2.1, x.2.2.2.2.2.2.2.2.2.1, x.2.2.2.2.2.2.2.2.2.2.1, x.2.2.2.2.2.2.2.2.2.2.2.1, x.2.2.2.2.2.2.2.2.2.2.2.2.1, x.2.2.2.2.2.2.2.2.2.2.2.2.2.1, x.2.2.2.2.2.2.2.2.2.2.2.2.2.2.1, x.2.2.2.2.2.2.2.2.2.2.2.2.2.2.2.1, x.2.2.2.2.2.2.2.2.2.2.2.2.2.2.2.2.1, x.2.2.2.2.2.2.2.2.2.2.2.2.2.2.2.2.2.1, x.2.2.2.2.2.2.2.2.2.2.2.2.2.2.2.2.2.2.1, (), ()))))
noncomputable def F32 (x : Dkt × Ndt × Unit) : DT (Dkt × Unit) :=
  let y0 := F60.fn (x.1, x.2.1.1, ())
  let y1 := loopOut F32L0 ((), (), (), (0 : Int), y0.1.1, y0.1.2.1, y0.1.2.2.1, y0.1.2.2.2, x.2.1.1, x.2.1.2.1, x.2.1.2.2.1, x.2.1.2.2.2.1, x.2.1.2.2.2.2.1, x.2.1.2.2.2.2.2.1, x.2.1.2.2.2.2.2.2.1, x.2.1.2.2.2.2.2.2.2, (0 : Int), (0 : Int), (0 : Int), (), ())
  let y2 : Unit × Unit × Unit × Int × Int × Int × Int × List Ndt × Int × Int × Int × Int × Int × List Bkt × List UInt8 × List Nmt × Int × Int × Int × Unit × Unit := getL (Shape.z F32L0S0) y1
  let y3 := F28.fn ((y2.2.2.2.2.2.2.2.2.1, (y2.2.2.2.2.2.2.2.2.2.1, (y2.2.2.2.2.2.2.2.2.2.2.1, (y2.2.2.2.2.2.2.2.2.2.2.2.1, (y2.2.2.2.2.2.2.2.2.2.2.2.2.1, (y2.2.2.2.2.2.2.2.2.2.2.2.2.2.1, (y2.2.2.2.2.2.2.2.2.2.2.2.2.2.2.1, y2.2.2.2.2.2.2.2.2.2.2.2.2.2.2.2.1))))))), ())
  .leaf [(List.length ((([] ++ (List.take (Int.toNat y2.2.2.2.1) y2.2.2.2.2.2.2.2.1)) ++ (y3.1 :: [])) ++ (List.drop (Int.toNat y2.2.2.2.1) y2.2.2.2.2.2.2.2.1))) * 104 ≤ Room, 0 ≤ y2.2.2.2.1, y2.2.2.2.1 ≤ Int.ofNat (List.length y2.2.2.2.2.2.2.2.1), (List.length (([] ++ (List.take (Int.toNat y2.2.2.2.1) y2.2.2.2.2.2.2.2.1)) ++ (y3.1 :: []))) * 104 ≤ Room, F28.pre ((y2.2.2.2.2.2.2.2.2.1, (y2.2.2.2.2.2.2.2.2.2.1, (y2.2.2.2.2.2.2.2.2.2.2.1, (y2.2.2.2.2.2.2.2.2.2.2.2.1, (y2.2.2.2.2.2.2.2.2.2.2.2.2.1, (y2.2.2.2.2.2.2.2.2.2.2.2.2.2.1, (y2.2.2.2.2.2.2.2.2.2.2.2.2.2.2.1, y2.2.2.2.2.2.2.2.2.2.2.2.2.2.2.2.1))))))), ()), (List.length ([] ++ (List.take (Int.toNat y2.2.2.2.1) y2.2.2.2.2.2.2.2.1))) * 104 ≤ Room, (let r : List AV := [.agg [.x (.i .i64 y2.2.2.2.2.2.2.2.2.1), .x (.i .i64 y2.2.2.2.2.2.2.2.2.2.1), .x (.i .i64 y2.2.2.2.2.2.2.2.2.2.2.1), .x (.i .i64 y2.2.2.2.2.2.2.2.2.2.2.2.1), .x (.i .i64 y2.2.2.2.2.2.2.2.2.2.2.2.2.1), .x (.row Bk y2.2.2.2.2.2.2.2.2.2.2.2.2.2.1), .x (.s y2.2.2.2.2.2.2.2.2.2.2.2.2.2.2.1), .x (.row Nm y2.2.2.2.2.2.2.2.2.2.2.2.2.2.2.2.1)]]; r = r), (let r : List AV := [.x (.i .i64 y3.1.1), .x (.i .i64 y3.1.2.1), .x (.i .i64 y3.1.2.2.1), .x (.i .i64 y3.1.2.2.2.1), .x (.i .i64 y3.1.2.2.2.2.1), .x (.row Bk y3.1.2.2.2.2.2.1), .x (.s y3.1.2.2.2.2.2.2.1), .x (.row Nm y3.1.2.2.2.2.2.2.2)]; r = r), 0 ≤ y2.2.2.2.1, y2.2.2.2.1 ≤ Int.ofNat (List.length y2.2.2.2.2.2.2.2.1), loopInv F32L0 ((), (), (), (0 : Int), y0.1.1, y0.1.2.1, y0.1.2.2.1, y0.1.2.2.2, x.2.1.1, x.2.1.2.1, x.2.1.2.2.1, x.2.1.2.2.2.1, x.2.1.2.2.2.2.1, x.2.1.2.2.2.2.2.1, x.2.1.2.2.2.2.2.2.1, x.2.1.2.2.2.2.2.2.2, (0 : Int), (0 : Int), (0 : Int), (), ()), F60.pre (x.1, x.2.1.1, ())] ((y2.2.2.2.2.1, (y2.2.2.2.2.2.1, (y2.2.2.2.2.2.2.1, ((([] ++ (List.take (Int.toNat y2.2.2.2.1) y2.2.2.2.2.2.2.2.1)) ++ (y3.1 :: [])) ++ (List.drop (Int.toNat y2.2.2.2.1) y2.2.2.2.2.2.2.2.1))))), ())
abbrev F32A : List AT := [.v (.agg Dk), .v (.agg Nd)]
abbrev F32B : List AT := [.v (.agg Dk)]
noncomputable def F32R : List (Nat × Rule) := [(0, ruleOf F32L0S F32L0X F32L0)]
theorem F32L0is : ∀ x, DT.Is (runL Tryz.prog cfg69 1000 (lsOf F32R) 32 0 F32L0S F32L0X x) (F32L0 x) := fun x => by unfold DT.Is; kernel_rfl
theorem F32is : ∀ x, DT.Is (runF Tryz.prog cfg69 1000 (lsOf F32R) 32 F32A F32B x) (F32 x) := fun x => by unfold DT.Is; kernel_rfl
noncomputable def F32.fn (x : Dkt × Ndt × Unit) : Dkt × Unit := (F32 x).fn
noncomputable def F32.pre (x : Dkt × Ndt × Unit) : Prop := (F32 x).pre
theorem F32ok : DataOk Tryz.prog 32 F32A F32B F32.pre F32.fn := data_of_tree F32A F32B F32 cfg69ok (.of_all cfg69ok (.cons (rule_of_tree F32L0S F32L0X F32L0 (F32L0is)) .nil)) F32is
noncomputable def F32C : Con Tryz.prog := conD 32 F32A F32B F32.pre F32.fn F32ok (by kernel_rfl)
noncomputable def cfgL70 : List (Con Tryz.prog) := F32C :: cfgL69
noncomputable def cfg70 : Cfg := cfgOf cfgL70
theorem cfg70ok : CfgOk Tryz.prog cfg70 := cfgOf_ok cfgnamed cfgmixed _
/-! 90 veneer/veneerref5.Without -/
def F90L0S : Shape := ⟨[(1, .v (.one .str)), (2, .val (.ptr 0 0)), (4, .val (.ptr 1 0)), (5, .own Nm), (6, .v (.one (.int .i64)))], [(0, 8, [.v (.one (.int .i64)), .v (.one (.int .i64)), .v (.one (.int .i64)), .v (.one (.int .i64)), .v (.one (.int .i64)), .v (.one (.row Bk)), .v (.one .str), .v (.one (.row Nm))]), (1, 8, [.v (.one (.int .i64)), .v (.one (.int .i64)), .v (.one (.int .i64)), .v (.one (.int .i64)), .v (.one (.int .i64)), .val .nils, .v (.one .str), .val .nils])], 2⟩
def F90L0S0 : Shape := ⟨[(2, .val (.ptr 0 0)), (4, .val (.ptr 1 0)), (5, .own Nm)], [(0, 8, [.v (.one (.int .i64)), .v (.one (.int .i64)), .v (.one (.int .i64)), .v (.one (.int .i64)), .v (.one (.int .i64)), .v (.one (.row Bk)), .v (.one .str), .v (.one (.row Nm))]), (1, 8, [.v (.one (.int .i64)), .v (.one (.int .i64)), .v (.one (.int .i64)), .v (.one (.int .i64)), .v (.one (.int .i64)), .val .nils, .v (.one .str), .val .nils])], 2⟩
def F90L0X : List (Option Nat × Shape) := [(some 0, F90L0S0)]
noncomputable def F90L0 (x : List UInt8 × Unit × Unit × List Nmt × Int × Int × Int × Int × Int × Int × List Bkt × List UInt8 × List Nmt × Int × Int × Int × Int × Int × Unit × List UInt8 × Unit × Unit) : DT ((List UInt8 × Unit × Unit × List Nmt × Int × Int × Int × Int × Int × Int × List Bkt × List UInt8 × List Nmt × Int × Int × Int × Int × Int × Unit × List UInt8 × Unit × Unit) ⊕ ((Unit × Unit × List Nmt × Int × Int × Int × Int × Int × List Bkt × List UInt8 × List Nmt × Int × Int × Int × Int × Int × Unit × List UInt8 × Unit × Unit) ⊕ Empty)) :=
  .node [] (decide (x.2.2.2.2.1 < (Int.ofNat (List.length x.2.2.2.2.2.2.2.2.2.2.2.2.1))))
    (.node [0 ≤ x.2.2.2.2.1, x.2.2.2.2.1 < Int.ofNat (List.length x.2.2.2.2.2.2.2.2.2.2.2.2.1)] (!((@id (Nmt) (xsAt Nm x.2.2.2.2.2.2.2.2.2.2.2.2.1 (Int.toNat x.2.2.2.2.1))).1 == x.1))
      (.leaf [(List.length (x.2.2.2.1 ++ ((@id (Nmt) (xsAt Nm x.2.2.2.2.2.2.2.2.2.2.2.2.1 (Int.toNat x.2.2.2.2.1))) :: []))) * 24 ≤ Room, 0 ≤ x.2.2.2.2.1, x.2.2.2.2.1 < Int.ofNat (List.length x.2.2.2.2.2.2.2.2.2.2.2.2.1)] (.inl (x.1, (), (), (x.2.2.2.1 ++ ((@id (Nmt) (xsAt Nm x.2.2.2.2.2.2.2.2.2.2.2.2.1 (Int.toNat x.2.2.2.2.1))) :: [])), (wrp .i64 (x.2.2.2.2.1 + (1 : Int))), x.2.2.2.2.2.1, x.2.2.2.2.2.2.1, x.2.2.2.2.2.2.2.1, x.2.2.2.2.2.2.2.2.1, x.2.2.2.2.2.2.2.2.2.1, x.2.2.2.2.2.2.2.2.2.2.1, x.2.2.2.2.2.2.2.2.2.2.2.1, x.2.2.2.2.2.2.2.2.2.2.2.2.1, x.2.2.2.2.2.2.2.2.2.2.2.2.2.1, x.2.2.2.2.2.2.2.2.2.2.2.2.2.2.1, x.2.2.2.2.2.2.2.2.2.2.2.2.2.2.2.1, x.2.2.2.2.2.2.2.2.2.2.2.2.2.2.2.2.1, x.2.2.2.2.2.2.2.2.2.2.2.2.2.2.2.2.2.1, (), x.2.2.2.2.2.2.2.2.2.2.2.2.2.2.2.2.2.2.2.1, (), ())))
      (.leaf [] (.inl (x.1, (), (), x.2.2.2.1, (wrp .i64 (x.2.2.2.2.1 + (1 : Int))), x.2.2.2.2.2.1, x.2.2.2.2.2.2.1, x.2.2.2.2.2.2.2.1, x.2.2.2.2.2.2.2.2.1, x.2.2.2.2.2.2.2.2.2.1, x.2.2.2.2.2.2.2.2.2.2.1, x.2.2.2.2.2.2.2.2.2.2.2.1, x.2.2.2.2.2.2.2.2.2.2.2.2.1, x.2.2.2.2.2.2.2.2.2.2.2.2.2.1, x.2.2.2.2.2.2.2.2.2.2.2.2.2.2.1, x.2.2.2.2.2.2.2.2.2.2.2.2.2.2.2.1, x.2.2.2.2.2.2.2.2.2.2.2.2.2.2.2.2.1, x.2.2.2.2.2.2.2.2.2.2.2.2.2.2.2.2.2.1, (), x.2.2.2.2.2.2.2.2.2.2.2.2.2.2.2.2.2.2.2.1, (), ()))))
    (.leaf [] (.inr (.inl ((), (), x.2.2.2.1, x.2.2.2.2.2.1, x.2.2.2.2.2.2.1, x.2.2.2.2.2.2.2.1, x.2.2.2.2.2.2.2.2.1, x.2.2.2.2.2.2.2.2.2.1, x.2.2.2.2.2.2.2.2.2.2.1, x.2.2.2.2.2.2.2.2.2.2.2.1, x.2.2.2.2.2.2.2.2.2.2.2.2.1, x.2.2.2.2.2.2.2.2.2.2.2.2.2.1, x.2.2.2.2.2.2.2.2.2.2.2.2.2.2.1, x.2.2.2.2.2.2.2.2.2.2.2.2.2.2.2.1, x.2.2.2.2.2.2.2.2.2.2.2.2.2.2.2.2.1, x.2.2.2.2.2.2.2.2.2.2.2.2.2.2.2.2.2.1, (), x.2.2.2.2.2.2.2.2.2.2.2.2.2.2.2.2.2.2.2.1, (), ()))))
noncomputable def F90 (x : Ndt × List UInt8 × Unit) : DT (Ndt × Unit) :=
  let y0 := loopOut F90L0 (x.2.1, (), (), [], (0 : Int), x.1.1, x.1.2.1, x.1.2.2.1, x.1.2.2.2.1, x.1.2.2.2.2.1, x.1.2.2.2.2.2.1, x.1.2.2.2.2.2.2.1, x.1.2.2.2.2.2.2.2, (0 : Int), (0 : Int), (0 : Int), (0 : Int), (0 : Int), (), (dec 0 0 []), (), ())
  let y1 : Unit × Unit × List Nmt × Int × Int × Int × Int × Int × List Bkt × List UInt8 × List Nmt × Int × Int × Int × Int × Int × Unit × List UInt8 × Unit × Unit := getL (Shape.z F90L0S0) y0
  .leaf [loopInv F90L0 (x.2.1, (), (), [], (0 : Int), x.1.1, x.1.2.1, x.1.2.2.1, x.1.2.2.2.1, x.1.2.2.2.2.1, x.1.2.2.2.2.2.1, x.1.2.2.2.2.2.2.1, x.1.2.2.2.2.2.2.2, (0 : Int), (0 : Int), (0 : Int), (0 : Int), (0 : Int), (), (dec 0 0 []), (), ())] ((y1.2.2.2.1, (y1.2.2.2.2.1, (y1.2.2.2.2.2.1, (y1.2.2.2.2.2.2.1, (y1.2.2.2.2.2.2.2.1, (y1.2.2.2.2.2.2.2.2.1, (y1.2.2.2.2.2.2.2.2.2.1, y1.2.2.1))))))), ())
abbrev F90A : List AT := [.v (.agg Nd), .v (.one .str)]
abbrev F90B : List AT := [.v (.agg Nd)]
noncomputable def F90R : List (Nat × Rule) := [(0, ruleOf F90L0S F90L0X F90L0)]
theorem F90L0is : ∀ x, DT.Is (runL Tryz.prog cfg70 1000 (lsOf F90R) 90 0 F90L0S F90L0X x) (F90L0 x) := fun x => by unfold DT.Is; kernel_rfl
theorem F90is : ∀ x, DT.Is (runF Tryz.prog cfg70 1000 (lsOf F90R) 90 F90A F90B x) (F90 x) := fun x => by unfold DT.Is; kernel_rfl
noncomputable def F90.fn (x : Ndt × List UInt8 × Unit) : Ndt × Unit := (F90 x).fn
noncomputable def F90.pre (x : Ndt × List UInt8 × Unit) : Prop := (F90 x).pre
theorem F90ok : DataOk Tryz.prog 90 F90A F90B F90.pre F90.fn := data_of_tree F90A F90B F90 cfg70ok (.of_all cfg70ok (.cons (rule_of_tree F90L0S F90L0X F90L0 (F90L0is)) .nil)) F90is
noncomputable def F90C : Con Tryz.prog := conD 90 F90A F90B F90.pre F90.fn F90ok (by kernel_rfl)
noncomputable def cfgL71 : List (Con Tryz.prog) := F90C :: cfgL70
noncomputable def cfg71 : Cfg := cfgOf cfgL71
theorem cfg71ok : CfgOk Tryz.prog cfg71 := cfgOf_ok cfgnamed cfgmixed _
/-! 61 veneer/veneerref5.With -/
def F61L0S : Shape := ⟨[(1, .v (.one .str)), (2, .v (.one (.int .i64))), (3, .val (.ptr 0 0)), (6, .val (.ptr 1 0)), (7, .v (.one (.int .i64)))], [(0, 8, [.v (.one (.int .i64)), .v (.one (.int .i64)), .v (.one (.int .i64)), .v (.one (.int .i64)), .v (.one (.int .i64)), .v (.one (.row Bk)), .v (.one .str), .v (.one (.row Nm))]), (1, 8, [.v (.one (.int .i64)), .v (.one (.int .i64)), .v (.one (.int .i64)), .v (.one (.int .i64)), .v (.one (.int .i64)), .val .nils, .v (.one .str), .val .nils])], 2⟩
def F61L0S0 : Shape := ⟨[(1, .v (.one .str)), (2, .v (.one (.int .i64))), (3, .val (.ptr 0 0)), (6, .val (.ptr 1 0)), (7, .v (.one (.int .i64)))], [(0, 8, [.v (.one (.int .i64)), .v (.one (.int .i64)), .v (.one (.int .i64)), .v (.one (.int .i64)), .v (.one (.int .i64)), .v (.one (.row Bk)), .v (.one .str), .v (.one (.row Nm))]), (1, 8, [.v (.one (.int .i64)), .v (.one (.int .i64)), .v (.one (.int .i64)), .v (.one (.int .i64)), .v (.one (.int .i64)), .val .nils, .v (.one .str), .val .nils])], 2⟩
def F61L0X : List (Option Nat × Shape) := [(some 0, F61L0S0)]
noncomputable def F61L0 (x : List UInt8 × Int × Unit × Unit × Int × Int × Int × Int × Int × Int × List Bkt × List UInt8 × List Nmt × Int × Int × Int × Int × Int × Unit × List UInt8 × Unit × Unit) : DT ((List UInt8 × Int × Unit × Unit × Int × Int × Int × Int × Int × Int × List Bkt × List UInt8 × List Nmt × Int × Int × Int × Int × Int × Unit × List UInt8 × Unit × Unit) ⊕ ((List UInt8 × Int × Unit × Unit × Int × Int × Int × Int × Int × Int × List Bkt × List UInt8 × List Nmt × Int × Int × Int × Int × Int × Unit × List UInt8 × Unit × Unit) ⊕ Empty)) :=
  .node [] (decide (x.2.2.2.2.1 < (Int.ofNat (List.length x.2.2.2.2.2.2.2.2.2.2.2.2.1))))
    (.node [0 ≤ x.2.2.2.2.1, x.2.2.2.2.1 < Int.ofNat (List.length x.2.2.2.2.2.2.2.2.2.2.2.2.1)] (Op.bytesLess (@id (Nmt) (xsAt Nm x.2.2.2.2.2.2.2.2.2.2.2.2.1 (Int.toNat x.2.2.2.2.1))).1 x.1)
      (.leaf [] (.inl (x.1, x.2.1, (), (), (wrp .i64 (x.2.2.2.2.1 + (1 : Int))), x.2.2.2.2.2.1, x.2.2.2.2.2.2.1, x.2.2.2.2.2.2.2.1, x.2.2.2.2.2.2.2.2.1, x.2.2.2.2.2.2.2.2.2.1, x.2.2.2.2.2.2.2.2.2.2.1, x.2.2.2.2.2.2.2.2.2.2.2.1, x.2.2.2.2.2.2.2.2.2.2.2.2.1, x.2.2.2.2.2.2.2.2.2.2.2.2.2.1, x.2.2.2.2.2.2.2.2.2.2.2.2.2.2.1, x.2.2.2.2.2.2.2.2.2.2.2.2.2.2.2.1, x.2.2.2.2.2.2.2.2.2.2.2.2.2.2.2.2.1, x.2.2.2.2.2.2.2.2.2.2.2.2.2.2.2.2.2.1, (), x.2.2.2.2.2.2.2.2.2.2.2.2.2.2.2.2.2.2.2.1, (), ())))
      (.leaf [] (.inr (.inl (x.1, x.2.1, (), (), x.2.2.2.2.1, x.2.2.2.2.2.1, x.2.2.2.2.2.2.1, x.2.2.2.2.2.2.2.1, x.2.2.2.2.2.2.2.2.1, x.2.2.2.2.2.2.2.2.2.1, x.2.2.2.2.2.2.2.2.2.2.1, x.2.2.2.2.2.2.2.2.2.2.2.1, x.2.2.2.2.2.2.2.2.2.2.2.2.1, x.2.2.2.2.2.2.2.2.2.2.2.2.2.1, x.2.2.2.2.2.2.2.2.2.2.2.2.2.2.1, x.2.2.2.2.2.2.2.2.2.2.2.2.2.2.2.1, x.2.2.2.2.2.2.2.2.2.2.2.2.2.2.2.2.1, x.2.2.2.2.2.2.2.2.2.2.2.2.2.2.2.2.2.1, (), x.2.2.2.2.2.2.2.2.2.2.2.2.2.2.2.2.2.2.2.1, (), ())))))
    (.leaf [] (.inr (.inl (x.1, x.2.1, (), (), x.2.2.2.2.1, x.2.2.2.2.2.1, x.2.2.2.2.2.2.1, x.2.2.2.2.2.2.2.1, x.2.2.2.2.2.2.2.2.1, x.2.2.2.2.2.2.2.2.2.1, x.2.2.2.2.2.2.2.2.2.2.1, x.2.2.2.2.2.2.2.2.2.2.2.1, x.2.2.2.2.2.2.2.2.2.2.2.2.1, x.2.2.2.2.2.2.2.2.2.2.2.2.2.1, x.2.2.2.2.2.2.2.2.2.2.2.2.2.2.1, x.2.2.2.2.2.2.2.2.2.2.2.2.2.2.2.1, x.2.2.2.2.2.2.2.2.2.2.2.2.2.2.2.2.1, x.2.2.2.2.2.2.2.2.2.2.2.2.2.2.2.2.2.1, (), x.2.2.2.2.2.2.2.2.2.2.2.2.2.2.2.2.2.2.2.1, (), ()))))
noncomputable def F61 (x : Ndt × List UInt8 × Int × Unit) : DT (Ndt × Unit) :=
  let y0 := F90.fn (x.1, x.2.1, ())
  let y1 := loopOut F61L0 (x.2.1, x.2.2.1, (), (), (0 : Int), y0.1.1, y0.1.2.1, y0.1.2.2.1, y0.1.2.2.2.1, y0.1.2.2.2.2.1, y0.1.2.2.2.2.2.1, y0.1.2.2.2.2.2.2.1, y0.1.2.2.2.2.2.2.2, (0 : Int), (0 : Int), (0 : Int), (0 : Int), (0 : Int), (), (dec 0 0 []), (), ())
  let y2 : List UInt8 × Int × Unit × Unit × Int × Int × Int × Int × Int × Int × List Bkt × List UInt8 × List Nmt × Int × Int × Int × Int × Int × Unit × List UInt8 × Unit × Unit := getL (Shape.z F61L0S0) y1
  .leaf [(List.length ((([] ++ (List.take (Int.toNat y2.2.2.2.2.1) y2.2.2.2.2.2.2.2.2.2.2.2.2.1)) ++ ((y2.1, y2.2.1) :: [])) ++ (List.drop (Int.toNat y2.2.2.2.2.1) y2.2.2.2.2.2.2.2.2.2.2.2.2.1))) * 24 ≤ Room, 0 ≤ y2.2.2.2.2.1, y2.2.2.2.2.1 ≤ Int.ofNat (List.length y2.2.2.2.2.2.2.2.2.2.2.2.2.1), (List.length (([] ++ (List.take (Int.toNat y2.2.2.2.2.1) y2.2.2.2.2.2.2.2.2.2.2.2.2.1)) ++ ((y2.1, y2.2.1) :: []))) * 24 ≤ Room, (List.length ([] ++ (List.take (Int.toNat y2.2.2.2.2.1) y2.2.2.2.2.2.2.2.2.2.2.2.2.1))) * 24 ≤ Room, 0 ≤ y2.2.2.2.2.1, y2.2.2.2.2.1 ≤ Int.ofNat (List.length y2.2.2.2.2.2.2.2.2.2.2.2.2.1), loopInv F61L0 (x.2.1, x.2.2.1, (), (), (0 : Int), y0.1.1, y0.1.2.1, y0.1.2.2.1, y0.1.2.2.2.1, y0.1.2.2.2.2.1, y0.1.2.2.2.2.2.1, y0.1.2.2.2.2.2.2.1, y0.1.2.2.2.2.2.2.2, (0 : Int), (0 : Int), (0 : Int), (0 : Int), (0 : Int), (), (dec 0 0 []), (), ()), F90.pre (x.1, x.2.1, ())] ((y2.2.2.2.2.2.1, (y2.2.2.2.2.2.2.1, (y2.2.2.2.2.2.2.2.1, (y2.2.2.2.2.2.2.2.2.1, (y2.2.2.2.2.2.2.2.2.2.1, (y2.2.2.2.2.2.2.2.2.2.2.1, (y2.2.2.2.2.2.2.2.2.2.2.2.1, ((([] ++ (List.take (Int.toNat y2.2.2.2.2.1) y2.2.2.2.2.2.2.2.2.2.2.2.2.1)) ++ ((y2.1, y2.2.1) :: [])) ++ (List.drop (Int.toNat y2.2.2.2.2.1) y2.2.2.2.2.2.2.2.2.2.2.2.2.1))))))))), ())
abbrev F61A : List AT := [.v (.agg Nd), .v (.one .str), .v (.one (.int .i64))]
abbrev F61B : List AT := [.v (.agg Nd)]
noncomputable def F61R : List (Nat × Rule) := [(0, ruleOf F61L0S F61L0X F61L0)]
theorem F61L0is : ∀ x, DT.Is (runL Tryz.prog cfg71 1000 (lsOf F61R) 61 0 F61L0S F61L0X x) (F61L0 x) := fun x => by unfold DT.Is; kernel_rfl
theorem F61is : ∀ x, DT.Is (runF Tryz.prog cfg71 1000 (lsOf F61R) 61 F61A F61B x) (F61 x) := fun x => by unfold DT.Is; kernel_rfl
noncomputable def F61.fn (x : Ndt × List UInt8 × Int × Unit) : Ndt × Unit := (F61 x).fn
noncomputable def F61.pre (x : Ndt × List UInt8 × Int × Unit) : Prop := (F61 x).pre
theorem F61ok : DataOk Tryz.prog 61 F61A F61B F61.pre F61.fn := data_of_tree F61A F61B F61 cfg71ok (.of_all cfg71ok (.cons (rule_of_tree F61L0S F61L0X F61L0 (F61L0is)) .nil)) F61is
noncomputable def F61C : Con Tryz.prog := conD 61 F61A F61B F61.pre F61.fn F61ok (by kernel_rfl)
noncomputable def cfgL72 : List (Con Tryz.prog) := F61C :: cfgL71
noncomputable def cfg72 : Cfg := cfgOf cfgL72
theorem cfg72ok : CfgOk Tryz.prog cfg72 := cfgOf_ok cfgnamed cfgmixed _
/-! 33 veneer/veneerref6.with -/
noncomputable def F33 (x : Dkt × Int × List UInt8 × Int × Unit) : DT (Dkt × Unit) :=
  let y0 := F12.fn (x.1, x.2.1, ())
  let y1 := F61.fn (y0.1, x.2.2.1, x.2.2.2.1, ())
  let y2 := F32.fn (x.1, y1.1, ())
  .leaf [F32.pre (x.1, y1.1, ()), F61.pre (y0.1, x.2.2.1, x.2.2.2.1, ()), (let r : List AV := [.agg [.x (.i .i64 x.1.1), .x (.i .i64 x.1.2.1), .x (.i .i64 x.1.2.2.1), .x (.row Nd x.1.2.2.2)]]; r = r), F12.pre (x.1, x.2.1, ())] (y2.1, ())
abbrev F33A : List AT := [.v (.agg Dk), .v (.one (.int .i64)), .v (.one .str), .v (.one (.int .i64))]
abbrev F33B : List AT := [.v (.agg Dk)]
theorem F33is : ∀ x, DT.Is (runF Tryz.prog cfg72 1000 noL 33 F33A F33B x) (F33 x) := fun x => by unfold DT.Is; kernel_rfl
noncomputable def F33.fn (x : Dkt × Int × List UInt8 × Int × Unit) : Dkt × Unit := (F33 x).fn
noncomputable def F33.pre (x : Dkt × Int × List UInt8 × Int × Unit) : Prop := (F33 x).pre
theorem F33ok : DataOk Tryz.prog 33 F33A F33B F33.pre F33.fn := data_of_tree F33A F33B F33 cfg72ok FnLoops.none F33is
noncomputable def F33C : Con Tryz.prog := conD 33 F33A F33B F33.pre F33.fn F33ok (by kernel_rfl)
noncomputable def cfgL73 : List (Con Tryz.prog) := F33C :: cfgL72
noncomputable def cfg73 : Cfg := cfgOf cfgL73
theorem cfg73ok : CfgOk Tryz.prog cfg73 := cfgOf_ok cfgnamed cfgmixed _
/-! 15 veneer/veneerref6.Make -/
noncomputable def F15 (x : Dkt × Int × List UInt8 × Ndt × Unit) : DT (Dkt × Int × Int × Unit) :=
  let y0 := F30.fn (x.1, x.2.1, x.2.2.1, ())
  .node [F30.pre (x.1, x.2.1, x.2.2.1, ())] y0.2.1
    (.leaf [] (x.1, (0 : Int), (3 : Int), ()))
    (let y1 := F31.fn (x.1, ())
    .node [F31.pre (x.1, ())] (decide (y1.2.1 ≥ x.1.2.1))
      (.leaf [] (x.1, (0 : Int), (8 : Int), ()))
      (.node [] (decide ((wrp .i64 (y1.1 + (Int.ofNat (List.length x.2.2.2.1.2.2.2.2.2.1)))) > x.1.1))
        (.leaf [] (x.1, (0 : Int), (8 : Int), ()))
        (let y2 := F32.fn ((x.1.1, (x.1.2.1, ((wrp .i64 (x.1.2.2.1 + (1 : Int))), x.1.2.2.2))), (x.1.2.2.1, (x.2.2.2.1.2.1, (x.2.2.2.1.2.2.1, ((1 : Int), (x.2.2.2.1.2.2.2.2.1, (x.2.2.2.1.2.2.2.2.2.1, (x.2.2.2.1.2.2.2.2.2.2.1, []))))))), ())
        let y3 := F33.fn (y2.1, x.2.1, x.2.2.1, x.1.2.2.1, ())
        .leaf [F33.pre (y2.1, x.2.1, x.2.2.1, x.1.2.2.1, ()), F32.pre ((x.1.1, (x.1.2.1, ((wrp .i64 (x.1.2.2.1 + (1 : Int))), x.1.2.2.2))), (x.1.2.2.1, (x.2.2.2.1.2.1, (x.2.2.2.1.2.2.1, ((1 : Int), (x.2.2.2.1.2.2.2.2.1, (x.2.2.2.1.2.2.2.2.2.1, (x.2.2.2.1.2.2.2.2.2.2.1, []))))))), ())] (y3.1, x.1.2.2.1, (0 : Int), ()))))
abbrev F15A : List AT := [.v (.agg Dk), .v (.one (.int .i64)), .v (.one .str), .v (.agg Nd)]
abbrev F15B : List AT := [.v (.agg Dk), .v (.one (.int .i64)), .v (.one (.int .i64))]
theorem F15is : ∀ x, DT.Is (runF Tryz.prog cfg73 1000 noL 15 F15A F15B x) (F15 x) := fun x => by unfold DT.Is; kernel_rfl
noncomputable def F15.fn (x : Dkt × Int × List UInt8 × Ndt × Unit) : Dkt × Int × Int × Unit := (F15 x).fn
noncomputable def F15.pre (x : Dkt × Int × List UInt8 × Ndt × Unit) : Prop := (F15 x).pre
theorem F15ok : DataOk Tryz.prog 15 F15A F15B F15.pre F15.fn := data_of_tree F15A F15B F15 cfg73ok FnLoops.none F15is
noncomputable def F15C : Con Tryz.prog := conD 15 F15A F15B F15.pre F15.fn F15ok (by kernel_rfl)
noncomputable def cfgL74 : List (Con Tryz.prog) := F15C :: cfgL73
noncomputable def cfg74 : Cfg := cfgOf cfgL74
theorem cfg74ok : CfgOk Tryz.prog cfg74 := cfgOf_ok cfgnamed cfgmixed _
/-! 55 veneer/veneerref8.fresh -/
noncomputable def F55 (x : Dkt × (Int × List UInt8 × List UInt8 × Int × Int × Int × List (Int)) × List (List UInt8) × Unit) : DT (Dkt × Int × Unit) :=
  .node [] ((bif x.2.1.1 == (1 : Int) then (1 : Int) else (bif x.2.1.1 == (2 : Int) then (2 : Int) else (bif x.2.1.1 == (13 : Int) then (3 : Int) else (0 : Int)))) == (3 : Int))
    (.node [] (decide (x.2.1.2.2.2.1 < (0 : Int)))
      (.leaf [] (x.1, (1 : Int), ()))
      (.node [] (decide (x.2.1.2.2.2.1 > (511 : Int)))
        (.leaf [] (x.1, (1 : Int), ()))
        (.req [] ((bif x.2.1.1 == (1 : Int) then (1 : Int) else (bif x.2.1.1 == (2 : Int) then (2 : Int) else (bif x.2.1.1 == (13 : Int) then (3 : Int) else (0 : Int)))) == (3 : Int)) true
          (.node [] (x.2.1.2.2.1 == (dec 0 0 []))
            (.leaf [] (x.1, (1 : Int), ()))
            (.node [] (decide ((Int.ofNat (List.length x.2.1.2.2.1)) > (120 : Int)))
              (.leaf [] (x.1, (1 : Int), ()))
              (let y0 := F76.fn (x.2.1.2.2.1, ())
              .node [F76.pre (x.2.1.2.2.1, ())] y0.1
                (.leaf [] (x.1, (1 : Int), ()))
                (.node [] ((Int.ofNat (List.length x.2.2.1)) == (0 : Int))
                  (.leaf [] (x.1, (3 : Int), ()))
                  (let y1 := F77.fn (x.1, x.2.2.1, ())
                  .node [F77.pre (x.1, x.2.2.1, ())] (y1.2.2.1 != (0 : Int))
                    (.leaf [] (x.1, y1.2.2.1, ()))
                    (let y2 := F15.fn (x.1, y1.1.1, y1.2.1, ((0 : Int), ((bif x.2.1.1 == (1 : Int) then (1 : Int) else (bif x.2.1.1 == (2 : Int) then (2 : Int) else (bif x.2.1.1 == (13 : Int) then (3 : Int) else (0 : Int)))), (x.2.1.2.2.2.1, ((0 : Int), ((0 : Int), ([], (x.2.1.2.2.1, []))))))), ())
                    .leaf [F15.pre (x.1, y1.1.1, y1.2.1, ((0 : Int), ((bif x.2.1.1 == (1 : Int) then (1 : Int) else (bif x.2.1.1 == (2 : Int) then (2 : Int) else (bif x.2.1.1 == (13 : Int) then (3 : Int) else (0 : Int)))), (x.2.1.2.2.2.1, ((0 : Int), ((0 : Int), ([], (x.2.1.2.2.1, []))))))), ())] (y2.1, y2.2.2.1, ()))))))))))
    (.node [] (decide (x.2.1.2.2.2.1 < (0 : Int)))
      (.leaf [] (x.1, (1 : Int), ()))
      (.node [] (decide (x.2.1.2.2.2.1 > (511 : Int)))
        (.leaf [] (x.1, (1 : Int), ()))
        (.req [] ((bif x.2.1.1 == (1 : Int) then (1 : Int) else (bif x.2.1.1 == (2 : Int) then (2 : Int) else (bif x.2.1.1 == (13 : Int) then (3 : Int) else (0 : Int)))) == (3 : Int)) false
          (.node [] ((Int.ofNat (List.length x.2.2.1)) == (0 : Int))
            (.leaf [] (x.1, (3 : Int), ()))
            (let y0 := F77.fn (x.1, x.2.2.1, ())
            .node [F77.pre (x.1, x.2.2.1, ())] (y0.2.2.1 != (0 : Int))
              (.leaf [] (x.1, y0.2.2.1, ()))
              (let y1 := F15.fn (x.1, y0.1.1, y0.2.1, ((0 : Int), ((bif x.2.1.1 == (1 : Int) then (1 : Int) else (bif x.2.1.1 == (2 : Int) then (2 : Int) else (bif x.2.1.1 == (13 : Int) then (3 : Int) else (0 : Int)))), (x.2.1.2.2.2.1, ((0 : Int), ((0 : Int), ([], ((dec 0 0 []), []))))))), ())
              .leaf [F15.pre (x.1, y0.1.1, y0.2.1, ((0 : Int), ((bif x.2.1.1 == (1 : Int) then (1 : Int) else (bif x.2.1.1 == (2 : Int) then (2 : Int) else (bif x.2.1.1 == (13 : Int) then (3 : Int) else (0 : Int)))), (x.2.1.2.2.2.1, ((0 : Int), ((0 : Int), ([], ((dec 0 0 []), []))))))), ())] (y1.1, y1.2.2.1, ())))))))
abbrev F55A : List AT := [.v (.agg Dk), .v (.agg (.cons (.int .i64) (.cons .str (.cons .str (.cons (.int .i64) (.cons (.int .i64) Bk)))))), .v (.one (.row (.one .str)))]
abbrev F55B : List AT := [.v (.agg Dk), .v (.one (.int .i64))]
theorem F55is : ∀ x, DT.Is (runF Tryz.prog cfg74 1000 noL 55 F55A F55B x) (F55 x) := fun x => by unfold DT.Is; kernel_rfl
noncomputable def F55.fn (x : Dkt × (Int × List UInt8 × List UInt8 × Int × Int × Int × List (Int)) × List (List UInt8) × Unit) : Dkt × Int × Unit := (F55 x).fn
noncomputable def F55.pre (x : Dkt × (Int × List UInt8 × List UInt8 × Int × Int × Int × List (Int)) × List (List UInt8) × Unit) : Prop := (F55 x).pre
theorem F55ok : DataOk Tryz.prog 55 F55A F55B F55.pre F55.fn := data_of_tree F55A F55B F55 cfg74ok FnLoops.none F55is
noncomputable def F55C : Con Tryz.prog := conD 55 F55A F55B F55.pre F55.fn F55ok (by kernel_rfl)
noncomputable def cfgL75 : List (Con Tryz.prog) := F55C :: cfgL74
noncomputable def cfg75 : Cfg := cfgOf cfgL75
theorem cfg75ok : CfgOk Tryz.prog cfg75 := cfgOf_ok cfgnamed cfgmixed _
/-! 107 veneer/veneerref6.without -/
noncomputable def F107 (x : Dkt × Int × List UInt8 × Unit) : DT (Dkt × Unit) :=
  let y0 := F12.fn (x.1, x.2.1, ())
  let y1 := F90.fn (y0.1, x.2.2.1, ())
  let y2 := F32.fn (x.1, y1.1, ())
  .leaf [F32.pre (x.1, y1.1, ()), F90.pre (y0.1, x.2.2.1, ()), (let r : List AV := [.agg [.x (.i .i64 x.1.1), .x (.i .i64 x.1.2.1), .x (.i .i64 x.1.2.2.1), .x (.row Nd x.1.2.2.2)]]; r = r), F12.pre (x.1, x.2.1, ())] (y2.1, ())
abbrev F107A : List AT := [.v (.agg Dk), .v (.one (.int .i64)), .v (.one .str)]
abbrev F107B : List AT := [.v (.agg Dk)]
theorem F107is : ∀ x, DT.Is (runF Tryz.prog cfg75 1000 noL 107 F107A F107B x) (F107 x) := fun x => by unfold DT.Is; kernel_rfl
noncomputable def F107.fn (x : Dkt × Int × List UInt8 × Unit) : Dkt × Unit := (F107 x).fn
noncomputable def F107.pre (x : Dkt × Int × List UInt8 × Unit) : Prop := (F107 x).pre
theorem F107ok : DataOk Tryz.prog 107 F107A F107B F107.pre F107.fn := data_of_tree F107A F107B F107 cfg75ok FnLoops.none F107is
noncomputable def F107C : Con Tryz.prog := conD 107 F107A F107B F107.pre F107.fn F107ok (by kernel_rfl)
noncomputable def cfgL76 : List (Con Tryz.prog) := F107C :: cfgL75
noncomputable def cfg76 : Cfg := cfgOf cfgL76
theorem cfg76ok : CfgOk Tryz.prog cfg76 := cfgOf_ok cfgnamed cfgmixed _
/-! 79 veneer/veneerref6.Drop -/
noncomputable def F79 (x : Dkt × Int × List UInt8 × Unit) : DT (Dkt × Int × Unit) :=
  let y0 := F30.fn (x.1, x.2.1, x.2.2.1, ())
  .node [F30.pre (x.1, x.2.1, x.2.2.1, ())] (!y0.2.1)
    (.leaf [] (x.1, (2 : Int), ()))
    (let y1 := F107.fn (x.1, x.2.1, x.2.2.1, ())
    let y2 := F12.fn (y1.1, y0.1, ())
    .node [F12.pre (y1.1, y0.1, ()), F107.pre (x.1, x.2.1, x.2.2.1, ())] (decide ((wrp .i64 (y2.1.2.2.2.1 - (1 : Int))) < (1 : Int)))
      (let y3 := F60.fn (y1.1, y0.1, ())
      .leaf [F60.pre (y1.1, y0.1, ())] (y3.1, (0 : Int), ()))
      (let y3 := F32.fn (y1.1, (y2.1.1, (y2.1.2.1, (y2.1.2.2.1, ((wrp .i64 (y2.1.2.2.2.1 - (1 : Int))), y2.1.2.2.2.2)))), ())
      .leaf [F32.pre (y1.1, (y2.1.1, (y2.1.2.1, (y2.1.2.2.1, ((wrp .i64 (y2.1.2.2.2.1 - (1 : Int))), y2.1.2.2.2.2)))), ())] (y3.1, (0 : Int), ())))
abbrev F79A : List AT := [.v (.agg Dk), .v (.one (.int .i64)), .v (.one .str)]
abbrev F79B : List AT := [.v (.agg Dk), .v (.one (.int .i64))]
theorem F79is : ∀ x, DT.Is (runF Tryz.prog cfg76 1000 noL 79 F79A F79B x) (F79 x) := fun x => by unfold DT.Is; kernel_rfl
noncomputable def F79.fn (x : Dkt × Int × List UInt8 × Unit) : Dkt × Int × Unit := (F79 x).fn
noncomputable def F79.pre (x : Dkt × Int × List UInt8 × Unit) : Prop := (F79 x).pre
theorem F79ok : DataOk Tryz.prog 79 F79A F79B F79.pre F79.fn := data_of_tree F79A F79B F79 cfg76ok FnLoops.none F79is
noncomputable def F79C : Con Tryz.prog := conD 79 F79A F79B F79.pre F79.fn F79ok (by kernel_rfl)
noncomputable def cfgL77 : List (Con Tryz.prog) := F79C :: cfgL76
noncomputable def cfg77 : Cfg := cfgOf cfgL77
theorem cfg77ok : CfgOk Tryz.prog cfg77 := cfgOf_ok cfgnamed cfgmixed _
/-! 56 veneer/veneerref8.gone -/
noncomputable def F56 (x : Dkt × (Int × List UInt8 × List UInt8 × Int × Int × Int × List (Int)) × List (List UInt8) × Unit) : DT (Dkt × Int × Unit) :=
  .node [] ((Int.ofNat (List.length x.2.2.1)) == (0 : Int))
    (.node [] (x.2.1.1 == (4 : Int))
      (.leaf [] (x.1, (5 : Int), ()))
      (.req [] ((Int.ofNat (List.length x.2.2.1)) == (0 : Int)) true
        (.leaf [] (x.1, (1 : Int), ()))))
    (let y0 := F77.fn (x.1, x.2.2.1, ())
    .req [] ((Int.ofNat (List.length x.2.2.1)) == (0 : Int)) false
      (.node [F77.pre (x.1, x.2.2.1, ())] (y0.2.2.1 != (0 : Int))
        (.leaf [] (x.1, y0.2.2.1, ()))
        (let y1 := F78.fn (x.1, x.2.2.1, ())
        .node [F78.pre (x.1, x.2.2.1, ())] (y1.2.1 != (0 : Int))
          (.leaf [] (x.1, y1.2.1, ()))
          (.node [] (x.2.1.1 == (4 : Int))
            (.node [] (y1.1.2.1 == (2 : Int))
              (.leaf [] (x.1, (5 : Int), ()))
              (.node [] (x.2.1.1 == (5 : Int))
                (.node [] (y1.1.2.1 != (2 : Int))
                  (.leaf [] (x.1, (4 : Int), ()))
                  (.node [] (decide ((Int.ofNat (List.length y1.1.2.2.2.2.2.2.2)) > (0 : Int)))
                    (.leaf [] (x.1, (6 : Int), ()))
                    (let y2 := F79.fn (x.1, y0.1.1, y0.2.1, ())
                    .leaf [F79.pre (x.1, y0.1.1, y0.2.1, ())] (y2.1, y2.2.1, ()))))
                (.node [] (decide ((Int.ofNat (List.length y1.1.2.2.2.2.2.2.2)) > (0 : Int)))
                  (.leaf [] (x.1, (6 : Int), ()))
                  (let y2 := F79.fn (x.1, y0.1.1, y0.2.1, ())
                  .leaf [F79.pre (x.1, y0.1.1, y0.2.1, ())] (y2.1, y2.2.1, ())))))
            (.node [] (x.2.1.1 == (5 : Int))
              (.node [] (y1.1.2.1 != (2 : Int))
                (.leaf [] (x.1, (4 : Int), ()))
                (.node [] (decide ((Int.ofNat (List.length y1.1.2.2.2.2.2.2.2)) > (0 : Int)))
                  (.leaf [] (x.1, (6 : Int), ()))
                  (let y2 := F79.fn (x.1, y0.1.1, y0.2.1, ())
                  .leaf [F79.pre (x.1, y0.1.1, y0.2.1, ())] (y2.1, y2.2.1, ()))))
              (.node [] (decide ((Int.ofNat (List.length y1.1.2.2.2.2.2.2.2)) > (0 : Int)))
                (.leaf [] (x.1, (6 : Int), ()))
                (let y2 := F79.fn (x.1, y0.1.1, y0.2.1, ())
                .leaf [F79.pre (x.1, y0.1.1, y0.2.1, ())] (y2.1, y2.2.1, ()))))))))
abbrev F56A : List AT := [.v (.agg Dk), .v (.agg (.cons (.int .i64) (.cons .str (.cons .str (.cons (.int .i64) (.cons (.int .i64) Bk)))))), .v (.one (.row (.one .str)))]
abbrev F56B : List AT := [.v (.agg Dk), .v (.one (.int .i64))]
theorem F56is : ∀ x, DT.Is (runF Tryz.prog cfg77 1000 noL 56 F56A F56B x) (F56 x) := fun x => by unfold DT.Is; kernel_rfl
noncomputable def F56.fn (x : Dkt × (Int × List UInt8 × List UInt8 × Int × Int × Int × List (Int)) × List (List UInt8) × Unit) : Dkt × Int × Unit := (F56 x).fn
noncomputable def F56.pre (x : Dkt × (Int × List UInt8 × List UInt8 × Int × Int × Int × List (Int)) × List (List UInt8) × Unit) : Prop := (F56 x).pre
theorem F56ok : DataOk Tryz.prog 56 F56A F56B F56.pre F56.fn := data_of_tree F56A F56B F56 cfg77ok FnLoops.none F56is
noncomputable def F56C : Con Tryz.prog := conD 56 F56A F56B F56.pre F56.fn F56ok (by kernel_rfl)
noncomputable def cfgL78 : List (Con Tryz.prog) := F56C :: cfgL77
noncomputable def cfg78 : Cfg := cfgOf cfgL78
theorem cfg78ok : CfgOk Tryz.prog cfg78 := cfgOf_ok cfgnamed cfgmixed _
/-! 80 veneer/veneerref6.Link -/
noncomputable def F80 (x : Dkt × Int × List UInt8 × Int × Unit) : DT (Dkt × Int × Unit) :=
  let y0 := F30.fn (x.1, x.2.1, x.2.2.1, ())
  .node [F30.pre (x.1, x.2.1, x.2.2.1, ())] y0.2.1
    (.leaf [] (x.1, (3 : Int), ()))
    (let y1 := F12.fn (x.1, x.2.2.2.1, ())
    let y2 := F32.fn (x.1, (y1.1.1, (y1.1.2.1, (y1.1.2.2.1, ((wrp .i64 (y1.1.2.2.2.1 + (1 : Int))), y1.1.2.2.2.2)))), ())
    let y3 := F33.fn (y2.1, x.2.1, x.2.2.1, x.2.2.2.1, ())
    .leaf [F33.pre (y2.1, x.2.1, x.2.2.1, x.2.2.2.1, ()), F32.pre (x.1, (y1.1.1, (y1.1.2.1, (y1.1.2.2.1, ((wrp .i64 (y1.1.2.2.2.1 + (1 : Int))), y1.1.2.2.2.2)))), ()), F12.pre (x.1, x.2.2.2.1, ())] (y3.1, (0 : Int), ()))
abbrev F80A : List AT := [.v (.agg Dk), .v (.one (.int .i64)), .v (.one .str), .v (.one (.int .i64))]
abbrev F80B : List AT := [.v (.agg Dk), .v (.one (.int .i64))]
theorem F80is : ∀ x, DT.Is (runF Tryz.prog cfg78 1000 noL 80 F80A F80B x) (F80 x) := fun x => by unfold DT.Is; kernel_rfl
noncomputable def F80.fn (x : Dkt × Int × List UInt8 × Int × Unit) : Dkt × Int × Unit := (F80 x).fn
noncomputable def F80.pre (x : Dkt × Int × List UInt8 × Int × Unit) : Prop := (F80 x).pre
theorem F80ok : DataOk Tryz.prog 80 F80A F80B F80.pre F80.fn := data_of_tree F80A F80B F80 cfg78ok FnLoops.none F80is
noncomputable def F80C : Con Tryz.prog := conD 80 F80A F80B F80.pre F80.fn F80ok (by kernel_rfl)
noncomputable def cfgL79 : List (Con Tryz.prog) := F80C :: cfgL78
noncomputable def cfg79 : Cfg := cfgOf cfgL79
theorem cfg79ok : CfgOk Tryz.prog cfg79 := cfgOf_ok cfgnamed cfgmixed _
/-! 57 veneer/veneerref8.linked -/
noncomputable def F57 (x : Dkt × List (List UInt8) × List (List UInt8) × Unit) : DT (Dkt × Int × Unit) :=
  let y0 := F78.fn (x.1, x.2.1, ())
  .node [F78.pre (x.1, x.2.1, ())] (y0.2.1 != (0 : Int))
    (.leaf [] (x.1, y0.2.1, ()))
    (.node [] (y0.1.2.1 == (2 : Int))
      (.leaf [] (x.1, (7 : Int), ()))
      (.node [] ((Int.ofNat (List.length x.2.2.1)) == (0 : Int))
        (.leaf [] (x.1, (3 : Int), ()))
        (let y1 := F77.fn (x.1, x.2.2.1, ())
        .node [F77.pre (x.1, x.2.2.1, ())] (y1.2.2.1 != (0 : Int))
          (.leaf [] (x.1, y1.2.2.1, ()))
          (let y2 := F80.fn (x.1, y1.1.1, y1.2.1, y0.1.1, ())
          .leaf [F80.pre (x.1, y1.1.1, y1.2.1, y0.1.1, ())] (y2.1, y2.2.1, ())))))
abbrev F57A : List AT := [.v (.agg Dk), .v (.one (.row (.one .str))), .v (.one (.row (.one .str)))]
abbrev F57B : List AT := [.v (.agg Dk), .v (.one (.int .i64))]
theorem F57is : ∀ x, DT.Is (runF Tryz.prog cfg79 1000 noL 57 F57A F57B x) (F57 x) := fun x => by unfold DT.Is; kernel_rfl
noncomputable def F57.fn (x : Dkt × List (List UInt8) × List (List UInt8) × Unit) : Dkt × Int × Unit := (F57 x).fn
noncomputable def F57.pre (x : Dkt × List (List UInt8) × List (List UInt8) × Unit) : Prop := (F57 x).pre
theorem F57ok : DataOk Tryz.prog 57 F57A F57B F57.pre F57.fn := data_of_tree F57A F57B F57 cfg79ok FnLoops.none F57is
noncomputable def F57C : Con Tryz.prog := conD 57 F57A F57B F57.pre F57.fn F57ok (by kernel_rfl)
noncomputable def cfgL80 : List (Con Tryz.prog) := F57C :: cfgL79
noncomputable def cfg80 : Cfg := cfgOf cfgL80
theorem cfg80ok : CfgOk Tryz.prog cfg80 := cfgOf_ok cfgnamed cfgmixed _
/-! 81 veneer/veneerref1.Under -/
noncomputable def F81 (x : List (List UInt8) × List (List UInt8) × Unit) : DT (Bool × Unit) :=
  .node [] (decide ((Int.ofNat (List.length x.1)) > (Int.ofNat (List.length x.2.1))))
    (let y0 := F22.fn ((List.take (Int.toNat (Int.ofNat (List.length x.2.1))) x.1), x.2.1, ())
    .leaf [F22.pre ((List.take (Int.toNat (Int.ofNat (List.length x.2.1))) x.1), x.2.1, ()), 0 ≤ (Int.ofNat (List.length x.2.1)), (Int.ofNat (List.length x.2.1)) ≤ Int.ofNat (List.length x.1)] (y0.1, ()))
    (.leaf [] (false, ()))
abbrev F81A : List AT := [.v (.one (.row (.one .str))), .v (.one (.row (.one .str)))]
abbrev F81B : List AT := [.v (.one .bool)]
theorem F81is : ∀ x, DT.Is (runF Tryz.prog cfg80 1000 noL 81 F81A F81B x) (F81 x) := fun x => by unfold DT.Is; kernel_rfl
noncomputable def F81.fn (x : List (List UInt8) × List (List UInt8) × Unit) : Bool × Unit := (F81 x).fn
noncomputable def F81.pre (x : List (List UInt8) × List (List UInt8) × Unit) : Prop := (F81 x).pre
theorem F81ok : DataOk Tryz.prog 81 F81A F81B F81.pre F81.fn := data_of_tree F81A F81B F81 cfg80ok FnLoops.none F81is
noncomputable def F81C : Con Tryz.prog := conD 81 F81A F81B F81.pre F81.fn F81ok (by kernel_rfl)
noncomputable def cfgL81 : List (Con Tryz.prog) := F81C :: cfgL80
noncomputable def cfg81 : Cfg := cfgOf cfgL81
theorem cfg81ok : CfgOk Tryz.prog cfg81 := cfgOf_ok cfgnamed cfgmixed _
/-! 82 veneer/veneerref8.over -/
noncomputable def F82 (x : Ndt × Ndt × Unit) : DT (Int × Unit) :=
  .node [] (x.1.2.1 == (2 : Int))
    (.node [] (x.2.1.2.1 != (2 : Int))
      (.leaf [] ((4 : Int), ()))
      (.req [] (x.1.2.1 == (2 : Int)) true
        (.node [] (decide ((Int.ofNat (List.length x.2.1.2.2.2.2.2.2.2)) > (0 : Int)))
          (.leaf [] ((6 : Int), ()))
          (.node [] (x.1.2.1 != (2 : Int))
            (.node [] (x.2.1.2.1 == (2 : Int))
              (.leaf [] ((5 : Int), ()))
              (.leaf [] ((0 : Int), ())))
            (.leaf [] ((0 : Int), ()))))))
    (.req [] (x.1.2.1 == (2 : Int)) false
      (.node [] (x.1.2.1 != (2 : Int))
        (.node [] (x.2.1.2.1 == (2 : Int))
          (.leaf [] ((5 : Int), ()))
          (.leaf [] ((0 : Int), ())))
        (.leaf [] ((0 : Int), ()))))
abbrev F82A : List AT := [.v (.agg Nd), .v (.agg Nd)]
abbrev F82B : List AT := [.v (.one (.int .i64))]
theorem F82is : ∀ x, DT.Is (runF Tryz.prog cfg81 1000 noL 82 F82A F82B x) (F82 x) := fun x => by unfold DT.Is; kernel_rfl
noncomputable def F82.fn (x : Ndt × Ndt × Unit) : Int × Unit := (F82 x).fn
noncomputable def F82.pre (x : Ndt × Ndt × Unit) : Prop := (F82 x).pre
theorem F82ok : DataOk Tryz.prog 82 F82A F82B F82.pre F82.fn := data_of_tree F82A F82B F82 cfg81ok FnLoops.none F82is
noncomputable def F82C : Con Tryz.prog := conD 82 F82A F82B F82.pre F82.fn F82ok (by kernel_rfl)
noncomputable def cfgL82 : List (Con Tryz.prog) := F82C :: cfgL81
noncomputable def cfg82 : Cfg := cfgOf cfgL82
theorem cfg82ok : CfgOk Tryz.prog cfg82 := cfgOf_ok cfgnamed cfgmixed _
/-! 83 veneer/veneerref8.deep -/
def F83L0S : Shape := ⟨[(2, .val (.ptr 0 0)), (3, .val (.ptr 1 0)), (5, .v (.one (.int .i64))), (6, .v (.one (.int .i64)))], [(0, 4, [.v (.one (.int .i64)), .v (.one (.int .i64)), .v (.one (.int .i64)), .v (.one (.row Nd))]), (1, 8, [.v (.one (.int .i64)), .v (.one (.int .i64)), .v (.one (.int .i64)), .v (.one (.int .i64)), .v (.one (.int .i64)), .v (.one (.row Bk)), .v (.one .str), .v (.one (.row Nm))])], 2⟩
def F83L0S0 : Shape := ⟨[(5, .v (.one (.int .i64)))], [], 2⟩
def F83L0X : List (Option Nat × Shape) := [(some 0, F83L0S0)]
noncomputable def F83L0 (rc : RecC (Dkt × Ndt × Unit) (Int × Unit)) (x : Unit × Unit × Int × Int × Int × Int × Int × List Ndt × Int × Int × Int × Int × Int × List Bkt × List UInt8 × List Nmt × Unit) : DT ((Unit × Unit × Int × Int × Int × Int × Int × List Ndt × Int × Int × Int × Int × Int × List Bkt × List UInt8 × List Nmt × Unit) ⊕ ((Int × Unit) ⊕ Empty)) :=
  .node [] (decide (x.2.2.2.1 < (Int.ofNat (List.length x.2.2.2.2.2.2.2.2.2.2.2.2.2.2.2.1))))
    (let y0 := F12.fn ((x.2.2.2.2.1, (x.2.2.2.2.2.1, (x.2.2.2.2.2.2.1, x.2.2.2.2.2.2.2.1))), (@id (Nmt) (xsAt Nm x.2.2.2.2.2.2.2.2.2.2.2.2.2.2.2.1 (Int.toNat x.2.2.2.1))).2, ())
    let y1 := rc.fn ((x.2.2.2.2.1, (x.2.2.2.2.2.1, (x.2.2.2.2.2.2.1, x.2.2.2.2.2.2.2.1))), y0.1, ())
    .leaf [rc.pre ((x.2.2.2.2.1, (x.2.2.2.2.2.1, (x.2.2.2.2.2.2.1, x.2.2.2.2.2.2.2.1))), y0.1, ()), F12.pre ((x.2.2.2.2.1, (x.2.2.2.2.2.1, (x.2.2.2.2.2.2.1, x.2.2.2.2.2.2.2.1))), (@id (Nmt) (xsAt Nm x.2.2.2.2.2.2.2.2.2.2.2.2.2.2.2.1 (Int.toNat x.2.2.2.1))).2, ()), 0 ≤ x.2.2.2.1, x.2.2.2.1 < Int.ofNat (List.length x.2.2.2.2.2.2.2.2.2.2.2.2.2.2.2.1)] (.inl ((), (), (mxI x.2.2.1 (wrp .i64 ((1 : Int) + y1.1))), (wrp .i64 (x.2.2.2.1 + (1 : Int))), x.2.2.2.2.1, x.2.2.2.2.2.1, x.2.2.2.2.2.2.1, x.2.2.2.2.2.2.2.1, x.2.2.2.2.2.2.2.2.1, x.2.2.2.2.2.2.2.2.2.1, x.2.2.2.2.2.2.2.2.2.2.1, x.2.2.2.2.2.2.2.2.2.2.2.1, x.2.2.2.2.2.2.2.2.2.2.2.2.1, x.2.2.2.2.2.2.2.2.2.2.2.2.2.1, x.2.2.2.2.2.2.2.2.2.2.2.2.2.2.1, x.2.2.2.2.2.2.2.2.2.2.2.2.2.2.2.1, ())))
    (.leaf [] (.inr (.inl (x.2.2.1, ()))))
noncomputable def F83 (rc : RecC (Dkt × Ndt × Unit) (Int × Unit)) (x : Dkt × Ndt × Unit) : DT (Int × Unit) :=
  let y0 := loopOut (F83L0 rc) ((), (), (0 : Int), (0 : Int), x.1.1, x.1.2.1, x.1.2.2.1, x.1.2.2.2, x.2.1.1, x.2.1.2.1, x.2.1.2.2.1, x.2.1.2.2.2.1, x.2.1.2.2.2.2.1, x.2.1.2.2.2.2.2.1, x.2.1.2.2.2.2.2.2.1, x.2.1.2.2.2.2.2.2.2, ())
  let y1 : Int × Unit := getL (Shape.z F83L0S0) y0
  .leaf [loopInv (F83L0 rc) ((), (), (0 : Int), (0 : Int), x.1.1, x.1.2.1, x.1.2.2.1, x.1.2.2.2, x.2.1.1, x.2.1.2.1, x.2.1.2.2.1, x.2.1.2.2.2.1, x.2.1.2.2.2.2.1, x.2.1.2.2.2.2.2.1, x.2.1.2.2.2.2.2.2.1, x.2.1.2.2.2.2.2.2.2, ())] (y1.1, ())
abbrev F83A : List AT := [.v (.agg Dk), .v (.agg Nd)]
abbrev F83B : List AT := [.v (.one (.int .i64))]
noncomputable def F83R (rc : RecC (Dkt × Ndt × Unit) (Int × Unit)) : List (Nat × Rule) := [(0, ruleOf F83L0S F83L0X (F83L0 rc))]
theorem F83body : callable Tryz.prog 83 = true := by kernel_rfl
noncomputable def F83cfg (rc : RecC (Dkt × Ndt × Unit) (Int × Unit)) (ok : DataOk Tryz.prog 83 F83A F83B rc.pre rc.fn) : Cfg := cfgOf (conD 83 F83A F83B rc.pre rc.fn ok F83body :: cfgL82)
theorem F83L0is (rc : RecC (Dkt × Ndt × Unit) (Int × Unit)) (ok : DataOk Tryz.prog 83 F83A F83B rc.pre rc.fn) : ∀ x, DT.Is (runL Tryz.prog (F83cfg rc ok) 1000 (lsOf (F83R rc)) 83 0 F83L0S F83L0X x) ((F83L0 rc) x) := fun x => by unfold DT.Is; kernel_rfl
theorem F83is (rc : RecC (Dkt × Ndt × Unit) (Int × Unit)) (ok : DataOk Tryz.prog 83 F83A F83B rc.pre rc.fn) : ∀ x, DT.Is (runF Tryz.prog (F83cfg rc ok) 1000 (lsOf (F83R rc)) 83 F83A F83B x) ((F83 rc) x) := fun x => by unfold DT.Is; kernel_rfl
theorem F83step (rc : RecC (Dkt × Ndt × Unit) (Int × Unit)) (ok : DataOk Tryz.prog 83 F83A F83B rc.pre rc.fn) : DataOk Tryz.prog 83 F83A F83B (fun x => (F83 rc x).pre) (fun x => (F83 rc x).fn) := data_of_tree F83A F83B (F83 rc) (g := (F83cfg rc ok)) (cfgOf_ok cfgnamed cfgmixed _) (.of_all (cfgOf_ok cfgnamed cfgmixed _) (.cons (rule_of_tree F83L0S F83L0X (F83L0 rc) (F83L0is rc ok)) .nil)) (F83is rc ok)
noncomputable def F83z : Int × Unit := default
noncomputable def F83at : Nat → RecC (Dkt × Ndt × Unit) (Int × Unit)
  | 0 => ⟨fun _ => False, fun _ => F83z⟩
  | n + 1 => ⟨fun x => (F83 (F83at n) x).pre, fun x => (F83 (F83at n) x).fn⟩
theorem F83atok : ∀ n, DataOk Tryz.prog 83 F83A F83B (F83at n).pre (F83at n).fn
  | 0 => DataOk.none _
  | n + 1 => F83step (F83at n) (F83atok n)
noncomputable def F83.fn (x : Dkt × Ndt × Unit) : Int × Unit := (RecC.all F83z F83at).fn x
noncomputable def F83.pre (x : Dkt × Ndt × Unit) : Prop := (RecC.all F83z F83at).pre x
theorem F83ok : DataOk Tryz.prog 83 F83A F83B F83.pre F83.fn := DataOk.depth (ats := F83A) (rts := F83B) F83z F83at F83atok
noncomputable def F83C : Con Tryz.prog := conD 83 F83A F83B F83.pre F83.fn F83ok (by kernel_rfl)
noncomputable def cfgL83 : List (Con Tryz.prog) := F83C :: cfgL82
noncomputable def cfg83 : Cfg := cfgOf cfgL83
theorem cfg83ok : CfgOk Tryz.prog cfg83 := cfgOf_ok cfgnamed cfgmixed _
/-! 84 veneer/veneerref6.Move -/
noncomputable def F84 (x : Dkt × Int × List UInt8 × Int × List UInt8 × Unit) : DT (Dkt × Int × Unit) :=
  let y0 := F30.fn (x.1, x.2.1, x.2.2.1, ())
  .node [F30.pre (x.1, x.2.1, x.2.2.1, ())] (!y0.2.1)
    (.leaf [] (x.1, (2 : Int), ()))
    (let y1 := F30.fn (x.1, x.2.2.2.1, x.2.2.2.2.1, ())
    .node [F30.pre (x.1, x.2.2.2.1, x.2.2.2.2.1, ())] y1.2.1
      (.leaf [] (x.1, (3 : Int), ()))
      (let y2 := F107.fn (x.1, x.2.1, x.2.2.1, ())
      let y3 := F33.fn (y2.1, x.2.2.2.1, x.2.2.2.2.1, y0.1, ())
      .leaf [F33.pre (y2.1, x.2.2.2.1, x.2.2.2.2.1, y0.1, ()), F107.pre (x.1, x.2.1, x.2.2.1, ())] (y3.1, (0 : Int), ())))
abbrev F84A : List AT := [.v (.agg Dk), .v (.one (.int .i64)), .v (.one .str), .v (.one (.int .i64)), .v (.one .str)]
abbrev F84B : List AT := [.v (.agg Dk), .v (.one (.int .i64))]
theorem F84is : ∀ x, DT.Is (runF Tryz.prog cfg83 1000 noL 84 F84A F84B x) (F84 x) := fun x => by unfold DT.Is; kernel_rfl
noncomputable def F84.fn (x : Dkt × Int × List UInt8 × Int × List UInt8 × Unit) : Dkt × Int × Unit := (F84 x).fn
noncomputable def F84.pre (x : Dkt × Int × List UInt8 × Int × List UInt8 × Unit) : Prop := (F84 x).pre
theorem F84ok : DataOk Tryz.prog 84 F84A F84B F84.pre F84.fn := data_of_tree F84A F84B F84 cfg83ok FnLoops.none F84is
noncomputable def F84C : Con Tryz.prog := conD 84 F84A F84B F84.pre F84.fn F84ok (by kernel_rfl)
noncomputable def cfgL84 : List (Con Tryz.prog) := F84C :: cfgL83
noncomputable def cfg84 : Cfg := cfgOf cfgL84
theorem cfg84ok : CfgOk Tryz.prog cfg84 := cfgOf_ok cfgnamed cfgmixed _
/-! 58 veneer/veneerref8.renamed -/
noncomputable def F58 (x : Dkt × List (List UInt8) × List (List UInt8) × Unit) : DT (Dkt × Int × Unit) :=
  .node [] ((Int.ofNat (List.length x.2.1)) == (0 : Int))
    (.leaf [] (x.1, (1 : Int), ()))
    (.node [] ((Int.ofNat (List.length x.2.2.1)) == (0 : Int))
      (.leaf [] (x.1, (1 : Int), ()))
      (let y0 := F78.fn (x.1, x.2.1, ())
      .node [F78.pre (x.1, x.2.1, ())] (y0.2.1 != (0 : Int))
        (.leaf [] (x.1, y0.2.1, ()))
        (let y1 := F77.fn (x.1, x.2.2.1, ())
        .node [F77.pre (x.1, x.2.2.1, ())] (y1.2.2.1 != (0 : Int))
          (.leaf [] (x.1, y1.2.2.1, ()))
          (.node [] (y0.1.2.1 == (2 : Int))
            (let y2 := F81.fn (x.2.2.1, x.2.1, ())
            .node [F81.pre (x.2.2.1, x.2.1, ())] y2.1
              (.leaf [] (x.1, (1 : Int), ()))
              (let y3 := F78.fn (x.1, x.2.2.1, ())
              .node [F78.pre (x.1, x.2.2.1, ())] (y3.2.1 == (0 : Int))
                (.node [] (y3.1.1 == y0.1.1)
                  (.leaf [] (x.1, (0 : Int), ()))
                  (let y4 := F82.fn (y0.1, y3.1, ())
                  .node [F82.pre (y0.1, y3.1, ())] (y4.1 != (0 : Int))
                    (.leaf [] (x.1, y4.1, ()))
                    (let y5 := F79.fn (x.1, y1.1.1, y1.2.1, ())
                    let y6 := F83.fn (x.1, y0.1, ())
                    .node [F83.pre (x.1, y0.1, ()), F79.pre (x.1, y1.1.1, y1.2.1, ())] (decide ((wrp .i64 ((Int.ofNat (List.length x.2.2.1)) + y6.1)) > (16 : Int)))
                      (.leaf [] (x.1, (9 : Int), ()))
                      (let y7 := F77.fn (x.1, x.2.1, ())
                      let y8 := F84.fn (y5.1, y7.1.1, y7.2.1, y1.1.1, y1.2.1, ())
                      .node [F84.pre (y5.1, y7.1.1, y7.2.1, y1.1.1, y1.2.1, ()), F77.pre (x.1, x.2.1, ())] (y8.2.1 != (0 : Int))
                        (.leaf [] (x.1, y8.2.1, ()))
                        (.leaf [] (y8.1, (0 : Int), ()))))))
                (let y4 := F83.fn (x.1, y0.1, ())
                .node [F83.pre (x.1, y0.1, ())] (decide ((wrp .i64 ((Int.ofNat (List.length x.2.2.1)) + y4.1)) > (16 : Int)))
                  (.leaf [] (x.1, (9 : Int), ()))
                  (let y5 := F77.fn (x.1, x.2.1, ())
                  let y6 := F84.fn (x.1, y5.1.1, y5.2.1, y1.1.1, y1.2.1, ())
                  .node [F84.pre (x.1, y5.1.1, y5.2.1, y1.1.1, y1.2.1, ()), F77.pre (x.1, x.2.1, ())] (y6.2.1 != (0 : Int))
                    (.leaf [] (x.1, y6.2.1, ()))
                    (.leaf [] (y6.1, (0 : Int), ()))))))
            (let y2 := F78.fn (x.1, x.2.2.1, ())
            .node [F78.pre (x.1, x.2.2.1, ())] (y2.2.1 == (0 : Int))
              (.node [] (y2.1.1 == y0.1.1)
                (.leaf [] (x.1, (0 : Int), ()))
                (let y3 := F82.fn (y0.1, y2.1, ())
                .node [F82.pre (y0.1, y2.1, ())] (y3.1 != (0 : Int))
                  (.leaf [] (x.1, y3.1, ()))
                  (let y4 := F79.fn (x.1, y1.1.1, y1.2.1, ())
                  let y5 := F83.fn (x.1, y0.1, ())
                  .node [F83.pre (x.1, y0.1, ()), F79.pre (x.1, y1.1.1, y1.2.1, ())] (decide ((wrp .i64 ((Int.ofNat (List.length x.2.2.1)) + y5.1)) > (16 : Int)))
                    (.leaf [] (x.1, (9 : Int), ()))
                    (let y6 := F77.fn (x.1, x.2.1, ())
                    let y7 := F84.fn (y4.1, y6.1.1, y6.2.1, y1.1.1, y1.2.1, ())
                    .node [F84.pre (y4.1, y6.1.1, y6.2.1, y1.1.1, y1.2.1, ()), F77.pre (x.1, x.2.1, ())] (y7.2.1 != (0 : Int))
                      (.leaf [] (x.1, y7.2.1, ()))
                      (.leaf [] (y7.1, (0 : Int), ()))))))
              (let y3 := F83.fn (x.1, y0.1, ())
              .node [F83.pre (x.1, y0.1, ())] (decide ((wrp .i64 ((Int.ofNat (List.length x.2.2.1)) + y3.1)) > (16 : Int)))
                (.leaf [] (x.1, (9 : Int), ()))
                (let y4 := F77.fn (x.1, x.2.1, ())
                let y5 := F84.fn (x.1, y4.1.1, y4.2.1, y1.1.1, y1.2.1, ())
                .node [F84.pre (x.1, y4.1.1, y4.2.1, y1.1.1, y1.2.1, ()), F77.pre (x.1, x.2.1, ())] (y5.2.1 != (0 : Int))
                  (.leaf [] (x.1, y5.2.1, ()))
                  (.leaf [] (y5.1, (0 : Int), ())))))))))
abbrev F58A : List AT := [.v (.agg Dk), .v (.one (.row (.one .str))), .v (.one (.row (.one .str)))]
abbrev F58B : List AT := [.v (.agg Dk), .v (.one (.int .i64))]
theorem F58is : ∀ x, DT.Is (runF Tryz.prog cfg84 1000 noL 58 F58A F58B x) (F58 x) := fun x => by unfold DT.Is; kernel_rfl
noncomputable def F58.fn (x : Dkt × List (List UInt8) × List (List UInt8) × Unit) : Dkt × Int × Unit := (F58 x).fn
noncomputable def F58.pre (x : Dkt × List (List UInt8) × List (List UInt8) × Unit) : Prop := (F58 x).pre
theorem F58ok : DataOk Tryz.prog 58 F58A F58B F58.pre F58.fn := data_of_tree F58A F58B F58 cfg84ok FnLoops.none F58is
noncomputable def F58C : Con Tryz.prog := conD 58 F58A F58B F58.pre F58.fn F58ok (by kernel_rfl)
noncomputable def cfgL85 : List (Con Tryz.prog) := F58C :: cfgL84
noncomputable def cfg85 : Cfg := cfgOf cfgL85
theorem cfg85ok : CfgOk Tryz.prog cfg85 := cfgOf_ok cfgnamed cfgmixed _
/-! 108 veneer/veneerref7.file -/
noncomputable def F108 (x : Ndt × Unit) : DT (Int × Unit) :=
  .node [] (x.1.2.1 == (2 : Int))
    (.leaf [] ((5 : Int), ()))
    (.node [] (x.1.2.1 == (3 : Int))
      (.leaf [] ((1 : Int), ()))
      (.leaf [] ((0 : Int), ())))
abbrev F108A : List AT := [.v (.agg Nd)]
abbrev F108B : List AT := [.v (.one (.int .i64))]
theorem F108is : ∀ x, DT.Is (runF Tryz.prog cfg85 1000 noL 108 F108A F108B x) (F108 x) := fun x => by unfold DT.Is; kernel_rfl
noncomputable def F108.fn (x : Ndt × Unit) : Int × Unit := (F108 x).fn
noncomputable def F108.pre (x : Ndt × Unit) : Prop := (F108 x).pre
theorem F108ok : DataOk Tryz.prog 108 F108A F108B F108.pre F108.fn := data_of_tree F108A F108B F108 cfg85ok FnLoops.none F108is
noncomputable def F108C : Con Tryz.prog := conD 108 F108A F108B F108.pre F108.fn F108ok (by kernel_rfl)
noncomputable def cfgL86 : List (Con Tryz.prog) := F108C :: cfgL85
noncomputable def cfg86 : Cfg := cfgOf cfgL86
theorem cfg86ok : CfgOk Tryz.prog cfg86 := cfgOf_ok cfgnamed cfgmixed _
/-! 122 veneer/veneerref2.find -/
def F122L0S : Shape := ⟨[(1, .v (.one (.int .i64))), (2, .val (.ptr 0 0)), (5, .v (.one (.int .i64)))], [(0, 2, [.v (.one (.int .i64)), .v (.one (.row Bk))])], 1⟩
def F122L0S0 : Shape := ⟨[(4, .v (.one (.int .i64)))], [], 1⟩
def F122L0S1 : Shape := ⟨[], [], 1⟩
def F122L0X : List (Option Nat × Shape) := [(none, F122L0S0), (some 0, F122L0S1)]
noncomputable def F122L0 (x : Int × Unit × Int × Int × List Bkt × Unit) : DT ((Int × Unit × Int × Int × List Bkt × Unit) ⊕ ((Int × Unit) ⊕ (Unit) ⊕ Empty)) :=
  .node [] (decide (x.2.2.1 < (Int.ofNat (List.length x.2.2.2.2.1))))
    (.node [0 ≤ x.2.2.1, x.2.2.1 < Int.ofNat (List.length x.2.2.2.2.1)] ((@id (Bkt) (xsAt Bk x.2.2.2.2.1 (Int.toNat x.2.2.1))).1 == x.1)
      (.leaf [] (.inr (.inl (x.2.2.1, ()))))
      (.leaf [] (.inl (x.1, (), (wrp .i64 (x.2.2.1 + (1 : Int))), x.2.2.2.1, x.2.2.2.2.1, ()))))
    (.leaf [] (.inr (.inr (.inl ()))))
noncomputable def F122 (x : (Int × List Bkt) × Int × Unit) : DT (Int × Unit) :=
  let y0 := loopOut F122L0 (x.2.1, (), (0 : Int), x.1.1, x.1.2, ())
  .node [loopInv F122L0 (x.2.1, (), (0 : Int), x.1.1, x.1.2, ())] (isL y0)
    (let y1 : Int × Unit := getL (Shape.z F122L0S0) y0
    .leaf [] (y1.1, ()))
    (let y1 : Unit := getL (Shape.z F122L0S1) (restR y0)
    .leaf [] ((-1 : Int), ()))
abbrev F122A : List AT := [.v (.agg (.cons (.int .i64) (.one (.row Bk)))), .v (.one (.int .i64))]
abbrev F122B : List AT := [.v (.one (.int .i64))]
noncomputable def F122R : List (Nat × Rule) := [(0, ruleOf F122L0S F122L0X F122L0)]
theorem F122L0is : ∀ x, DT.Is (runL Tryz.prog cfg86 1000 (lsOf F122R) 122 0 F122L0S F122L0X x) (F122L0 x) := fun x => by unfold DT.Is; kernel_rfl
theorem F122is : ∀ x, DT.Is (runF Tryz.prog cfg86 1000 (lsOf F122R) 122 F122A F122B x) (F122 x) := fun x => by unfold DT.Is; kernel_rfl
noncomputable def F122.fn (x : (Int × List Bkt) × Int × Unit) : Int × Unit := (F122 x).fn
noncomputable def F122.pre (x : (Int × List Bkt) × Int × Unit) : Prop := (F122 x).pre
theorem F122ok : DataOk Tryz.prog 122 F122A F122B F122.pre F122.fn := data_of_tree F122A F122B F122 cfg86ok (.of_all cfg86ok (.cons (rule_of_tree F122L0S F122L0X F122L0 (F122L0is)) .nil)) F122is
noncomputable def F122C : Con Tryz.prog := conD 122 F122A F122B F122.pre F122.fn F122ok (by kernel_rfl)
noncomputable def cfgL87 : List (Con Tryz.prog) := F122C :: cfgL86
noncomputable def cfg87 : Cfg := cfgOf cfgL87
theorem cfg87ok : CfgOk Tryz.prog cfg87 := cfgOf_ok cfgnamed cfgmixed _
/-! 109 veneer/veneerref2.More -/
def F109L0S : Shape := ⟨[(1, .v (.one (.int .i64))), (2, .v (.one (.int .i64))), (3, .val (.ptr 0 0)), (7, .v (.one (.int .i64))), (8, .v (.one (.int .i64)))], [(0, 2, [.v (.one (.int .i64)), .v (.one (.row Bk))])], 1⟩
def F109L0S0 : Shape := ⟨[(7, .v (.one (.int .i64)))], [], 1⟩
def F109L0X : List (Option Nat × Shape) := [(some 0, F109L0S0)]
noncomputable def F109L0 (x : Int × Int × Unit × Int × Int × Int × List Bkt × Unit) : DT ((Int × Int × Unit × Int × Int × Int × List Bkt × Unit) ⊕ ((Int × Unit) ⊕ Empty)) :=
  .node [] (decide (x.2.1 > (0 : Int)))
    (.node [¬ (16 : Int) = 0] (decide (x.2.2.2.2.1 ≤ (wrp .i64 (Int.tdiv (wrp .i64 ((wrp .i64 (x.1 + x.2.1)) - (1 : Int))) (16 : Int)))))
      (let y0 := F122.fn ((x.2.2.2.2.2.1, x.2.2.2.2.2.2.1), x.2.2.2.2.1, ())
      .node [F122.pre ((x.2.2.2.2.2.1, x.2.2.2.2.2.2.1), x.2.2.2.2.1, ())] (decide (y0.1 < (0 : Int)))
        (.leaf [] (.inl (x.1, x.2.1, (), (wrp .i64 (x.2.2.2.1 + (1 : Int))), (wrp .i64 (x.2.2.2.2.1 + (1 : Int))), x.2.2.2.2.2.1, x.2.2.2.2.2.2.1, ())))
        (.leaf [] (.inl (x.1, x.2.1, (), x.2.2.2.1, (wrp .i64 (x.2.2.2.2.1 + (1 : Int))), x.2.2.2.2.2.1, x.2.2.2.2.2.2.1, ()))))
      (.leaf [] (.inr (.inl (x.2.2.2.1, ())))))
    (.leaf [] (.inr (.inl (x.2.2.2.1, ()))))
noncomputable def F109 (x : (Int × List Bkt) × Int × Int × Unit) : DT (Int × Unit) :=
  let y0 := loopOut F109L0 (x.2.1, x.2.2.1, (), (0 : Int), (wrp .i64 (Int.tdiv x.2.1 (16 : Int))), x.1.1, x.1.2, ())
  let y1 : Int × Unit := getL (Shape.z F109L0S0) y0
  .leaf [loopInv F109L0 (x.2.1, x.2.2.1, (), (0 : Int), (wrp .i64 (Int.tdiv x.2.1 (16 : Int))), x.1.1, x.1.2, ()), ¬ (16 : Int) = 0] (y1.1, ())
abbrev F109A : List AT := [.v (.agg (.cons (.int .i64) (.one (.row Bk)))), .v (.one (.int .i64)), .v (.one (.int .i64))]
abbrev F109B : List AT := [.v (.one (.int .i64))]
noncomputable def F109R : List (Nat × Rule) := [(0, ruleOf F109L0S F109L0X F109L0)]
theorem F109L0is : ∀ x, DT.Is (runL Tryz.prog cfg87 1000 (lsOf F109R) 109 0 F109L0S F109L0X x) (F109L0 x) := fun x => by unfold DT.Is; kernel_rfl
theorem F109is : ∀ x, DT.Is (runF Tryz.prog cfg87 1000 (lsOf F109R) 109 F109A F109B x) (F109 x) := fun x => by unfold DT.Is; kernel_rfl
noncomputable def F109.fn (x : (Int × List Bkt) × Int × Int × Unit) : Int × Unit := (F109 x).fn
noncomputable def F109.pre (x : (Int × List Bkt) × Int × Int × Unit) : Prop := (F109 x).pre
theorem F109ok : DataOk Tryz.prog 109 F109A F109B F109.pre F109.fn := data_of_tree F109A F109B F109 cfg87ok (.of_all cfg87ok (.cons (rule_of_tree F109L0S F109L0X F109L0 (F109L0is)) .nil)) F109is
noncomputable def F109C : Con Tryz.prog := conD 109 F109A F109B F109.pre F109.fn F109ok (by kernel_rfl)
noncomputable def cfgL88 : List (Con Tryz.prog) := F109C :: cfgL87
noncomputable def cfg88 : Cfg := cfgOf cfgL88
theorem cfg88ok : CfgOk Tryz.prog cfg88 := cfgOf_ok cfgnamed cfgmixed _
/-! 123 veneer/veneerref2.with -/
def F123L0S : Shape := ⟨[(1, .v (.one (.int .i64))), (2, .val (.ptr 0 0)), (4, .val (.ptr 1 0)), (5, .v (.one (.int .i64)))], [(0, 2, [.v (.one (.int .i64)), .v (.one (.row Bk))]), (1, 2, [.v (.one (.int .i64)), .val .nils])], 2⟩
def F123L0S0 : Shape := ⟨[(1, .v (.one (.int .i64))), (2, .val (.ptr 0 0)), (4, .val (.ptr 1 0)), (5, .v (.one (.int .i64)))], [(0, 2, [.v (.one (.int .i64)), .v (.one (.row Bk))]), (1, 2, [.v (.one (.int .i64)), .val .nils])], 2⟩
def F123L0X : List (Option Nat × Shape) := [(some 0, F123L0S0)]
noncomputable def F123L0 (x : Int × Unit × Unit × Int × Int × List Bkt × Int × Unit × Unit) : DT ((Int × Unit × Unit × Int × Int × List Bkt × Int × Unit × Unit) ⊕ ((Int × Unit × Unit × Int × Int × List Bkt × Int × Unit × Unit) ⊕ Empty)) :=
  .node [] (decide (x.2.2.2.1 < (Int.ofNat (List.length x.2.2.2.2.2.1))))
    (.node [0 ≤ x.2.2.2.1, x.2.2.2.1 < Int.ofNat (List.length x.2.2.2.2.2.1)] (decide ((@id (Bkt) (xsAt Bk x.2.2.2.2.2.1 (Int.toNat x.2.2.2.1))).1 < x.1))
      (.leaf [] (.inl (x.1, (), (), (wrp .i64 (x.2.2.2.1 + (1 : Int))), x.2.2.2.2.1, x.2.2.2.2.2.1, x.2.2.2.2.2.2.1, (), ())))
      (.leaf [] (.inr (.inl (x.1, (), (), x.2.2.2.1, x.2.2.2.2.1, x.2.2.2.2.2.1, x.2.2.2.2.2.2.1, (), ())))))
    (.leaf [] (.inr (.inl (x.1, (), (), x.2.2.2.1, x.2.2.2.2.1, x.2.2.2.2.2.1, x.2.2.2.2.2.2.1, (), ()))))
noncomputable def F123 (x : (Int × List Bkt) × Int × Unit) : DT ((Int × List Bkt) × Unit) :=
  let y0 := F122.fn (x.1, x.2.1, ())
  .node [F122.pre (x.1, x.2.1, ())] (decide (y0.1 ≥ (0 : Int)))
    (.leaf [] (x.1, ()))
    (let y1 := loopOut F123L0 (x.2.1, (), (), (0 : Int), x.1.1, x.1.2, (0 : Int), (), ())
    let y2 : Int × Unit × Unit × Int × Int × List Bkt × Int × Unit × Unit := getL (Shape.z F123L0S0) y1
    .leaf [(List.length ((([] ++ (List.take (Int.toNat y2.2.2.2.1) y2.2.2.2.2.2.1)) ++ ((y2.1, ((0 : Int) :: ((0 : Int) :: ((0 : Int) :: ((0 : Int) :: ((0 : Int) :: ((0 : Int) :: ((0 : Int) :: ((0 : Int) :: ((0 : Int) :: ((0 : Int) :: ((0 : Int) :: ((0 : Int) :: ((0 : Int) :: ((0 : Int) :: ((0 : Int) :: ((0 : Int) :: []))))))))))))))))) :: [])) ++ (List.drop (Int.toNat y2.2.2.2.1) y2.2.2.2.2.2.1))) * 32 ≤ Room, 0 ≤ y2.2.2.2.1, y2.2.2.2.1 ≤ Int.ofNat (List.length y2.2.2.2.2.2.1), (List.length (([] ++ (List.take (Int.toNat y2.2.2.2.1) y2.2.2.2.2.2.1)) ++ ((y2.1, ((0 : Int) :: ((0 : Int) :: ((0 : Int) :: ((0 : Int) :: ((0 : Int) :: ((0 : Int) :: ((0 : Int) :: ((0 : Int) :: ((0 : Int) :: ((0 : Int) :: ((0 : Int) :: ((0 : Int) :: ((0 : Int) :: ((0 : Int) :: ((0 : Int) :: ((0 : Int) :: []))))))))))))))))) :: []))) * 32 ≤ Room, (List.length ([] ++ (List.take (Int.toNat y2.2.2.2.1) y2.2.2.2.2.2.1))) * 32 ≤ Room, 0 ≤ y2.2.2.2.1, y2.2.2.2.1 ≤ Int.ofNat (List.length y2.2.2.2.2.2.1), loopInv F123L0 (x.2.1, (), (), (0 : Int), x.1.1, x.1.2, (0 : Int), (), ())] ((y2.2.2.2.2.1, ((([] ++ (List.take (Int.toNat y2.2.2.2.1) y2.2.2.2.2.2.1)) ++ ((y2.1, ((0 : Int) :: ((0 : Int) :: ((0 : Int) :: ((0 : Int) :: ((0 : Int) :: ((0 : Int) :: ((0 : Int) :: ((0 : Int) :: ((0 : Int) :: ((0 : Int) :: ((0 : Int) :: ((0 : Int) :: ((0 : Int) :: ((0 : Int) :: ((0 : Int) :: ((0 : Int) :: []))))))))))))))))) :: [])) ++ (List.drop (Int.toNat y2.2.2.2.1) y2.2.2.2.2.2.1))), ()))
abbrev F123A : List AT := [.v (.agg (.cons (.int .i64) (.one (.row Bk)))), .v (.one (.int .i64))]
abbrev F123B : List AT := [.v (.agg (.cons (.int .i64) (.one (.row Bk))))]
noncomputable def F123R : List (Nat × Rule) := [(0, ruleOf F123L0S F123L0X F123L0)]
theorem F123L0is : ∀ x, DT.Is (runL Tryz.prog cfg88 1000 (lsOf F123R) 123 0 F123L0S F123L0X x) (F123L0 x) := fun x => by unfold DT.Is; kernel_rfl
theorem F123is : ∀ x, DT.Is (runF Tryz.prog cfg88 1000 (lsOf F123R) 123 F123A F123B x) (F123 x) := fun x => by unfold DT.Is; kernel_rfl
noncomputable def F123.fn (x : (Int × List Bkt) × Int × Unit) : (Int × List Bkt) × Unit := (F123 x).fn
noncomputable def F123.pre (x : (Int × List Bkt) × Int × Unit) : Prop := (F123 x).pre
theorem F123ok : DataOk Tryz.prog 123 F123A F123B F123.pre F123.fn := data_of_tree F123A F123B F123 cfg88ok (.of_all cfg88ok (.cons (rule_of_tree F123L0S F123L0X F123L0 (F123L0is)) .nil)) F123is
noncomputable def F123C : Con Tryz.prog := conD 123 F123A F123B F123.pre F123.fn F123ok (by kernel_rfl)
noncomputable def cfgL89 : List (Con Tryz.prog) := F123C :: cfgL88
noncomputable def cfg89 : Cfg := cfgOf cfgL89
theorem cfg89ok : CfgOk Tryz.prog cfg89 := cfgOf_ok cfgnamed cfgmixed _
/-! 110 veneer/veneerref2.Write -/
def F110L0S : Shape := ⟨[(1, .v (.one (.int .i64))), (2, .v (.one (.row (.one (.int .u8))))), (3, .val (.ptr 0 0)), (6, .val (.ptr 1 0)), (7, .v (.one (.int .i64)))], [(0, 2, [.v (.one (.int .i64)), .v (.one (.row Bk))]), (1, 2, [.v (.one (.int .i64)), .val .nils])], 2⟩
def F110L0S0 : Shape := ⟨[(1, .v (.one (.int .i64))), (2, .v (.one (.row (.one (.int .u8))))), (3, .val (.ptr 0 0)), (6, .val (.ptr 1 0))], [(0, 2, [.v (.one (.int .i64)), .v (.one (.row Bk))]), (1, 2, [.v (.one (.int .i64)), .val .nils])], 2⟩
def F110L0X : List (Option Nat × Shape) := [(some 0, F110L0S0)]
noncomputable def F110L0 (x : Int × List (Int) × Unit × Unit × Int × Int × List Bkt × Int × Unit × Unit) : DT ((Int × List (Int) × Unit × Unit × Int × Int × List Bkt × Int × Unit × Unit) ⊕ ((Int × List (Int) × Unit × Unit × Int × List Bkt × Int × Unit × Unit) ⊕ Empty)) :=
  .req [] (decide (x.2.2.2.2.1 < (Int.ofNat (List.length x.2.1)))) false
    (.leaf [] (.inr (.inl (x.1, x.2.1, (), (), x.2.2.2.2.2.1, x.2.2.2.2.2.2.1, x.2.2.2.2.2.2.2.1, (), ()))))
noncomputable def F110 (x : (Int × List Bkt) × Int × List (Int) × Unit) : DT ((Int × List Bkt) × Unit) :=
  let y0 := F51.fn (x.1, ())
  let y1 := loopOut F110L0 (x.2.1, x.2.2.1, (), (), (0 : Int), y0.1.1, y0.1.2, (0 : Int), (), ())
  let y2 : Int × List (Int) × Unit × Unit × Int × List Bkt × Int × Unit × Unit := getL (Shape.z F110L0S0) y1
  .node [loopInv F110L0 (x.2.1, x.2.2.1, (), (), (0 : Int), y0.1.1, y0.1.2, (0 : Int), (), ()), F51.pre (x.1, ())] (decide ((Int.ofNat (List.length y2.2.1)) > (0 : Int)))
    (.leaf [] (((mxI y2.2.2.2.2.1 (wrp .i64 (y2.1 + (Int.ofNat (List.length y2.2.1))))), y2.2.2.2.2.2.1), ()))
    (.leaf [] ((y2.2.2.2.2.1, y2.2.2.2.2.2.1), ()))
abbrev F110A : List AT := [.v (.agg (.cons (.int .i64) (.one (.row Bk)))), .v (.one (.int .i64)), .v (.one (.row (.one (.int .u8))))]
abbrev F110B : List AT := [.v (.agg (.cons (.int .i64) (.one (.row Bk))))]
noncomputable def F110R : List (Nat × Rule) := [(0, ruleOf F110L0S F110L0X F110L0)]
theorem F110L0is : ∀ x, DT.Is (runL Tryz.prog cfg89 1000 (lsOf F110R) 110 0 F110L0S F110L0X x) (F110L0 x) := fun x => by unfold DT.Is; kernel_rfl
theorem F110is : ∀ x, DT.Is (runF Tryz.prog cfg89 1000 (lsOf F110R) 110 F110A F110B x) (F110 x) := fun x => by unfold DT.Is; kernel_rfl
noncomputable def F110.fn (x : (Int × List Bkt) × Int × List (Int) × Unit) : (Int × List Bkt) × Unit := (F110 x).fn
noncomputable def F110.pre (x : (Int × List Bkt) × Int × List (Int) × Unit) : Prop := (F110 x).pre
theorem F110ok : DataOk Tryz.prog 110 F110A F110B F110.pre F110.fn := data_of_tree F110A F110B F110 cfg89ok (.of_all cfg89ok (.cons (rule_of_tree F110L0S F110L0X F110L0 (F110L0is)) .nil)) F110is
noncomputable def F110C : Con Tryz.prog := conD 110 F110A F110B F110.pre F110.fn F110ok (by kernel_rfl)
noncomputable def cfgL90 : List (Con Tryz.prog) := F110C :: cfgL89
noncomputable def cfg90 : Cfg := cfgOf cfgL90
theorem cfg90ok : CfgOk Tryz.prog cfg90 := cfgOf_ok cfgnamed cfgmixed _
/-! 85 veneer/veneerref7.Write -/
noncomputable def F85 (x : Dkt × Int × Int × List (Int) × Unit) : DT (Dkt × Int × Unit) :=
  let y0 := F12.fn (x.1, x.2.1, ())
  let y1 := F108.fn (y0.1, ())
  .node [F108.pre (y0.1, ()), F12.pre (x.1, x.2.1, ())] (y1.1 != (0 : Int))
    (.leaf [] (x.1, y1.1, ()))
    (.node [] (decide (x.2.2.1 < (0 : Int)))
      (.leaf [] (x.1, (1 : Int), ()))
      (.node [] (decide (x.2.2.1 > (32768 : Int)))
        (.leaf [] (x.1, (1 : Int), ()))
        (.node [] (decide ((Int.ofNat (List.length x.2.2.2.1)) > (wrp .i64 ((32768 : Int) - x.2.2.1))))
          (.leaf [] (x.1, (1 : Int), ()))
          (let y2 := F31.fn (x.1, ())
          let y3 := F109.fn ((y0.1.2.2.2.2.1, y0.1.2.2.2.2.2.1), x.2.2.1, (Int.ofNat (List.length x.2.2.2.1)), ())
          .node [F109.pre ((y0.1.2.2.2.2.1, y0.1.2.2.2.2.2.1), x.2.2.1, (Int.ofNat (List.length x.2.2.2.1)), ()), (let r : List AV := [.x (.i .i64 x.1.1)]; r = r), F31.pre (x.1, ())] (decide (y3.1 > (wrp .i64 (x.1.1 - y2.1))))
            (.leaf [] (x.1, (8 : Int), ()))
            (let y4 := F110.fn ((y0.1.2.2.2.2.1, y0.1.2.2.2.2.2.1), x.2.2.1, x.2.2.2.1, ())
            let y5 := F32.fn (x.1, (y0.1.1, (y0.1.2.1, (y0.1.2.2.1, (y0.1.2.2.2.1, (y4.1.1, (y4.1.2, y0.1.2.2.2.2.2.2)))))), ())
            .leaf [F32.pre (x.1, (y0.1.1, (y0.1.2.1, (y0.1.2.2.1, (y0.1.2.2.2.1, (y4.1.1, (y4.1.2, y0.1.2.2.2.2.2.2)))))), ()), F110.pre ((y0.1.2.2.2.2.1, y0.1.2.2.2.2.2.1), x.2.2.1, x.2.2.2.1, ())] (y5.1, (0 : Int), ()))))))
abbrev F85A : List AT := [.v (.agg Dk), .v (.one (.int .i64)), .v (.one (.int .i64)), .v (.one (.row (.one (.int .u8))))]
abbrev F85B : List AT := [.v (.agg Dk), .v (.one (.int .i64))]
theorem F85is : ∀ x, DT.Is (runF Tryz.prog cfg90 1000 noL 85 F85A F85B x) (F85 x) := fun x => by unfold DT.Is; kernel_rfl
noncomputable def F85.fn (x : Dkt × Int × Int × List (Int) × Unit) : Dkt × Int × Unit := (F85 x).fn
noncomputable def F85.pre (x : Dkt × Int × Int × List (Int) × Unit) : Prop := (F85 x).pre
theorem F85ok : DataOk Tryz.prog 85 F85A F85B F85.pre F85.fn := data_of_tree F85A F85B F85 cfg90ok FnLoops.none F85is
noncomputable def F85C : Con Tryz.prog := conD 85 F85A F85B F85.pre F85.fn F85ok (by kernel_rfl)
noncomputable def cfgL91 : List (Con Tryz.prog) := F85C :: cfgL90
noncomputable def cfg91 : Cfg := cfgOf cfgL91
theorem cfg91ok : CfgOk Tryz.prog cfg91 := cfgOf_ok cfgnamed cfgmixed _
/-! 111 veneer/veneerref2.Cut -/
def F111L1S : Shape := ⟨[(1, .v (.one (.int .i64))), (2, .val (.ptr 0 0)), (4, .val (.ptr 1 0)), (5, .own Bk), (6, .v (.one (.int .i64))), (7, .val (.ptr 3 0)), (8, .v (.one (.int .i64)))], [(0, 2, [.v (.one (.int .i64)), .v (.one (.row Bk))]), (1, 2, [.v (.one (.int .i64)), .val .nils]), (3, 2, [.v (.one (.int .i64)), .v (.one (.row (.one (.int .u8))))])], 4⟩
def F111L1S0 : Shape := ⟨[(1, .v (.one (.int .i64))), (2, .val (.ptr 0 0)), (4, .val (.ptr 1 0)), (5, .own Bk), (6, .v (.one (.int .i64))), (7, .val (.ptr 3 0))], [(0, 2, [.v (.one (.int .i64)), .v (.one (.row Bk))]), (1, 2, [.v (.one (.int .i64)), .val .nils]), (3, 2, [.v (.one (.int .i64)), .v (.one (.row (.one (.int .u8))))])], 4⟩
def F111L1X : List (Option Nat × Shape) := [(some 2, F111L1S0)]
noncomputable def F111L1 (x : Int × Unit × Unit × List Bkt × Int × Unit × Int × Int × List Bkt × Int × Unit × Int × List (Int) × Unit) : DT ((Int × Unit × Unit × List Bkt × Int × Unit × Int × Int × List Bkt × Int × Unit × Int × List (Int) × Unit) ⊕ ((Int × Unit × Unit × List Bkt × Int × Unit × Int × List Bkt × Int × Unit × Int × List (Int) × Unit) ⊕ Empty)) :=
  .node [] (decide (x.2.2.2.2.2.2.1 < (16 : Int)))
    (.req [] (decide ((wrp .i64 ((wrp .i64 (x.2.2.2.2.2.2.2.2.2.2.2.1 * (16 : Int))) + x.2.2.2.2.2.2.1)) ≥ x.1)) false
      (.leaf [] (.inl (x.1, (), (), x.2.2.2.1, x.2.2.2.2.1, (), (wrp .i64 (x.2.2.2.2.2.2.1 + (1 : Int))), x.2.2.2.2.2.2.2.1, x.2.2.2.2.2.2.2.2.1, x.2.2.2.2.2.2.2.2.2.1, (), x.2.2.2.2.2.2.2.2.2.2.2.1, x.2.2.2.2.2.2.2.2.2.2.2.2.1, ()))))
    (.leaf [] (.inr (.inl (x.1, (), (), x.2.2.2.1, x.2.2.2.2.1, (), x.2.2.2.2.2.2.2.1, x.2.2.2.2.2.2.2.2.1, x.2.2.2.2.2.2.2.2.2.1, (), x.2.2.2.2.2.2.2.2.2.2.2.1, x.2.2.2.2.2.2.2.2.2.2.2.2.1, ()))))
def F111L0S : Shape := ⟨[(1, .v (.one (.int .i64))), (2, .val (.ptr 0 0)), (4, .val (.ptr 1 0)), (5, .own Bk), (6, .v (.one (.int .i64)))], [(0, 2, [.v (.one (.int .i64)), .v (.one (.row Bk))]), (1, 2, [.v (.one (.int .i64)), .val .nils])], 2⟩
def F111L0S0 : Shape := ⟨[(1, .v (.one (.int .i64))), (4, .val (.ptr 1 0)), (5, .own Bk)], [(1, 2, [.v (.one (.int .i64)), .val .nils])], 2⟩
def F111L0X : List (Option Nat × Shape) := [(some 0, F111L0S0)]
noncomputable def F111L0 (x : Int × Unit × Unit × List Bkt × Int × Int × List Bkt × Int × Unit × Unit) : DT ((Int × Unit × Unit × List Bkt × Int × Int × List Bkt × Int × Unit × Unit) ⊕ ((Int × Unit × List Bkt × Int × Unit × Unit) ⊕ Empty)) :=
  .node [] (decide (x.2.2.2.2.1 < (Int.ofNat (List.length x.2.2.2.2.2.2.1))))
    (.node [0 ≤ x.2.2.2.2.1, x.2.2.2.2.1 < Int.ofNat (List.length x.2.2.2.2.2.2.1)] (decide ((wrp .i64 ((@id (Bkt) (xsAt Bk x.2.2.2.2.2.2.1 (Int.toNat x.2.2.2.2.1))).1 * (16 : Int))) ≥ x.1))
      (.leaf [] (.inl (x.1, (), (), x.2.2.2.1, (wrp .i64 (x.2.2.2.2.1 + (1 : Int))), x.2.2.2.2.2.1, x.2.2.2.2.2.2.1, x.2.2.2.2.2.2.2.1, (), ())))
      (let y0 := loopOut F111L1 (x.1, (), (), x.2.2.2.1, x.2.2.2.2.1, (), (0 : Int), x.2.2.2.2.2.1, x.2.2.2.2.2.2.1, x.2.2.2.2.2.2.2.1, (), (@id (Bkt) (xsAt Bk x.2.2.2.2.2.2.1 (Int.toNat x.2.2.2.2.1))).1, (@id (Bkt) (xsAt Bk x.2.2.2.2.2.2.1 (Int.toNat x.2.2.2.2.1))).2, ())
      let y1 : Int × Unit × Unit × List Bkt × Int × Unit × Int × List Bkt × Int × Unit × Int × List (Int) × Unit := getL (Shape.z F111L1S0) y0
      .leaf [(List.length (y1.2.2.2.1 ++ ((y1.2.2.2.2.2.2.2.2.2.2.1, y1.2.2.2.2.2.2.2.2.2.2.2.1) :: []))) * 32 ≤ Room, loopInv F111L1 (x.1, (), (), x.2.2.2.1, x.2.2.2.2.1, (), (0 : Int), x.2.2.2.2.2.1, x.2.2.2.2.2.2.1, x.2.2.2.2.2.2.2.1, (), (@id (Bkt) (xsAt Bk x.2.2.2.2.2.2.1 (Int.toNat x.2.2.2.2.1))).1, (@id (Bkt) (xsAt Bk x.2.2.2.2.2.2.1 (Int.toNat x.2.2.2.2.1))).2, ())] (.inl (y1.1, (), (), (y1.2.2.2.1 ++ ((y1.2.2.2.2.2.2.2.2.2.2.1, y1.2.2.2.2.2.2.2.2.2.2.2.1) :: [])), (wrp .i64 (y1.2.2.2.2.1 + (1 : Int))), y1.2.2.2.2.2.2.1, y1.2.2.2.2.2.2.2.1, y1.2.2.2.2.2.2.2.2.1, (), ()))))
    (.leaf [] (.inr (.inl (x.1, (), x.2.2.2.1, x.2.2.2.2.2.2.2.1, (), ()))))
noncomputable def F111 (x : (Int × List Bkt) × Int × Unit) : DT ((Int × List Bkt) × Unit) :=
  let y0 := F51.fn (x.1, ())
  let y1 := loopOut F111L0 (x.2.1, (), (), [], (0 : Int), y0.1.1, y0.1.2, (0 : Int), (), ())
  let y2 : Int × Unit × List Bkt × Int × Unit × Unit := getL (Shape.z F111L0S0) y1
  .leaf [loopInv F111L0 (x.2.1, (), (), [], (0 : Int), y0.1.1, y0.1.2, (0 : Int), (), ()), F51.pre (x.1, ())] ((y2.1, y2.2.2.1), ())
abbrev F111A : List AT := [.v (.agg (.cons (.int .i64) (.one (.row Bk)))), .v (.one (.int .i64))]
abbrev F111B : List AT := [.v (.agg (.cons (.int .i64) (.one (.row Bk))))]
noncomputable def F111R : List (Nat × Rule) := [(1, ruleOf F111L1S F111L1X F111L1), (0, ruleOf F111L0S F111L0X F111L0)]
theorem F111L1is : ∀ x, DT.Is (runL Tryz.prog cfg91 1000 (lsOf F111R) 111 1 F111L1S F111L1X x) (F111L1 x) := fun x => by unfold DT.Is; kernel_rfl
theorem F111L0is : ∀ x, DT.Is (runL Tryz.prog cfg91 1000 (lsOf F111R) 111 0 F111L0S F111L0X x) (F111L0 x) := fun x => by unfold DT.Is; kernel_rfl
theorem F111is : ∀ x, DT.Is (runF Tryz.prog cfg91 1000 (lsOf F111R) 111 F111A F111B x) (F111 x) := fun x => by unfold DT.Is; kernel_rfl
noncomputable def F111.fn (x : (Int × List Bkt) × Int × Unit) : (Int × List Bkt) × Unit := (F111 x).fn
noncomputable def F111.pre (x : (Int × List Bkt) × Int × Unit) : Prop := (F111 x).pre
theorem F111ok : DataOk Tryz.prog 111 F111A F111B F111.pre F111.fn := data_of_tree F111A F111B F111 cfg91ok (.of_all cfg91ok (.cons (rule_of_tree F111L1S F111L1X F111L1 (F111L1is)) (.cons (rule_of_tree F111L0S F111L0X F111L0 (F111L0is)) .nil))) F111is
noncomputable def F111C : Con Tryz.prog := conD 111 F111A F111B F111.pre F111.fn F111ok (by kernel_rfl)
noncomputable def cfgL92 : List (Con Tryz.prog) := F111C :: cfgL91
noncomputable def cfg92 : Cfg := cfgOf cfgL92
theorem cfg92ok : CfgOk Tryz.prog cfg92 := cfgOf_ok cfgnamed cfgmixed _
/-! 86 veneer/veneerref7.Cut -/
noncomputable def F86 (x : Dkt × Int × Int × Unit) : DT (Dkt × Int × Unit) :=
  let y0 := F12.fn (x.1, x.2.1, ())
  let y1 := F108.fn (y0.1, ())
  .node [F108.pre (y0.1, ()), F12.pre (x.1, x.2.1, ())] (y1.1 != (0 : Int))
    (.leaf [] (x.1, y1.1, ()))
    (.node [] (decide (x.2.2.1 < (0 : Int)))
      (.leaf [] (x.1, (1 : Int), ()))
      (.node [] (decide (x.2.2.1 > (32768 : Int)))
        (.leaf [] (x.1, (1 : Int), ()))
        (let y2 := F111.fn ((y0.1.2.2.2.2.1, y0.1.2.2.2.2.2.1), x.2.2.1, ())
        let y3 := F32.fn (x.1, (y0.1.1, (y0.1.2.1, (y0.1.2.2.1, (y0.1.2.2.2.1, (y2.1.1, (y2.1.2, y0.1.2.2.2.2.2.2)))))), ())
        .leaf [F32.pre (x.1, (y0.1.1, (y0.1.2.1, (y0.1.2.2.1, (y0.1.2.2.2.1, (y2.1.1, (y2.1.2, y0.1.2.2.2.2.2.2)))))), ()), F111.pre ((y0.1.2.2.2.2.1, y0.1.2.2.2.2.2.1), x.2.2.1, ())] (y3.1, (0 : Int), ()))))
abbrev F86A : List AT := [.v (.agg Dk), .v (.one (.int .i64)), .v (.one (.int .i64))]
abbrev F86B : List AT := [.v (.agg Dk), .v (.one (.int .i64))]
theorem F86is : ∀ x, DT.Is (runF Tryz.prog cfg92 1000 noL 86 F86A F86B x) (F86 x) := fun x => by unfold DT.Is; kernel_rfl
noncomputable def F86.fn (x : Dkt × Int × Int × Unit) : Dkt × Int × Unit := (F86 x).fn
noncomputable def F86.pre (x : Dkt × Int × Int × Unit) : Prop := (F86 x).pre
theorem F86ok : DataOk Tryz.prog 86 F86A F86B F86.pre F86.fn := data_of_tree F86A F86B F86 cfg92ok FnLoops.none F86is
noncomputable def F86C : Con Tryz.prog := conD 86 F86A F86B F86.pre F86.fn F86ok (by kernel_rfl)
noncomputable def cfgL93 : List (Con Tryz.prog) := F86C :: cfgL92
noncomputable def cfg93 : Cfg := cfgOf cfgL93
theorem cfg93ok : CfgOk Tryz.prog cfg93 := cfgOf_ok cfgnamed cfgmixed _
/-! 87 veneer/veneerref7.Chmod -/
noncomputable def F87 (x : Dkt × Int × Int × Unit) : DT (Dkt × Int × Unit) :=
  .node [] (decide (x.2.2.1 < (0 : Int)))
    (.leaf [] (x.1, (1 : Int), ()))
    (.node [] (decide (x.2.2.1 > (511 : Int)))
      (.leaf [] (x.1, (1 : Int), ()))
      (let y0 := F12.fn (x.1, x.2.1, ())
      let y1 := F32.fn (x.1, (y0.1.1, (y0.1.2.1, (x.2.2.1, y0.1.2.2.2))), ())
      .leaf [F32.pre (x.1, (y0.1.1, (y0.1.2.1, (x.2.2.1, y0.1.2.2.2))), ()), F12.pre (x.1, x.2.1, ())] (y1.1, (0 : Int), ())))
abbrev F87A : List AT := [.v (.agg Dk), .v (.one (.int .i64)), .v (.one (.int .i64))]
abbrev F87B : List AT := [.v (.agg Dk), .v (.one (.int .i64))]
theorem F87is : ∀ x, DT.Is (runF Tryz.prog cfg93 1000 noL 87 F87A F87B x) (F87 x) := fun x => by unfold DT.Is; kernel_rfl
noncomputable def F87.fn (x : Dkt × Int × Int × Unit) : Dkt × Int × Unit := (F87 x).fn
noncomputable def F87.pre (x : Dkt × Int × Int × Unit) : Prop := (F87 x).pre
theorem F87ok : DataOk Tryz.prog 87 F87A F87B F87.pre F87.fn := data_of_tree F87A F87B F87 cfg93ok FnLoops.none F87is
noncomputable def F87C : Con Tryz.prog := conD 87 F87A F87B F87.pre F87.fn F87ok (by kernel_rfl)
noncomputable def cfgL94 : List (Con Tryz.prog) := F87C :: cfgL93
noncomputable def cfg94 : Cfg := cfgOf cfgL94
theorem cfg94ok : CfgOk Tryz.prog cfg94 := cfgOf_ok cfgnamed cfgmixed _
/-! 124 veneer/veneerref2.byteAt -/
noncomputable def F124 (x : (Int × List Bkt) × Int × Unit) : DT (Int × Unit) :=
  let y0 := F122.fn (x.1, (wrp .i64 (Int.tdiv x.2.1 (16 : Int))), ())
  .node [F122.pre (x.1, (wrp .i64 (Int.tdiv x.2.1 (16 : Int))), ()), ¬ (16 : Int) = 0] (decide (y0.1 < (0 : Int)))
    (.leaf [] ((0 : Int), ()))
    (.leaf [0 ≤ (wrp .i64 (Int.tmod x.2.1 (16 : Int))), (wrp .i64 (Int.tmod x.2.1 (16 : Int))) < Int.ofNat (List.length (@id (Bkt) (xsAt Bk x.1.2 (Int.toNat y0.1))).2), ¬ (16 : Int) = 0, wrp .i64 (Int.tmod x.2.1 (16 : Int)) = Int.tmod x.2.1 (16 : Int), 0 ≤ y0.1, y0.1 < Int.ofNat (List.length x.1.2)] ((@id (Int) (xsAt (.one (.int .u8)) (@id (Bkt) (xsAt Bk x.1.2 (Int.toNat y0.1))).2 (Int.toNat (wrp .i64 (Int.tmod x.2.1 (16 : Int)))))), ()))
abbrev F124A : List AT := [.v (.agg (.cons (.int .i64) (.one (.row Bk)))), .v (.one (.int .i64))]
abbrev F124B : List AT := [.v (.one (.int .u8))]
theorem F124is : ∀ x, DT.Is (runF Tryz.prog cfg94 1000 noL 124 F124A F124B x) (F124 x) := fun x => by unfold DT.Is; kernel_rfl
noncomputable def F124.fn (x : (Int × List Bkt) × Int × Unit) : Int × Unit := (F124 x).fn
noncomputable def F124.pre (x : (Int × List Bkt) × Int × Unit) : Prop := (F124 x).pre
theorem F124ok : DataOk Tryz.prog 124 F124A F124B F124.pre F124.fn := data_of_tree F124A F124B F124 cfg94ok FnLoops.none F124is
noncomputable def F124C : Con Tryz.prog := conD 124 F124A F124B F124.pre F124.fn F124ok (by kernel_rfl)
noncomputable def cfgL95 : List (Con Tryz.prog) := F124C :: cfgL94
noncomputable def cfg95 : Cfg := cfgOf cfgL95
theorem cfg95ok : CfgOk Tryz.prog cfg95 := cfgOf_ok cfgnamed cfgmixed _
/-! 112 veneer/veneerref2.Read -/
def F112L0S : Shape := ⟨[(1, .v (.one (.int .i64))), (2, .v (.one (.int .i64))), (3, .val (.ptr 0 0)), (7, .own (.one (.int .u8))), (8, .v (.one (.int .i64)))], [(0, 2, [.v (.one (.int .i64)), .v (.one (.row Bk))])], 1⟩
def F112L0S0 : Shape := ⟨[(7, .own (.one (.int .u8)))], [], 1⟩
def F112L0X : List (Option Nat × Shape) := [(some 0, F112L0S0)]
noncomputable def F112L0 (x : Int × Int × Unit × List (Int) × Int × Int × List Bkt × Unit) : DT ((Int × Int × Unit × List (Int) × Int × Int × List Bkt × Unit) ⊕ ((List (Int) × Unit) ⊕ Empty)) :=
  .node [] (decide (x.2.2.2.2.1 < (wrp .i64 (x.1 + x.2.1))))
    (.node [] (decide (x.2.2.2.2.1 < x.2.2.2.2.2.1))
      (let y0 := F124.fn ((x.2.2.2.2.2.1, x.2.2.2.2.2.2.1), x.2.2.2.2.1, ())
      .leaf [(List.length (x.2.2.2.1 ++ (y0.1 :: []))) * 1 ≤ Room, F124.pre ((x.2.2.2.2.2.1, x.2.2.2.2.2.2.1), x.2.2.2.2.1, ())] (.inl (x.1, x.2.1, (), (x.2.2.2.1 ++ (y0.1 :: [])), (wrp .i64 (x.2.2.2.2.1 + (1 : Int))), x.2.2.2.2.2.1, x.2.2.2.2.2.2.1, ())))
      (.leaf [] (.inr (.inl (x.2.2.2.1, ())))))
    (.leaf [] (.inr (.inl (x.2.2.2.1, ()))))
noncomputable def F112 (x : (Int × List Bkt) × Int × Int × Unit) : DT (List (Int) × Unit) :=
  let y0 := loopOut F112L0 (x.2.1, x.2.2.1, (), [], x.2.1, x.1.1, x.1.2, ())
  let y1 : List (Int) × Unit := getL (Shape.z F112L0S0) y0
  .leaf [loopInv F112L0 (x.2.1, x.2.2.1, (), [], x.2.1, x.1.1, x.1.2, ())] (y1.1, ())
abbrev F112A : List AT := [.v (.agg (.cons (.int .i64) (.one (.row Bk)))), .v (.one (.int .i64)), .v (.one (.int .i64))]
abbrev F112B : List AT := [.own (.one (.int .u8))]
noncomputable def F112R : List (Nat × Rule) := [(0, ruleOf F112L0S F112L0X F112L0)]
theorem F112L0is : ∀ x, DT.Is (runL Tryz.prog cfg95 1000 (lsOf F112R) 112 0 F112L0S F112L0X x) (F112L0 x) := fun x => by unfold DT.Is; kernel_rfl
theorem F112is : ∀ x, DT.Is (runF Tryz.prog cfg95 1000 (lsOf F112R) 112 F112A F112B x) (F112 x) := fun x => by unfold DT.Is; kernel_rfl
noncomputable def F112.fn (x : (Int × List Bkt) × Int × Int × Unit) : List (Int) × Unit := (F112 x).fn
noncomputable def F112.pre (x : (Int × List Bkt) × Int × Int × Unit) : Prop := (F112 x).pre
theorem F112ok : DataOk Tryz.prog 112 F112A F112B F112.pre F112.fn := data_of_tree F112A F112B F112 cfg95ok (.of_all cfg95ok (.cons (rule_of_tree F112L0S F112L0X F112L0 (F112L0is)) .nil)) F112is
noncomputable def F112C : Con Tryz.prog := conD 112 F112A F112B F112.pre F112.fn F112ok (by kernel_rfl)
noncomputable def cfgL96 : List (Con Tryz.prog) := F112C :: cfgL95
noncomputable def cfg96 : Cfg := cfgOf cfgL96
theorem cfg96ok : CfgOk Tryz.prog cfg96 := cfgOf_ok cfgnamed cfgmixed _
/-! 88 veneer/veneerref7.Read -/
noncomputable def F88 (x : Dkt × Int × Int × Int × Unit) : DT (List (Int) × Int × Unit) :=
  let y0 := F12.fn (x.1, x.2.1, ())
  let y1 := F108.fn (y0.1, ())
  .node [F108.pre (y0.1, ()), F12.pre (x.1, x.2.1, ())] (y1.1 != (0 : Int))
    (.leaf [] ([], y1.1, ()))
    (.node [] (decide (x.2.2.1 < (0 : Int)))
      (.leaf [] ([], (1 : Int), ()))
      (.node [] (decide (x.2.2.1 > (32768 : Int)))
        (.leaf [] ([], (1 : Int), ()))
        (.node [] (decide (x.2.2.2.1 < (0 : Int)))
          (.leaf [] ([], (1 : Int), ()))
          (.node [] (decide (x.2.2.2.1 > (32768 : Int)))
            (.leaf [] ([], (1 : Int), ()))
            (let y2 := F112.fn ((y0.1.2.2.2.2.1, y0.1.2.2.2.2.2.1), x.2.2.1, x.2.2.2.1, ())
            .leaf [F112.pre ((y0.1.2.2.2.2.1, y0.1.2.2.2.2.2.1), x.2.2.1, x.2.2.2.1, ())] (y2.1, (0 : Int), ()))))))
abbrev F88A : List AT := [.v (.agg Dk), .v (.one (.int .i64)), .v (.one (.int .i64)), .v (.one (.int .i64))]
abbrev F88B : List AT := [.own (.one (.int .u8)), .v (.one (.int .i64))]
theorem F88is : ∀ x, DT.Is (runF Tryz.prog cfg96 1000 noL 88 F88A F88B x) (F88 x) := fun x => by unfold DT.Is; kernel_rfl
noncomputable def F88.fn (x : Dkt × Int × Int × Int × Unit) : List (Int) × Int × Unit := (F88 x).fn
noncomputable def F88.pre (x : Dkt × Int × Int × Int × Unit) : Prop := (F88 x).pre
theorem F88ok : DataOk Tryz.prog 88 F88A F88B F88.pre F88.fn := data_of_tree F88A F88B F88 cfg96ok FnLoops.none F88is
noncomputable def F88C : Con Tryz.prog := conD 88 F88A F88B F88.pre F88.fn F88ok (by kernel_rfl)
noncomputable def cfgL97 : List (Con Tryz.prog) := F88C :: cfgL96
noncomputable def cfg97 : Cfg := cfgOf cfgL97
theorem cfg97ok : CfgOk Tryz.prog cfg97 := cfgOf_ok cfgnamed cfgmixed _
/-! 89 veneer/veneerref7.Info -/
noncomputable def F89 (x : Dkt × Int × Unit) : DT ((Int × Int × Int × Int × Int) × Unit) :=
  let y0 := F12.fn (x.1, x.2.1, ())
  .node [F12.pre (x.1, x.2.1, ())] (!y0.2.1)
    (.leaf [] (((0 : Int), ((0 : Int), ((0 : Int), ((0 : Int), (0 : Int))))), ()))
    (.node [] (y0.1.2.1 == (1 : Int))
      (.leaf [] ((y0.1.1, (y0.1.2.1, (y0.1.2.2.1, (y0.1.2.2.2.1, y0.1.2.2.2.2.1)))), ()))
      (.node [] (y0.1.2.1 == (3 : Int))
        (.leaf [] ((y0.1.1, (y0.1.2.1, (y0.1.2.2.1, (y0.1.2.2.2.1, (Int.ofNat (List.length y0.1.2.2.2.2.2.2.1)))))), ()))
        (.leaf [] ((y0.1.1, (y0.1.2.1, (y0.1.2.2.1, (y0.1.2.2.2.1, (Int.ofNat (List.length y0.1.2.2.2.2.2.2.2)))))), ()))))
abbrev F89A : List AT := [.v (.agg Dk), .v (.one (.int .i64))]
abbrev F89B : List AT := [.v (.agg (.cons (.int .i64) (.cons (.int .i64) Rw)))]
theorem F89is : ∀ x, DT.Is (runF Tryz.prog cfg97 1000 noL 89 F89A F89B x) (F89 x) := fun x => by unfold DT.Is; kernel_rfl
noncomputable def F89.fn (x : Dkt × Int × Unit) : (Int × Int × Int × Int × Int) × Unit := (F89 x).fn
noncomputable def F89.pre (x : Dkt × Int × Unit) : Prop := (F89 x).pre
theorem F89ok : DataOk Tryz.prog 89 F89A F89B F89.pre F89.fn := data_of_tree F89A F89B F89 cfg97ok FnLoops.none F89is
noncomputable def F89C : Con Tryz.prog := conD 89 F89A F89B F89.pre F89.fn F89ok (by kernel_rfl)
noncomputable def cfgL98 : List (Con Tryz.prog) := F89C :: cfgL97
noncomputable def cfg98 : Cfg := cfgOf cfgL98
theorem cfg98ok : CfgOk Tryz.prog cfg98 := cfgOf_ok cfgnamed cfgmixed _
/-! 59 veneer/veneerref8.on -/
def F59L0S : Shape := ⟨[(6, .val (.ptr 2 0)), (7, .val (.ptr 3 0)), (9, .val (.ptr 4 0)), (10, .v (.one (.int .i64))), (11, .val (.ptr 5 0)), (12, .val (.ptr 6 0)), (13, .v (.one (.int .i64)))], [(2, 4, [.v (.one (.int .i64)), .v (.one (.int .i64)), .v (.one (.int .i64)), .val .nils]), (3, 7, [.val .nils, .val .nils, .v (.one (.int .i64)), .v (.one (.int .i64)), .v (.one (.int .i64)), .v (.one (.int .i64)), .v (.one (.int .i64))]), (4, 8, [.v (.one (.int .i64)), .v (.one (.int .i64)), .v (.one (.int .i64)), .v (.one (.int .i64)), .v (.one (.int .i64)), .v (.one (.row Bk)), .v (.one .str), .v (.one (.row Nm))]), (5, 4, [.v (.one (.int .i64)), .v (.one (.int .i64)), .v (.one (.int .i64)), .v (.one (.row Nd))]), (6, 7, [.val .nils, .own (.one .str), .v (.one (.int .i64)), .v (.one (.int .i64)), .v (.one (.int .i64)), .v (.one (.int .i64)), .v (.one (.int .i64))])], 7⟩
def F59L0S0 : Shape := ⟨[(6, .val (.ptr 2 0)), (7, .val (.ptr 3 0)), (10, .v (.one (.int .i64))), (11, .val (.ptr 5 0)), (12, .val (.ptr 6 0))], [(2, 4, [.v (.one (.int .i64)), .v (.one (.int .i64)), .v (.one (.int .i64)), .val .nils]), (3, 7, [.val .nils, .val .nils, .v (.one (.int .i64)), .v (.one (.int .i64)), .v (.one (.int .i64)), .v (.one (.int .i64)), .v (.one (.int .i64))]), (5, 4, [.v (.one (.int .i64)), .v (.one (.int .i64)), .v (.one (.int .i64)), .v (.one (.row Nd))]), (6, 7, [.val .nils, .own (.one .str), .v (.one (.int .i64)), .v (.one (.int .i64)), .v (.one (.int .i64)), .v (.one (.int .i64)), .v (.one (.int .i64))])], 7⟩
def F59L0X : List (Option Nat × Shape) := [(some 1, F59L0S0)]
noncomputable def F59L0 (x : Unit × Unit × Unit × Int × Unit × Unit × Int × Int × Int × Int × Unit × Unit × Unit × Int × Int × Int × Int × Int × Int × Int × Int × Int × Int × List Bkt × List UInt8 × List Nmt × Int × Int × Int × List Ndt × Unit × List (List UInt8) × Int × Int × Int × Int × Int × Unit) : DT ((Unit × Unit × Unit × Int × Unit × Unit × Int × Int × Int × Int × Unit × Unit × Unit × Int × Int × Int × Int × Int × Int × Int × Int × Int × Int × List Bkt × List UInt8 × List Nmt × Int × Int × Int × List Ndt × Unit × List (List UInt8) × Int × Int × Int × Int × Int × Unit) ⊕ ((Unit × Unit × Int × Unit × Unit × Int × Int × Int × Unit × Unit × Unit × Int × Int × Int × Int × Int × Int × Int × Int × List Ndt × Unit × List (List UInt8) × Int × Int × Int × Int × Int × Unit) ⊕ Empty)) :=
  .node [] (decide (x.2.2.2.2.2.2.1 < (Int.ofNat (List.length x.2.2.2.2.2.2.2.2.2.2.2.2.2.2.2.2.2.2.2.2.2.2.2.2.2.1))))
    (.leaf [(List.length (x.2.2.2.2.2.2.2.2.2.2.2.2.2.2.2.2.2.2.2.2.2.2.2.2.2.2.2.2.2.2.2.1 ++ ((@id (Nmt) (xsAt Nm x.2.2.2.2.2.2.2.2.2.2.2.2.2.2.2.2.2.2.2.2.2.2.2.2.2.1 (Int.toNat x.2.2.2.2.2.2.1))).1 :: []))) * 16 ≤ Room, (let r : List AV := [.x (.s (@id (Nmt) (xsAt Nm x.2.2.2.2.2.2.2.2.2.2.2.2.2.2.2.2.2.2.2.2.2.2.2.2.2.1 (Int.toNat x.2.2.2.2.2.2.1))).1)]; r = r), 0 ≤ x.2.2.2.2.2.2.1, x.2.2.2.2.2.2.1 < Int.ofNat (List.length x.2.2.2.2.2.2.2.2.2.2.2.2.2.2.2.2.2.2.2.2.2.2.2.2.2.1)] (.inl ((), (), (), x.2.2.2.1, (), (), (wrp .i64 (x.2.2.2.2.2.2.1 + (1 : Int))), x.2.2.2.2.2.2.2.1, x.2.2.2.2.2.2.2.2.1, x.2.2.2.2.2.2.2.2.2.1, (), (), (), x.2.2.2.2.2.2.2.2.2.2.2.2.2.1, x.2.2.2.2.2.2.2.2.2.2.2.2.2.2.1, x.2.2.2.2.2.2.2.2.2.2.2.2.2.2.2.1, x.2.2.2.2.2.2.2.2.2.2.2.2.2.2.2.2.1, x.2.2.2.2.2.2.2.2.2.2.2.2.2.2.2.2.2.1, x.2.2.2.2.2.2.2.2.2.2.2.2.2.2.2.2.2.2.1, x.2.2.2.2.2.2.2.2.2.2.2.2.2.2.2.2.2.2.2.1, x.2.2.2.2.2.2.2.2.2.2.2.2.2.2.2.2.2.2.2.2.1, x.2.2.2.2.2.2.2.2.2.2.2.2.2.2.2.2.2.2.2.2.2.1, x.2.2.2.2.2.2.2.2.2.2.2.2.2.2.2.2.2.2.2.2.2.2.1, x.2.2.2.2.2.2.2.2.2.2.2.2.2.2.2.2.2.2.2.2.2.2.2.1, x.2.2.2.2.2.2.2.2.2.2.2.2.2.2.2.2.2.2.2.2.2.2.2.2.1, x.2.2.2.2.2.2.2.2.2.2.2.2.2.2.2.2.2.2.2.2.2.2.2.2.2.1, x.2.2.2.2.2.2.2.2.2.2.2.2.2.2.2.2.2.2.2.2.2.2.2.2.2.2.1, x.2.2.2.2.2.2.2.2.2.2.2.2.2.2.2.2.2.2.2.2.2.2.2.2.2.2.2.1, x.2.2.2.2.2.2.2.2.2.2.2.2.2.2.2.2.2.2.2.2.2.2.2.2.2.2.2.2.1, x.2.2.2.2.2.2.2.2.2.2.2.2.2.2.2.2.2.2.2.2.2.2.2.2.2.2.2.2.2.1, (), (x.2.2.2.2.2.2.2.2.2.2.2.2.2.2.2.2.2.2.2.2.2.2.2.2.2.2.2.2.2.2.2.1 ++ ((@id (Nmt) (xsAt Nm x.2.2.2.2.2.2.2.2.2.2.2.2.2.2.2.2.2.2.2.2.2.2.2.2.2.1 (Int.toNat x.2.2.2.2.2.2.1))).1 :: [])), x.2.2.2.2.2.2.2.2.2.2.2.2.2.2.2.2.2.2.2.2.2.2.2.2.2.2.2.2.2.2.2.2.1, x.2.2.2.2.2.2.2.2.2.2.2.2.2.2.2.2.2.2.2.2.2.2.2.2.2.2.2.2.2.2.2.2.2.1, x.2.2.2.2.2.2.2.2.2.2.2.2.2.2.2.2.2.2.2.2.2.2.2.2.2.2.2.2.2.2.2.2.2.2.1, x.2.2.2.2.2.2.2.2.2.2.2.2.2.2.2.2.2.2.2.2.2.2.2.2.2.2.2.2.2.2.2.2.2.2.2.1, x.2.2.2.2.2.2.2.2.2.2.2.2.2.2.2.2.2.2.2.2.2.2.2.2.2.2.2.2.2.2.2.2.2.2.2.2.1, ())))
    (.leaf [] (.inr (.inl ((), (), x.2.2.2.1, (), (), x.2.2.2.2.2.2.2.1, x.2.2.2.2.2.2.2.2.1, x.2.2.2.2.2.2.2.2.2.1, (), (), (), x.2.2.2.2.2.2.2.2.2.2.2.2.2.1, x.2.2.2.2.2.2.2.2.2.2.2.2.2.2.1, x.2.2.2.2.2.2.2.2.2.2.2.2.2.2.2.1, x.2.2.2.2.2.2.2.2.2.2.2.2.2.2.2.2.1, x.2.2.2.2.2.2.2.2.2.2.2.2.2.2.2.2.2.1, x.2.2.2.2.2.2.2.2.2.2.2.2.2.2.2.2.2.2.2.2.2.2.2.2.2.2.1, x.2.2.2.2.2.2.2.2.2.2.2.2.2.2.2.2.2.2.2.2.2.2.2.2.2.2.2.1, x.2.2.2.2.2.2.2.2.2.2.2.2.2.2.2.2.2.2.2.2.2.2.2.2.2.2.2.2.1, x.2.2.2.2.2.2.2.2.2.2.2.2.2.2.2.2.2.2.2.2.2.2.2.2.2.2.2.2.2.1, (), x.2.2.2.2.2.2.2.2.2.2.2.2.2.2.2.2.2.2.2.2.2.2.2.2.2.2.2.2.2.2.2.1, x.2.2.2.2.2.2.2.2.2.2.2.2.2.2.2.2.2.2.2.2.2.2.2.2.2.2.2.2.2.2.2.2.1, x.2.2.2.2.2.2.2.2.2.2.2.2.2.2.2.2.2.2.2.2.2.2.2.2.2.2.2.2.2.2.2.2.2.1, x.2.2.2.2.2.2.2.2.2.2.2.2.2.2.2.2.2.2.2.2.2.2.2.2.2.2.2.2.2.2.2.2.2.2.1, x.2.2.2.2.2.2.2.2.2.2.2.2.2.2.2.2.2.2.2.2.2.2.2.2.2.2.2.2.2.2.2.2.2.2.2.1, x.2.2.2.2.2.2.2.2.2.2.2.2.2.2.2.2.2.2.2.2.2.2.2.2.2.2.2.2.2.2.2.2.2.2.2.2.1, ()))))
noncomputable def F59 (x : Dkt × (Int × List UInt8 × List UInt8 × Int × Int × Int × List (Int)) × List (List UInt8) × Unit) : DT (Dkt × (List (Int) × List (List UInt8) × Int × Int × Int × Int × Int) × Int × Unit) :=
  let y0 := F78.fn (x.1, x.2.2.1, ())
  .node [F78.pre (x.1, x.2.2.1, ())] (y0.2.1 != (0 : Int))
    (.leaf [] (x.1, ([], ([], ((0 : Int), ((0 : Int), ((0 : Int), ((0 : Int), (0 : Int))))))), y0.2.1, ()))
    (.node [] (x.2.1.1 == (7 : Int))
      (let y1 := F85.fn (x.1, y0.1.1, x.2.1.2.2.2.2.1, x.2.1.2.2.2.2.2.2, ())
      .leaf [F85.pre (x.1, y0.1.1, x.2.1.2.2.2.2.1, x.2.1.2.2.2.2.2.2, ())] (y1.1, ([], ([], ((0 : Int), ((0 : Int), ((0 : Int), ((0 : Int), (0 : Int))))))), y1.2.1, ()))
      (.node [] (x.2.1.1 == (9 : Int))
        (let y1 := F86.fn (x.1, y0.1.1, x.2.1.2.2.2.2.2.1, ())
        .leaf [F86.pre (x.1, y0.1.1, x.2.1.2.2.2.2.2.1, ())] (y1.1, ([], ([], ((0 : Int), ((0 : Int), ((0 : Int), ((0 : Int), (0 : Int))))))), y1.2.1, ()))
        (.node [] (x.2.1.1 == (10 : Int))
          (let y1 := F87.fn (x.1, y0.1.1, x.2.1.2.2.2.1, ())
          .leaf [F87.pre (x.1, y0.1.1, x.2.1.2.2.2.1, ())] (y1.1, ([], ([], ((0 : Int), ((0 : Int), ((0 : Int), ((0 : Int), (0 : Int))))))), y1.2.1, ()))
          (.node [] (x.2.1.1 == (8 : Int))
            (let y1 := F88.fn (x.1, y0.1.1, x.2.1.2.2.2.2.1, x.2.1.2.2.2.2.2.1, ())
            .leaf [(let r : List AV := [.agg [.x (.own 7 0 (.one (.int .u8)) true 0 (List.length y1.1)), .nils, .i .i64 (0), .i .i64 (0), .i .i64 (0), .i .i64 (0), .i .i64 (0)]]; r = r), F88.pre (x.1, y0.1.1, x.2.1.2.2.2.2.1, x.2.1.2.2.2.2.2.1, ())] (x.1, (y1.1, ([], ((0 : Int), ((0 : Int), ((0 : Int), ((0 : Int), (0 : Int))))))), y1.2.1, ()))
            (.node [] (x.2.1.1 == (11 : Int))
              (let y1 := F89.fn (x.1, y0.1.1, ())
              .leaf [(let r : List AV := [.agg [.nils, .nils, .x (.i .i64 y1.1.1), .x (.i .i64 y1.1.2.1), .x (.i .i64 y1.1.2.2.1), .x (.i .i64 y1.1.2.2.2.1), .x (.i .i64 y1.1.2.2.2.2)]]; r = r), F89.pre (x.1, y0.1.1, ())] (x.1, ([], ([], y1.1)), y0.2.1, ()))
              (.node [] (x.2.1.1 == (12 : Int))
                (.node [] (y0.1.2.1 != (2 : Int))
                  (.leaf [] (x.1, ([], ([], ((0 : Int), ((0 : Int), ((0 : Int), ((0 : Int), (0 : Int))))))), (4 : Int), ()))
                  (let y1 := loopOut F59L0 ((), (), (), y0.2.1, (), (), (0 : Int), (0 : Int), (0 : Int), (0 : Int), (), (), (), (0 : Int), (0 : Int), (0 : Int), (0 : Int), (0 : Int), y0.1.1, y0.1.2.1, y0.1.2.2.1, y0.1.2.2.2.1, y0.1.2.2.2.2.1, y0.1.2.2.2.2.2.1, y0.1.2.2.2.2.2.2.1, y0.1.2.2.2.2.2.2.2, x.1.1, x.1.2.1, x.1.2.2.1, x.1.2.2.2, (), [], (0 : Int), (0 : Int), (0 : Int), (0 : Int), (0 : Int), ())
                  let y2 : Unit × Unit × Int × Unit × Unit × Int × Int × Int × Unit × Unit × Unit × Int × Int × Int × Int × Int × Int × Int × Int × List Ndt × Unit × List (List UInt8) × Int × Int × Int × Int × Int × Unit := getL (Shape.z F59L0S0) y1
                  .leaf [(let r : List AV := [.agg [.nils, .x (.own 7 0 (.one .str) true 0 (List.length y2.2.2.2.2.2.2.2.2.2.2.2.2.2.2.2.2.2.2.2.2.2.1)), .x (.i .i64 y2.2.2.2.2.2.2.2.2.2.2.2.2.2.2.2.2.2.2.2.2.2.2.1), .x (.i .i64 y2.2.2.2.2.2.2.2.2.2.2.2.2.2.2.2.2.2.2.2.2.2.2.2.1), .x (.i .i64 y2.2.2.2.2.2.2.2.2.2.2.2.2.2.2.2.2.2.2.2.2.2.2.2.2.1), .x (.i .i64 y2.2.2.2.2.2.2.2.2.2.2.2.2.2.2.2.2.2.2.2.2.2.2.2.2.2.1), .x (.i .i64 y2.2.2.2.2.2.2.2.2.2.2.2.2.2.2.2.2.2.2.2.2.2.2.2.2.2.2.1)]]; r = r), loopInv F59L0 ((), (), (), y0.2.1, (), (), (0 : Int), (0 : Int), (0 : Int), (0 : Int), (), (), (), (0 : Int), (0 : Int), (0 : Int), (0 : Int), (0 : Int), y0.1.1, y0.1.2.1, y0.1.2.2.1, y0.1.2.2.2.1, y0.1.2.2.2.2.1, y0.1.2.2.2.2.2.1, y0.1.2.2.2.2.2.2.1, y0.1.2.2.2.2.2.2.2, x.1.1, x.1.2.1, x.1.2.2.1, x.1.2.2.2, (), [], (0 : Int), (0 : Int), (0 : Int), (0 : Int), (0 : Int), ())] ((y2.2.2.2.2.2.2.2.2.2.2.2.2.2.2.2.2.1, (y2.2.2.2.2.2.2.2.2.2.2.2.2.2.2.2.2.2.1, (y2.2.2.2.2.2.2.2.2.2.2.2.2.2.2.2.2.2.2.1, y2.2.2.2.2.2.2.2.2.2.2.2.2.2.2.2.2.2.2.2.1))), ([], (y2.2.2.2.2.2.2.2.2.2.2.2.2.2.2.2.2.2.2.2.2.2.1, (y2.2.2.2.2.2.2.2.2.2.2.2.2.2.2.2.2.2.2.2.2.2.2.1, (y2.2.2.2.2.2.2.2.2.2.2.2.2.2.2.2.2.2.2.2.2.2.2.2.1, (y2.2.2.2.2.2.2.2.2.2.2.2.2.2.2.2.2.2.2.2.2.2.2.2.2.1, (y2.2.2.2.2.2.2.2.2.2.2.2.2.2.2.2.2.2.2.2.2.2.2.2.2.2.1, y2.2.2.2.2.2.2.2.2.2.2.2.2.2.2.2.2.2.2.2.2.2.2.2.2.2.2.1)))))), y2.2.2.1, ())))
                (.req [] (y0.1.2.1 != (3 : Int)) true
                  (.leaf [] (x.1, ([], ([], ((0 : Int), ((0 : Int), ((0 : Int), ((0 : Int), (0 : Int))))))), (1 : Int), ())))))))))
abbrev F59A : List AT := [.v (.agg Dk), .v (.agg (.cons (.int .i64) (.cons .str (.cons .str (.cons (.int .i64) (.cons (.int .i64) Bk)))))), .v (.one (.row (.one .str)))]
abbrev F59B : List AT := [.v (.agg Dk), .v (.agg (.cons (.row (.one (.int .u8))) (.cons (.row (.one .str)) (.cons (.int .i64) (.cons (.int .i64) Rw))))), .v (.one (.int .i64))]
noncomputable def F59R : List (Nat × Rule) := [(0, ruleOf F59L0S F59L0X F59L0)]
theorem F59L0is : ∀ x, DT.Is (runL Tryz.prog cfg98 1000 (lsOf F59R) 59 0 F59L0S F59L0X x) (F59L0 x) := fun x => by unfold DT.Is; kernel_rfl
theorem F59is : ∀ x, DT.Is (runF Tryz.prog cfg98 1000 (lsOf F59R) 59 F59A F59B x) (F59 x) := fun x => by unfold DT.Is; kernel_rfl
noncomputable def F59.fn (x : Dkt × (Int × List UInt8 × List UInt8 × Int × Int × Int × List (Int)) × List (List UInt8) × Unit) : Dkt × (List (Int) × List (List UInt8) × Int × Int × Int × Int × Int) × Int × Unit := (F59 x).fn
noncomputable def F59.pre (x : Dkt × (Int × List UInt8 × List UInt8 × Int × Int × Int × List (Int)) × List (List UInt8) × Unit) : Prop := (F59 x).pre
theorem F59ok : DataOk Tryz.prog 59 F59A F59B F59.pre F59.fn := data_of_tree F59A F59B F59 cfg98ok (.of_all cfg98ok (.cons (rule_of_tree F59L0S F59L0X F59L0 (F59L0is)) .nil)) F59is
noncomputable def F59C : Con Tryz.prog := conD 59 F59A F59B F59.pre F59.fn F59ok (by kernel_rfl)
noncomputable def cfgL99 : List (Con Tryz.prog) := F59C :: cfgL98
noncomputable def cfg99 : Cfg := cfgOf cfgL99
theorem cfg99ok : CfgOk Tryz.prog cfg99 := cfgOf_ok cfgnamed cfgmixed _
/-! 29 veneer/veneerref8.Do -/
noncomputable def F29 (x : Dkt × Bool × (Int × List UInt8 × List UInt8 × Int × Int × Int × List (Int)) × Unit) : DT (Dkt × (List (Int) × List (List UInt8) × Int × Int × Int × Int × Int) × Int × Unit) :=
  .node [] (decide (x.2.2.1.1 < (1 : Int)))
    (.leaf [] (x.1, ([], ([], ((0 : Int), ((0 : Int), ((0 : Int), ((0 : Int), (0 : Int))))))), (1 : Int), ()))
    (.node [] (decide (x.2.2.1.1 > (14 : Int)))
      (.leaf [] (x.1, ([], ([], ((0 : Int), ((0 : Int), ((0 : Int), ((0 : Int), (0 : Int))))))), (1 : Int), ()))
      (let y0 := F52.fn (x.2.2.1.2.1, ())
      .node [F52.pre (x.2.2.1.2.1, ())] (y0.2.1 == (0 : Int))
        (let y1 := F53.fn (x.2.2.1, ())
        .node [F53.pre (x.2.2.1, ())] y1.1
          (let y2 := F52.fn (x.2.2.1.2.2.1, ())
          .node [F52.pre (x.2.2.1.2.2.1, ())] (y2.2.1 == (0 : Int))
            (.node [] x.2.1
              (let y3 := F54.fn (x.2.2.1, ())
              .node [F54.pre (x.2.2.1, ())] (!y3.1)
                (.leaf [] (x.1, ([], ([], ((0 : Int), ((0 : Int), ((0 : Int), ((0 : Int), (0 : Int))))))), (10 : Int), ()))
                (.node [] (y2.2.1 != (0 : Int))
                  (.leaf [] (x.1, ([], ([], ((0 : Int), ((0 : Int), ((0 : Int), ((0 : Int), (0 : Int))))))), y2.2.1, ()))
                  (.node [] (x.2.2.1.1 == (1 : Int))
                    (let y4 := F55.fn (x.1, x.2.2.1, y0.1, ())
                    .req [] (x.2.2.1.1 == (1 : Int)) true
                      (.leaf [F55.pre (x.1, x.2.2.1, y0.1, ())] (y4.1, ([], ([], ((0 : Int), ((0 : Int), ((0 : Int), ((0 : Int), (0 : Int))))))), y4.2.1, ())))
                    (.node [] (x.2.2.1.1 == (2 : Int))
                      (let y4 := F55.fn (x.1, x.2.2.1, y0.1, ())
                      .req [] (x.2.2.1.1 == (2 : Int)) true
                        (.leaf [F55.pre (x.1, x.2.2.1, y0.1, ())] (y4.1, ([], ([], ((0 : Int), ((0 : Int), ((0 : Int), ((0 : Int), (0 : Int))))))), y4.2.1, ())))
                      (.node [] (x.2.2.1.1 == (13 : Int))
                        (let y4 := F55.fn (x.1, x.2.2.1, y0.1, ())
                        .leaf [F55.pre (x.1, x.2.2.1, y0.1, ())] (y4.1, ([], ([], ((0 : Int), ((0 : Int), ((0 : Int), ((0 : Int), (0 : Int))))))), y4.2.1, ()))
                        (.node [] (x.2.2.1.1 == (4 : Int))
                          (let y4 := F56.fn (x.1, x.2.2.1, y0.1, ())
                          .req [] (x.2.2.1.1 == (4 : Int)) true
                            (.leaf [F56.pre (x.1, x.2.2.1, y0.1, ())] (y4.1, ([], ([], ((0 : Int), ((0 : Int), ((0 : Int), ((0 : Int), (0 : Int))))))), y4.2.1, ())))
                          (.node [] (x.2.2.1.1 == (5 : Int))
                            (let y4 := F56.fn (x.1, x.2.2.1, y0.1, ())
                            .leaf [F56.pre (x.1, x.2.2.1, y0.1, ())] (y4.1, ([], ([], ((0 : Int), ((0 : Int), ((0 : Int), ((0 : Int), (0 : Int))))))), y4.2.1, ()))
                            (.node [] (x.2.2.1.1 == (3 : Int))
                              (let y4 := F57.fn (x.1, y0.1, y2.1, ())
                              .leaf [F57.pre (x.1, y0.1, y2.1, ())] (y4.1, ([], ([], ((0 : Int), ((0 : Int), ((0 : Int), ((0 : Int), (0 : Int))))))), y4.2.1, ()))
                              (.node [] (x.2.2.1.1 == (6 : Int))
                                (let y4 := F58.fn (x.1, y0.1, y2.1, ())
                                .leaf [F58.pre (x.1, y0.1, y2.1, ())] (y4.1, ([], ([], ((0 : Int), ((0 : Int), ((0 : Int), ((0 : Int), (0 : Int))))))), y4.2.1, ()))
                                (let y4 := F59.fn (x.1, x.2.2.1, y0.1, ())
                                .leaf [F59.pre (x.1, x.2.2.1, y0.1, ())] (y4.1, y4.2.1, y4.2.2.1, ())))))))))))
              (.node [] (y2.2.1 != (0 : Int))
                (.leaf [] (x.1, ([], ([], ((0 : Int), ((0 : Int), ((0 : Int), ((0 : Int), (0 : Int))))))), y2.2.1, ()))
                (.node [] (x.2.2.1.1 == (1 : Int))
                  (let y3 := F55.fn (x.1, x.2.2.1, y0.1, ())
                  .req [] (x.2.2.1.1 == (1 : Int)) true
                    (.leaf [F55.pre (x.1, x.2.2.1, y0.1, ())] (y3.1, ([], ([], ((0 : Int), ((0 : Int), ((0 : Int), ((0 : Int), (0 : Int))))))), y3.2.1, ())))
                  (.node [] (x.2.2.1.1 == (2 : Int))
                    (let y3 := F55.fn (x.1, x.2.2.1, y0.1, ())
                    .req [] (x.2.2.1.1 == (2 : Int)) true
                      (.leaf [F55.pre (x.1, x.2.2.1, y0.1, ())] (y3.1, ([], ([], ((0 : Int), ((0 : Int), ((0 : Int), ((0 : Int), (0 : Int))))))), y3.2.1, ())))
                    (.node [] (x.2.2.1.1 == (13 : Int))
                      (let y3 := F55.fn (x.1, x.2.2.1, y0.1, ())
                      .leaf [F55.pre (x.1, x.2.2.1, y0.1, ())] (y3.1, ([], ([], ((0 : Int), ((0 : Int), ((0 : Int), ((0 : Int), (0 : Int))))))), y3.2.1, ()))
                      (.node [] (x.2.2.1.1 == (4 : Int))
                        (let y3 := F56.fn (x.1, x.2.2.1, y0.1, ())
                        .req [] (x.2.2.1.1 == (4 : Int)) true
                          (.leaf [F56.pre (x.1, x.2.2.1, y0.1, ())] (y3.1, ([], ([], ((0 : Int), ((0 : Int), ((0 : Int), ((0 : Int), (0 : Int))))))), y3.2.1, ())))
                        (.node [] (x.2.2.1.1 == (5 : Int))
                          (let y3 := F56.fn (x.1, x.2.2.1, y0.1, ())
                          .leaf [F56.pre (x.1, x.2.2.1, y0.1, ())] (y3.1, ([], ([], ((0 : Int), ((0 : Int), ((0 : Int), ((0 : Int), (0 : Int))))))), y3.2.1, ()))
                          (.node [] (x.2.2.1.1 == (3 : Int))
                            (let y3 := F57.fn (x.1, y0.1, y2.1, ())
                            .leaf [F57.pre (x.1, y0.1, y2.1, ())] (y3.1, ([], ([], ((0 : Int), ((0 : Int), ((0 : Int), ((0 : Int), (0 : Int))))))), y3.2.1, ()))
                            (.node [] (x.2.2.1.1 == (6 : Int))
                              (let y3 := F58.fn (x.1, y0.1, y2.1, ())
                              .leaf [F58.pre (x.1, y0.1, y2.1, ())] (y3.1, ([], ([], ((0 : Int), ((0 : Int), ((0 : Int), ((0 : Int), (0 : Int))))))), y3.2.1, ()))
                              (let y3 := F59.fn (x.1, x.2.2.1, y0.1, ())
                              .leaf [F59.pre (x.1, x.2.2.1, y0.1, ())] (y3.1, y3.2.1, y3.2.2.1, ())))))))))))
            (.node [] (y2.2.1 != (0 : Int))
              (.leaf [] (x.1, ([], ([], ((0 : Int), ((0 : Int), ((0 : Int), ((0 : Int), (0 : Int))))))), y2.2.1, ()))
              (.node [] (x.2.2.1.1 == (1 : Int))
                (let y3 := F55.fn (x.1, x.2.2.1, y0.1, ())
                .req [] (x.2.2.1.1 == (1 : Int)) true
                  (.leaf [F55.pre (x.1, x.2.2.1, y0.1, ())] (y3.1, ([], ([], ((0 : Int), ((0 : Int), ((0 : Int), ((0 : Int), (0 : Int))))))), y3.2.1, ())))
                (.node [] (x.2.2.1.1 == (2 : Int))
                  (let y3 := F55.fn (x.1, x.2.2.1, y0.1, ())
                  .req [] (x.2.2.1.1 == (2 : Int)) true
                    (.leaf [F55.pre (x.1, x.2.2.1, y0.1, ())] (y3.1, ([], ([], ((0 : Int), ((0 : Int), ((0 : Int), ((0 : Int), (0 : Int))))))), y3.2.1, ())))
                  (.node [] (x.2.2.1.1 == (13 : Int))
                    (let y3 := F55.fn (x.1, x.2.2.1, y0.1, ())
                    .leaf [F55.pre (x.1, x.2.2.1, y0.1, ())] (y3.1, ([], ([], ((0 : Int), ((0 : Int), ((0 : Int), ((0 : Int), (0 : Int))))))), y3.2.1, ()))
                    (.node [] (x.2.2.1.1 == (4 : Int))
                      (let y3 := F56.fn (x.1, x.2.2.1, y0.1, ())
                      .req [] (x.2.2.1.1 == (4 : Int)) true
                        (.leaf [F56.pre (x.1, x.2.2.1, y0.1, ())] (y3.1, ([], ([], ((0 : Int), ((0 : Int), ((0 : Int), ((0 : Int), (0 : Int))))))), y3.2.1, ())))
                      (.node [] (x.2.2.1.1 == (5 : Int))
                        (let y3 := F56.fn (x.1, x.2.2.1, y0.1, ())
                        .leaf [F56.pre (x.1, x.2.2.1, y0.1, ())] (y3.1, ([], ([], ((0 : Int), ((0 : Int), ((0 : Int), ((0 : Int), (0 : Int))))))), y3.2.1, ()))
                        (.node [] (x.2.2.1.1 == (3 : Int))
                          (let y3 := F57.fn (x.1, y0.1, y2.1, ())
                          .leaf [F57.pre (x.1, y0.1, y2.1, ())] (y3.1, ([], ([], ((0 : Int), ((0 : Int), ((0 : Int), ((0 : Int), (0 : Int))))))), y3.2.1, ()))
                          (.node [] (x.2.2.1.1 == (6 : Int))
                            (let y3 := F58.fn (x.1, y0.1, y2.1, ())
                            .leaf [F58.pre (x.1, y0.1, y2.1, ())] (y3.1, ([], ([], ((0 : Int), ((0 : Int), ((0 : Int), ((0 : Int), (0 : Int))))))), y3.2.1, ()))
                            (let y3 := F59.fn (x.1, x.2.2.1, y0.1, ())
                            .leaf [F59.pre (x.1, x.2.2.1, y0.1, ())] (y3.1, y3.2.1, y3.2.2.1, ())))))))))))
          (.req [] (y0.2.1 == (0 : Int)) true
            (.node [] x.2.1
              (let y2 := F54.fn (x.2.2.1, ())
              .node [F54.pre (x.2.2.1, ())] (!y2.1)
                (.leaf [] (x.1, ([], ([], ((0 : Int), ((0 : Int), ((0 : Int), ((0 : Int), (0 : Int))))))), (10 : Int), ()))
                (.node [] (y0.2.1 != (0 : Int))
                  (.leaf [] (x.1, ([], ([], ((0 : Int), ((0 : Int), ((0 : Int), ((0 : Int), (0 : Int))))))), y0.2.1, ()))
                  (.node [] (x.2.2.1.1 == (1 : Int))
                    (let y3 := F55.fn (x.1, x.2.2.1, y0.1, ())
                    .req [] (x.2.2.1.1 == (1 : Int)) true
                      (.leaf [F55.pre (x.1, x.2.2.1, y0.1, ())] (y3.1, ([], ([], ((0 : Int), ((0 : Int), ((0 : Int), ((0 : Int), (0 : Int))))))), y3.2.1, ())))
                    (.node [] (x.2.2.1.1 == (2 : Int))
                      (let y3 := F55.fn (x.1, x.2.2.1, y0.1, ())
                      .req [] (x.2.2.1.1 == (2 : Int)) true
                        (.leaf [F55.pre (x.1, x.2.2.1, y0.1, ())] (y3.1, ([], ([], ((0 : Int), ((0 : Int), ((0 : Int), ((0 : Int), (0 : Int))))))), y3.2.1, ())))
                      (.node [] (x.2.2.1.1 == (13 : Int))
                        (let y3 := F55.fn (x.1, x.2.2.1, y0.1, ())
                        .leaf [F55.pre (x.1, x.2.2.1, y0.1, ())] (y3.1, ([], ([], ((0 : Int), ((0 : Int), ((0 : Int), ((0 : Int), (0 : Int))))))), y3.2.1, ()))
                        (.node [] (x.2.2.1.1 == (4 : Int))
                          (let y3 := F56.fn (x.1, x.2.2.1, y0.1, ())
                          .req [] (x.2.2.1.1 == (4 : Int)) true
                            (.leaf [F56.pre (x.1, x.2.2.1, y0.1, ())] (y3.1, ([], ([], ((0 : Int), ((0 : Int), ((0 : Int), ((0 : Int), (0 : Int))))))), y3.2.1, ())))
                          (.node [] (x.2.2.1.1 == (5 : Int))
                            (let y3 := F56.fn (x.1, x.2.2.1, y0.1, ())
                            .leaf [F56.pre (x.1, x.2.2.1, y0.1, ())] (y3.1, ([], ([], ((0 : Int), ((0 : Int), ((0 : Int), ((0 : Int), (0 : Int))))))), y3.2.1, ()))
                            (.node [] (x.2.2.1.1 == (3 : Int))
                              (let y3 := F57.fn (x.1, y0.1, [], ())
                              .leaf [F57.pre (x.1, y0.1, [], ())] (y3.1, ([], ([], ((0 : Int), ((0 : Int), ((0 : Int), ((0 : Int), (0 : Int))))))), y3.2.1, ()))
                              (.node [] (x.2.2.1.1 == (6 : Int))
                                (let y3 := F58.fn (x.1, y0.1, [], ())
                                .leaf [F58.pre (x.1, y0.1, [], ())] (y3.1, ([], ([], ((0 : Int), ((0 : Int), ((0 : Int), ((0 : Int), (0 : Int))))))), y3.2.1, ()))
                                (let y3 := F59.fn (x.1, x.2.2.1, y0.1, ())
                                .leaf [F59.pre (x.1, x.2.2.1, y0.1, ())] (y3.1, y3.2.1, y3.2.2.1, ())))))))))))
              (.node [] (y0.2.1 != (0 : Int))
                (.leaf [] (x.1, ([], ([], ((0 : Int), ((0 : Int), ((0 : Int), ((0 : Int), (0 : Int))))))), y0.2.1, ()))
                (.node [] (x.2.2.1.1 == (1 : Int))
                  (let y2 := F55.fn (x.1, x.2.2.1, y0.1, ())
                  .req [] (x.2.2.1.1 == (1 : Int)) true
                    (.leaf [F55.pre (x.1, x.2.2.1, y0.1, ())] (y2.1, ([], ([], ((0 : Int), ((0 : Int), ((0 : Int), ((0 : Int), (0 : Int))))))), y2.2.1, ())))
                  (.node [] (x.2.2.1.1 == (2 : Int))
                    (let y2 := F55.fn (x.1, x.2.2.1, y0.1, ())
                    .req [] (x.2.2.1.1 == (2 : Int)) true
                      (.leaf [F55.pre (x.1, x.2.2.1, y0.1, ())] (y2.1, ([], ([], ((0 : Int), ((0 : Int), ((0 : Int), ((0 : Int), (0 : Int))))))), y2.2.1, ())))
                    (.node [] (x.2.2.1.1 == (13 : Int))
                      (let y2 := F55.fn (x.1, x.2.2.1, y0.1, ())
                      .leaf [F55.pre (x.1, x.2.2.1, y0.1, ())] (y2.1, ([], ([], ((0 : Int), ((0 : Int), ((0 : Int), ((0 : Int), (0 : Int))))))), y2.2.1, ()))
                      (.node [] (x.2.2.1.1 == (4 : Int))
                        (let y2 := F56.fn (x.1, x.2.2.1, y0.1, ())
                        .req [] (x.2.2.1.1 == (4 : Int)) true
                          (.leaf [F56.pre (x.1, x.2.2.1, y0.1, ())] (y2.1, ([], ([], ((0 : Int), ((0 : Int), ((0 : Int), ((0 : Int), (0 : Int))))))), y2.2.1, ())))
                        (.node [] (x.2.2.1.1 == (5 : Int))
                          (let y2 := F56.fn (x.1, x.2.2.1, y0.1, ())
                          .leaf [F56.pre (x.1, x.2.2.1, y0.1, ())] (y2.1, ([], ([], ((0 : Int), ((0 : Int), ((0 : Int), ((0 : Int), (0 : Int))))))), y2.2.1, ()))
                          (.node [] (x.2.2.1.1 == (3 : Int))
                            (let y2 := F57.fn (x.1, y0.1, [], ())
                            .leaf [F57.pre (x.1, y0.1, [], ())] (y2.1, ([], ([], ((0 : Int), ((0 : Int), ((0 : Int), ((0 : Int), (0 : Int))))))), y2.2.1, ()))
                            (.node [] (x.2.2.1.1 == (6 : Int))
                              (let y2 := F58.fn (x.1, y0.1, [], ())
                              .leaf [F58.pre (x.1, y0.1, [], ())] (y2.1, ([], ([], ((0 : Int), ((0 : Int), ((0 : Int), ((0 : Int), (0 : Int))))))), y2.2.1, ()))
                              (let y2 := F59.fn (x.1, x.2.2.1, y0.1, ())
                              .leaf [F59.pre (x.1, x.2.2.1, y0.1, ())] (y2.1, y2.2.1, y2.2.2.1, ())))))))))))))
        (.req [] (y0.2.1 == (0 : Int)) false
          (.node [] (y0.2.1 != (0 : Int))
            (.leaf [] (x.1, ([], ([], ((0 : Int), ((0 : Int), ((0 : Int), ((0 : Int), (0 : Int))))))), y0.2.1, ()))
            (.node [] (x.2.2.1.1 == (1 : Int))
              (let y1 := F55.fn (x.1, x.2.2.1, y0.1, ())
              .req [] (x.2.2.1.1 == (1 : Int)) true
                (.leaf [F55.pre (x.1, x.2.2.1, y0.1, ())] (y1.1, ([], ([], ((0 : Int), ((0 : Int), ((0 : Int), ((0 : Int), (0 : Int))))))), y1.2.1, ())))
              (.node [] (x.2.2.1.1 == (2 : Int))
                (let y1 := F55.fn (x.1, x.2.2.1, y0.1, ())
                .req [] (x.2.2.1.1 == (2 : Int)) true
                  (.leaf [F55.pre (x.1, x.2.2.1, y0.1, ())] (y1.1, ([], ([], ((0 : Int), ((0 : Int), ((0 : Int), ((0 : Int), (0 : Int))))))), y1.2.1, ())))
                (.node [] (x.2.2.1.1 == (13 : Int))
                  (let y1 := F55.fn (x.1, x.2.2.1, y0.1, ())
                  .leaf [F55.pre (x.1, x.2.2.1, y0.1, ())] (y1.1, ([], ([], ((0 : Int), ((0 : Int), ((0 : Int), ((0 : Int), (0 : Int))))))), y1.2.1, ()))
                  (.node [] (x.2.2.1.1 == (4 : Int))
                    (let y1 := F56.fn (x.1, x.2.2.1, y0.1, ())
                    .req [] (x.2.2.1.1 == (4 : Int)) true
                      (.leaf [F56.pre (x.1, x.2.2.1, y0.1, ())] (y1.1, ([], ([], ((0 : Int), ((0 : Int), ((0 : Int), ((0 : Int), (0 : Int))))))), y1.2.1, ())))
                    (.node [] (x.2.2.1.1 == (5 : Int))
                      (let y1 := F56.fn (x.1, x.2.2.1, y0.1, ())
                      .leaf [F56.pre (x.1, x.2.2.1, y0.1, ())] (y1.1, ([], ([], ((0 : Int), ((0 : Int), ((0 : Int), ((0 : Int), (0 : Int))))))), y1.2.1, ()))
                      (.node [] (x.2.2.1.1 == (3 : Int))
                        (let y1 := F57.fn (x.1, y0.1, [], ())
                        .leaf [F57.pre (x.1, y0.1, [], ())] (y1.1, ([], ([], ((0 : Int), ((0 : Int), ((0 : Int), ((0 : Int), (0 : Int))))))), y1.2.1, ()))
                        (.node [] (x.2.2.1.1 == (6 : Int))
                          (let y1 := F58.fn (x.1, y0.1, [], ())
                          .leaf [F58.pre (x.1, y0.1, [], ())] (y1.1, ([], ([], ((0 : Int), ((0 : Int), ((0 : Int), ((0 : Int), (0 : Int))))))), y1.2.1, ()))
                          (let y1 := F59.fn (x.1, x.2.2.1, y0.1, ())
                          .leaf [F59.pre (x.1, x.2.2.1, y0.1, ())] (y1.1, y1.2.1, y1.2.2.1, ())))))))))))))
abbrev F29A : List AT := [.v (.agg Dk), .v (.one .bool), .v (.agg (.cons (.int .i64) (.cons .str (.cons .str (.cons (.int .i64) (.cons (.int .i64) Bk))))))]
abbrev F29B : List AT := [.v (.agg Dk), .v (.agg (.cons (.row (.one (.int .u8))) (.cons (.row (.one .str)) (.cons (.int .i64) (.cons (.int .i64) Rw))))), .v (.one (.int .i64))]
theorem F29is : ∀ x, DT.Is (runF Tryz.prog cfg99 1000 noL 29 F29A F29B x) (F29 x) := fun x => by unfold DT.Is; kernel_rfl
noncomputable def F29.fn (x : Dkt × Bool × (Int × List UInt8 × List UInt8 × Int × Int × Int × List (Int)) × Unit) : Dkt × (List (Int) × List (List UInt8) × Int × Int × Int × Int × Int) × Int × Unit := (F29 x).fn
noncomputable def F29.pre (x : Dkt × Bool × (Int × List UInt8 × List UInt8 × Int × Int × Int × List (Int)) × Unit) : Prop := (F29 x).pre
theorem F29ok : DataOk Tryz.prog 29 F29A F29B F29.pre F29.fn := data_of_tree F29A F29B F29 cfg99ok FnLoops.none F29is
noncomputable def F29C : Con Tryz.prog := conD 29 F29A F29B F29.pre F29.fn F29ok (by kernel_rfl)
noncomputable def cfgL100 : List (Con Tryz.prog) := F29C :: cfgL99
noncomputable def cfg100 : Cfg := cfgOf cfgL100
theorem cfg100ok : CfgOk Tryz.prog cfg100 := cfgOf_ok cfgnamed cfgmixed _
/-! 13 veneer/veneerref8.Run -/
def F13L0S : Shape := ⟨[(1, .v (.one (.row (.cons (.int .i64) (.cons .str (.cons .str (.cons (.int .i64) (.cons (.int .i64) Bk)))))))), (2, .val (.ptr 0 0)), (4, .val (.ptr 1 0)), (5, .v (.one (.int .i64)))], [(0, 4, [.v (.one (.int .i64)), .v (.one (.int .i64)), .v (.one (.int .i64)), .v (.one (.row Nd))]), (1, 4, [.v (.one (.int .i64)), .v (.one (.int .i64)), .v (.one (.int .i64)), .val .nils])], 2⟩
def F13L0S0 : Shape := ⟨[(2, .val (.ptr 0 0)), (4, .val (.ptr 1 0))], [(0, 4, [.v (.one (.int .i64)), .v (.one (.int .i64)), .v (.one (.int .i64)), .v (.one (.row Nd))]), (1, 4, [.v (.one (.int .i64)), .v (.one (.int .i64)), .v (.one (.int .i64)), .val .nils])], 2⟩
def F13L0X : List (Option Nat × Shape) := [(some 0, F13L0S0)]
noncomputable def F13L0 (x : List (Int × List UInt8 × List UInt8 × Int × Int × Int × List (Int)) × Unit × Unit × Int × Int × Int × Int × List Ndt × Int × Int × Int × Unit × Unit) : DT ((List (Int × List UInt8 × List UInt8 × Int × Int × Int × List (Int)) × Unit × Unit × Int × Int × Int × Int × List Ndt × Int × Int × Int × Unit × Unit) ⊕ ((Unit × Unit × Int × Int × Int × List Ndt × Int × Int × Int × Unit × Unit) ⊕ Empty)) :=
  .node [] (decide (x.2.2.2.1 < (Int.ofNat (List.length x.1))))
    (let y0 := F29.fn ((x.2.2.2.2.1, (x.2.2.2.2.2.1, (x.2.2.2.2.2.2.1, x.2.2.2.2.2.2.2.1))), false, (@id (Int × List UInt8 × List UInt8 × Int × Int × Int × List (Int)) (xsAt (.cons (.int .i64) (.cons .str (.cons .str (.cons (.int .i64) (.cons (.int .i64) Bk))))) x.1 (Int.toNat x.2.2.2.1))), ())
    .leaf [F29.pre ((x.2.2.2.2.1, (x.2.2.2.2.2.1, (x.2.2.2.2.2.2.1, x.2.2.2.2.2.2.2.1))), false, (@id (Int × List UInt8 × List UInt8 × Int × Int × Int × List (Int)) (xsAt (.cons (.int .i64) (.cons .str (.cons .str (.cons (.int .i64) (.cons (.int .i64) Bk))))) x.1 (Int.toNat x.2.2.2.1))), ()), 0 ≤ x.2.2.2.1, x.2.2.2.1 < Int.ofNat (List.length x.1)] (.inl (x.1, (), (), (wrp .i64 (x.2.2.2.1 + (1 : Int))), y0.1.1, y0.1.2.1, y0.1.2.2.1, y0.1.2.2.2, x.2.2.2.2.2.2.2.2.1, x.2.2.2.2.2.2.2.2.2.1, x.2.2.2.2.2.2.2.2.2.2.1, (), ())))
    (.leaf [] (.inr (.inl ((), (), x.2.2.2.2.1, x.2.2.2.2.2.1, x.2.2.2.2.2.2.1, x.2.2.2.2.2.2.2.1, x.2.2.2.2.2.2.2.2.1, x.2.2.2.2.2.2.2.2.2.1, x.2.2.2.2.2.2.2.2.2.2.1, (), ()))))
noncomputable def F13 (x : Dkt × List (Int × List UInt8 × List UInt8 × Int × Int × Int × List (Int)) × Unit) : DT (Dkt × Unit) :=
  let y0 := loopOut F13L0 (x.2.1, (), (), (0 : Int), x.1.1, x.1.2.1, x.1.2.2.1, x.1.2.2.2, (0 : Int), (0 : Int), (0 : Int), (), ())
  let y1 : Unit × Unit × Int × Int × Int × List Ndt × Int × Int × Int × Unit × Unit := getL (Shape.z F13L0S0) y0
  .leaf [loopInv F13L0 (x.2.1, (), (), (0 : Int), x.1.1, x.1.2.1, x.1.2.2.1, x.1.2.2.2, (0 : Int), (0 : Int), (0 : Int), (), ())] ((y1.2.2.1, (y1.2.2.2.1, (y1.2.2.2.2.1, y1.2.2.2.2.2.1))), ())
abbrev F13A : List AT := [.v (.agg Dk), .v (.one (.row (.cons (.int .i64) (.cons .str (.cons .str (.cons (.int .i64) (.cons (.int .i64) Bk)))))))]
abbrev F13B : List AT := [.v (.agg Dk)]
noncomputable def F13R : List (Nat × Rule) := [(0, ruleOf F13L0S F13L0X F13L0)]
theorem F13L0is : ∀ x, DT.Is (runL Tryz.prog cfg100 1000 (lsOf F13R) 13 0 F13L0S F13L0X x) (F13L0 x) := fun x => by unfold DT.Is; kernel_rfl
theorem F13is : ∀ x, DT.Is (runF Tryz.prog cfg100 1000 (lsOf F13R) 13 F13A F13B x) (F13 x) := fun x => by unfold DT.Is; kernel_rfl
noncomputable def F13.fn (x : Dkt × List (Int × List UInt8 × List UInt8 × Int × Int × Int × List (Int)) × Unit) : Dkt × Unit := (F13 x).fn
noncomputable def F13.pre (x : Dkt × List (Int × List UInt8 × List UInt8 × Int × Int × Int × List (Int)) × Unit) : Prop := (F13 x).pre
theorem F13ok : DataOk Tryz.prog 13 F13A F13B F13.pre F13.fn := data_of_tree F13A F13B F13 cfg100ok (.of_all cfg100ok (.cons (rule_of_tree F13L0S F13L0X F13L0 (F13L0is)) .nil)) F13is
noncomputable def F13C : Con Tryz.prog := conD 13 F13A F13B F13.pre F13.fn F13ok (by kernel_rfl)
noncomputable def cfgL101 : List (Con Tryz.prog) := F13C :: cfgL100
noncomputable def cfg101 : Cfg := cfgOf cfgL101
theorem cfg101ok : CfgOk Tryz.prog cfg101 := cfgOf_ok cfgnamed cfgmixed _
/-! 14 veneer/veneerref3.New -/
noncomputable def F14 (x : Int × Int × Unit) : DT (Dkt × Unit) :=
  .leaf [] ((x.1, (x.2.1, ((2 : Int), (((1 : Int), ((2 : Int), ((493 : Int), ((1 : Int), ((0 : Int), ([], ((dec 0 0 []), []))))))) :: [])))), ())
abbrev F14A : List AT := [.v (.one (.int .i64)), .v (.one (.int .i64))]
abbrev F14B : List AT := [.v (.agg Dk)]
theorem F14is : ∀ x, DT.Is (runF Tryz.prog cfg101 1000 noL 14 F14A F14B x) (F14 x) := fun x => by unfold DT.Is; kernel_rfl
noncomputable def F14.fn (x : Int × Int × Unit) : Dkt × Unit := (F14 x).fn
noncomputable def F14.pre (x : Int × Int × Unit) : Prop := (F14 x).pre
theorem F14ok : DataOk Tryz.prog 14 F14A F14B F14.pre F14.fn := data_of_tree F14A F14B F14 cfg101ok FnLoops.none F14is
noncomputable def F14C : Con Tryz.prog := conD 14 F14A F14B F14.pre F14.fn F14ok (by kernel_rfl)
noncomputable def cfgL102 : List (Con Tryz.prog) := F14C :: cfgL101
noncomputable def cfg102 : Cfg := cfgOf cfgL102
theorem cfg102ok : CfgOk Tryz.prog cfg102 := cfgOf_ok cfgnamed cfgmixed _
/-! 4 veneer/veneerlaw11.SeenCut -/
def F4L0S : Shape := ⟨[(0, .v (.one (.row (.one (.int .i64))))), (1, .v (.one (.row (.one .bool)))), (5, .val (.ptr 0 0)), (6, .v (.one (.int .i64))), (7, .v (.one (.int .i64)))], [(0, 7, [.v (.one (.row (.one (.int .i64)))), .v (.one (.int .i64)), .own Dk, .v (.one (.int .i64)), .val .nils, .val .nils, .v (.one (.int .i64))])], 1⟩
def F4L0S0 : Shape := ⟨[(4, .v (.one .bool))], [], 1⟩
def F4L0S1 : Shape := ⟨[(0, .v (.one (.row (.one (.int .i64))))), (5, .val (.ptr 0 0)), (6, .v (.one (.int .i64)))], [(0, 7, [.v (.one (.row (.one (.int .i64)))), .v (.one (.int .i64)), .own Dk, .v (.one (.int .i64)), .val .nils, .val .nils, .v (.one (.int .i64))])], 1⟩
def F4L0X : List (Option Nat × Shape) := [(none, F4L0S0), (some 0, F4L0S1)]
noncomputable def F4L0 (x : List (Int) × List (Bool) × Unit × Int × Int × List (Int) × Int × List Dkt × Int × Unit × Unit × Int × Unit) : DT ((List (Int) × List (Bool) × Unit × Int × Int × List (Int) × Int × List Dkt × Int × Unit × Unit × Int × Unit) ⊕ ((Bool × Unit) ⊕ (List (Int) × Unit × Int × List (Int) × Int × List Dkt × Int × Unit × Unit × Int × Unit) ⊕ Empty)) :=
  .node [] (decide (x.2.2.2.2.1 < (Int.ofNat (List.length x.1))))
    (.node [0 ≤ x.2.2.2.2.1, x.2.2.2.2.1 < Int.ofNat (List.length x.1)] (decide ((@id (Int) (xsAt (.one (.int .i64)) x.1 (Int.toNat x.2.2.2.2.1))) < (1 : Int)))
      (.leaf [] (.inr (.inl (true, ()))))
      (.node [0 ≤ x.2.2.2.2.1, x.2.2.2.2.1 < Int.ofNat (List.length x.1)] (decide ((@id (Int) (xsAt (.one (.int .i64)) x.1 (Int.toNat x.2.2.2.2.1))) > (3 : Int)))
        (.leaf [] (.inr (.inl (true, ()))))
        (let y0 := F14.fn ((9 : Int), (9 : Int), ())
        let y1 := F13.fn (y0.1, (((2 : Int), ((dec 2 12129 []), ((dec 0 0 []), ((0 : Int), ((0 : Int), ((0 : Int), [])))))) :: (((1 : Int), (((dec 3 3105071 []) ++ (bBytes ((wrp .u8 (wrp .i64 ((97 : Int) + x.2.2.2.2.1))) :: []))), ((dec 0 0 []), ((0 : Int), ((0 : Int), ((0 : Int), [])))))) :: [])), ())
        .node [0 ≤ x.2.2.2.2.1, x.2.2.2.2.1 < Int.ofNat (List.length x.2.1), F13.pre (y0.1, (((2 : Int), ((dec 2 12129 []), ((dec 0 0 []), ((0 : Int), ((0 : Int), ((0 : Int), [])))))) :: (((1 : Int), (((dec 3 3105071 []) ++ (bBytes ((wrp .u8 (wrp .i64 ((97 : Int) + x.2.2.2.2.1))) :: []))), ((dec 0 0 []), ((0 : Int), ((0 : Int), ((0 : Int), [])))))) :: [])), ()), F14.pre ((9 : Int), (9 : Int), ()), (let r : List AV := [.x (.i .u8 (wrp .u8 (wrp .i64 ((97 : Int) + x.2.2.2.2.1))))]; r = r), (let r : List AV := [.x (.i .u8 (wrp .u8 (wrp .i64 ((97 : Int) + x.2.2.2.2.1))))]; r = r), (let r : List AV := [.x (.s (bBytes ((wrp .u8 (wrp .i64 ((97 : Int) + x.2.2.2.2.1))) :: [])))]; r = r), (let r : List AV := [.i .i64 (2), .s 2 12129, .s 0 0, .i .i64 (0), .i .i64 (0), .i .i64 (0), .nils, .i .i64 (1), .x (.s ((dec 3 3105071 []) ++ (bBytes ((wrp .u8 (wrp .i64 ((97 : Int) + x.2.2.2.2.1))) :: [])))), .s 0 0, .i .i64 (0), .i .i64 (0), .i .i64 (0), .nils]; r = r), (let r : List AV := [.i .i64 (2), .s 2 12129, .s 0 0, .i .i64 (0), .i .i64 (0), .i .i64 (0), .nils, .i .i64 (1), .x (.s ((dec 3 3105071 []) ++ (bBytes ((wrp .u8 (wrp .i64 ((97 : Int) + x.2.2.2.2.1))) :: [])))), .s 0 0, .i .i64 (0), .i .i64 (0), .i .i64 (0), .nils]; r = r), List.length (dec 3 3105071 []) + List.length (bBytes ((wrp .u8 (wrp .i64 ((97 : Int) + x.2.2.2.2.1))) :: [])) ≤ Room] (@id (Bool) (xsAt (.one .bool) x.2.1 (Int.toNat x.2.2.2.2.1)))
          (let y2 := F15.fn (y1.1, (2 : Int), (dec 12 14380664602328719262401654897 []), ((0 : Int), ((1 : Int), ((0 : Int), ((0 : Int), ((0 : Int), ([], ((dec 0 0 []), []))))))), ())
          .node [(List.length (x.2.2.2.2.2.2.2.1 ++ (y2.1 :: []))) * 48 ≤ Room, F15.pre (y1.1, (2 : Int), (dec 12 14380664602328719262401654897 []), ((0 : Int), ((1 : Int), ((0 : Int), ((0 : Int), ((0 : Int), ([], ((dec 0 0 []), []))))))), ())] (decide (x.2.2.2.1 < (0 : Int)))
            (.req [0 ≤ x.2.2.2.2.1, x.2.2.2.2.1 < Int.ofNat (List.length x.2.1)] (@id (Bool) (xsAt (.one .bool) x.2.1 (Int.toNat x.2.2.2.2.1))) true
              (.node [0 ≤ x.2.2.2.2.1, x.2.2.2.2.1 < Int.ofNat (List.length x.1)] ((@id (Int) (xsAt (.one (.int .i64)) x.1 (Int.toNat x.2.2.2.2.1))) != (2 : Int))
                (.leaf [] (.inl (x.1, x.2.1, (), x.2.2.2.2.1, (wrp .i64 (x.2.2.2.2.1 + (1 : Int))), x.2.2.2.2.2.1, x.2.2.2.2.2.2.1, (x.2.2.2.2.2.2.2.1 ++ (y2.1 :: [])), x.2.2.2.2.2.2.2.2.1, (), (), x.2.2.2.2.2.2.2.2.2.2.2.1, ())))
                (.leaf [] (.inl (x.1, x.2.1, (), x.2.2.2.1, (wrp .i64 (x.2.2.2.2.1 + (1 : Int))), x.2.2.2.2.2.1, x.2.2.2.2.2.2.1, (x.2.2.2.2.2.2.2.1 ++ (y2.1 :: [])), x.2.2.2.2.2.2.2.2.1, (), (), x.2.2.2.2.2.2.2.2.2.2.2.1, ())))))
            (.leaf [] (.inl (x.1, x.2.1, (), x.2.2.2.1, (wrp .i64 (x.2.2.2.2.1 + (1 : Int))), x.2.2.2.2.2.1, x.2.2.2.2.2.2.1, (x.2.2.2.2.2.2.2.1 ++ (y2.1 :: [])), x.2.2.2.2.2.2.2.2.1, (), (), x.2.2.2.2.2.2.2.2.2.2.2.1, ()))))
          (.node [(List.length (x.2.2.2.2.2.2.2.1 ++ (y1.1 :: []))) * 48 ≤ Room] (decide (x.2.2.2.1 < (0 : Int)))
            (.req [0 ≤ x.2.2.2.2.1, x.2.2.2.2.1 < Int.ofNat (List.length x.2.1)] (@id (Bool) (xsAt (.one .bool) x.2.1 (Int.toNat x.2.2.2.2.1))) false
              (.leaf [] (.inl (x.1, x.2.1, (), x.2.2.2.1, (wrp .i64 (x.2.2.2.2.1 + (1 : Int))), x.2.2.2.2.2.1, x.2.2.2.2.2.2.1, (x.2.2.2.2.2.2.2.1 ++ (y1.1 :: [])), x.2.2.2.2.2.2.2.2.1, (), (), x.2.2.2.2.2.2.2.2.2.2.2.1, ()))))
            (.leaf [] (.inl (x.1, x.2.1, (), x.2.2.2.1, (wrp .i64 (x.2.2.2.2.1 + (1 : Int))), x.2.2.2.2.2.1, x.2.2.2.2.2.2.1, (x.2.2.2.2.2.2.2.1 ++ (y1.1 :: [])), x.2.2.2.2.2.2.2.2.1, (), (), x.2.2.2.2.2.2.2.2.2.2.2.1, ())))))))
    (.leaf [] (.inr (.inr (.inl (x.1, (), x.2.2.2.1, x.2.2.2.2.2.1, x.2.2.2.2.2.2.1, x.2.2.2.2.2.2.2.1, x.2.2.2.2.2.2.2.2.1, (), (), x.2.2.2.2.2.2.2.2.2.2.2.1, ())))))
noncomputable def F4 (x : List (Int) × List (Bool) × Unit) : DT (Bool × Unit) :=
  .node [] (decide ((Int.ofNat (List.length x.1)) < (1 : Int)))
    (.leaf [] (true, ()))
    (.node [] (decide ((Int.ofNat (List.length x.1)) > (8 : Int)))
      (.leaf [] (true, ()))
      (.node [] ((Int.ofNat (List.length x.2.1)) != (Int.ofNat (List.length x.1)))
        (.leaf [] (true, ()))
        (.node [0 ≤ (0 : Int), (0 : Int) < Int.ofNat (List.length x.1)] ((@id (Int) (xsAt (.one (.int .i64)) x.1 (Int.toNat (0 : Int)))) != (1 : Int))
          (.leaf [] (true, ()))
          (let y0 := loopOut F4L0 (x.1, x.2.1, (), (-1 : Int), (0 : Int), x.1, (1 : Int), [], (0 : Int), (), (), (0 : Int), ())
          .node [loopInv F4L0 (x.1, x.2.1, (), (-1 : Int), (0 : Int), x.1, (1 : Int), [], (0 : Int), (), (), (0 : Int), ())] (isL y0)
            (let y1 : Bool × Unit := getL (Shape.z F4L0S0) y0
            .leaf [] (y1.1, ()))
            (let y1 : List (Int) × Unit × Int × List (Int) × Int × List Dkt × Int × Unit × Unit × Int × Unit := getL (Shape.z F4L0S1) (restR y0)
            let y2 := F6.fn ((y1.2.2.2.1, (y1.2.2.2.2.1, (y1.2.2.2.2.2.1, (y1.2.2.2.2.2.2.1, ([], ([], y1.2.2.2.2.2.2.2.2.2.1)))))), ())
            let y3 := F16.fn ((y1.2.2.2.1, (y1.2.2.2.2.1, (y1.2.2.2.2.2.1, (y1.2.2.2.2.2.2.1, ([], ([], y1.2.2.2.2.2.2.2.2.2.1)))))), y2.1, (dec 1 97 []), ())
            .node [] (decide (y1.2.2.1 < (0 : Int)))
              (.node [F16.pre ((y1.2.2.2.1, (y1.2.2.2.2.1, (y1.2.2.2.2.2.1, (y1.2.2.2.2.2.2.1, ([], ([], y1.2.2.2.2.2.2.2.2.2.1)))))), y2.1, (dec 1 97 []), ()), F6.pre ((y1.2.2.2.1, (y1.2.2.2.2.1, (y1.2.2.2.2.2.1, (y1.2.2.2.2.2.2.1, ([], ([], y1.2.2.2.2.2.2.2.2.2.1)))))), ())] ((Int.ofNat (List.length y3.1)) == (wrp .i64 ((wrp .i64 ((Int.ofNat (List.length y1.1)) - (1 : Int))) + (1 : Int))))
                (let y4 := F17.fn ((y1.2.2.2.1, (y1.2.2.2.2.1, (y1.2.2.2.2.2.1, (y1.2.2.2.2.2.2.1, ([], ([], y1.2.2.2.2.2.2.2.2.2.1)))))), y2.1, (dec 1 97 []), ())
                .node [F17.pre ((y1.2.2.2.1, (y1.2.2.2.2.1, (y1.2.2.2.2.2.1, (y1.2.2.2.2.2.2.1, ([], ([], y1.2.2.2.2.2.2.2.2.2.1)))))), y2.1, (dec 1 97 []), ())] (y4.1 == (wrp .i64 ((Int.ofNat (List.length y1.1)) - (1 : Int))))
                  (let y5 := F18.fn ((y1.2.2.2.1, (y1.2.2.2.2.1, (y1.2.2.2.2.2.1, (y1.2.2.2.2.2.2.1, ([], ([], y1.2.2.2.2.2.2.2.2.2.1)))))), y3.1, ())
                  .node [F18.pre ((y1.2.2.2.1, (y1.2.2.2.2.1, (y1.2.2.2.2.2.1, (y1.2.2.2.2.2.2.1, ([], ([], y1.2.2.2.2.2.2.2.2.2.1)))))), y3.1, ())] ((Int.ofNat (List.length y5.1)) == (wrp .i64 ((wrp .i64 ((Int.ofNat (List.length y1.1)) - (1 : Int))) + (1 : Int))))
                    (let y6 := F10.fn ((y1.2.2.2.1, (y1.2.2.2.2.1, (y1.2.2.2.2.2.1, (y1.2.2.2.2.2.2.1, ([], ([], y1.2.2.2.2.2.2.2.2.2.1)))))), y2.1, (dec 1 97 []), ())
                    let y7 := F7.fn (y3.1, y6.1, ())
                    .node [F7.pre (y3.1, y6.1, ()), F10.pre ((y1.2.2.2.1, (y1.2.2.2.2.1, (y1.2.2.2.2.2.1, (y1.2.2.2.2.2.2.1, ([], ([], y1.2.2.2.2.2.2.2.2.2.1)))))), y2.1, (dec 1 97 []), ())] y7.1
                      (let y8 := F11.fn ()
                      .leaf [F11.pre ()] (y8.1, ()))
                      (.leaf [] (false, ())))
                    (.leaf [] (false, ())))
                  (.leaf [] (false, ())))
                (.leaf [] (false, ())))
              (.node [F16.pre ((y1.2.2.2.1, (y1.2.2.2.2.1, (y1.2.2.2.2.2.1, (y1.2.2.2.2.2.2.1, ([], ([], y1.2.2.2.2.2.2.2.2.2.1)))))), y2.1, (dec 1 97 []), ()), F6.pre ((y1.2.2.2.1, (y1.2.2.2.2.1, (y1.2.2.2.2.2.1, (y1.2.2.2.2.2.2.1, ([], ([], y1.2.2.2.2.2.2.2.2.2.1)))))), ())] ((Int.ofNat (List.length y3.1)) == (wrp .i64 (y1.2.2.1 + (1 : Int))))
                (let y4 := F17.fn ((y1.2.2.2.1, (y1.2.2.2.2.1, (y1.2.2.2.2.2.1, (y1.2.2.2.2.2.2.1, ([], ([], y1.2.2.2.2.2.2.2.2.2.1)))))), y2.1, (dec 1 97 []), ())
                .node [F17.pre ((y1.2.2.2.1, (y1.2.2.2.2.1, (y1.2.2.2.2.2.1, (y1.2.2.2.2.2.2.1, ([], ([], y1.2.2.2.2.2.2.2.2.2.1)))))), y2.1, (dec 1 97 []), ())] (y4.1 == y1.2.2.1)
                  (let y5 := F18.fn ((y1.2.2.2.1, (y1.2.2.2.2.1, (y1.2.2.2.2.2.1, (y1.2.2.2.2.2.2.1, ([], ([], y1.2.2.2.2.2.2.2.2.2.1)))))), y3.1, ())
                  .node [F18.pre ((y1.2.2.2.1, (y1.2.2.2.2.1, (y1.2.2.2.2.2.1, (y1.2.2.2.2.2.2.1, ([], ([], y1.2.2.2.2.2.2.2.2.2.1)))))), y3.1, ())] ((Int.ofNat (List.length y5.1)) == (wrp .i64 (y1.2.2.1 + (1 : Int))))
                    (let y6 := F10.fn ((y1.2.2.2.1, (y1.2.2.2.2.1, (y1.2.2.2.2.2.1, (y1.2.2.2.2.2.2.1, ([], ([], y1.2.2.2.2.2.2.2.2.2.1)))))), y2.1, (dec 1 97 []), ())
                    let y7 := F7.fn (y3.1, y6.1, ())
                    .node [F7.pre (y3.1, y6.1, ()), F10.pre ((y1.2.2.2.1, (y1.2.2.2.2.1, (y1.2.2.2.2.2.1, (y1.2.2.2.2.2.2.1, ([], ([], y1.2.2.2.2.2.2.2.2.2.1)))))), y2.1, (dec 1 97 []), ())] y7.1
                      (let y8 := F11.fn ()
                      .leaf [F11.pre ()] (y8.1, ()))
                      (.leaf [] (false, ())))
                    (.leaf [] (false, ())))
                  (.leaf [] (false, ())))
                (.leaf [] (false, ()))))))))
abbrev F4A : List AT := [.v (.one (.row (.one (.int .i64)))), .v (.one (.row (.one .bool)))]
abbrev F4B : List AT := [.v (.one .bool)]
noncomputable def F4R : List (Nat × Rule) := [(0, ruleOf F4L0S F4L0X F4L0)]
theorem F4L0is : ∀ x, DT.Is (runL Tryz.prog cfg102 1000 (lsOf F4R) 4 0 F4L0S F4L0X x) (F4L0 x) := fun x => by unfold DT.Is; kernel_rfl
theorem F4is : ∀ x, DT.Is (runF Tryz.prog cfg102 1000 (lsOf F4R) 4 F4A F4B x) (F4 x) := fun x => by unfold DT.Is; kernel_rfl
noncomputable def F4.fn (x : List (Int) × List (Bool) × Unit) : Bool × Unit := (F4 x).fn
noncomputable def F4.pre (x : List (Int) × List (Bool) × Unit) : Prop := (F4 x).pre
theorem F4ok : DataOk Tryz.prog 4 F4A F4B F4.pre F4.fn := data_of_tree F4A F4B F4 cfg102ok (.of_all cfg102ok (.cons (rule_of_tree F4L0S F4L0X F4L0 (F4L0is)) .nil)) F4is
noncomputable def F4C : Con Tryz.prog := conD 4 F4A F4B F4.pre F4.fn F4ok (by kernel_rfl)
noncomputable def cfgL103 : List (Con Tryz.prog) := F4C :: cfgL102
noncomputable def cfg103 : Cfg := cfgOf cfgL103
theorem cfg103ok : CfgOk Tryz.prog cfg103 := cfgOf_ok cfgnamed cfgmixed _
end Go.Proofs.YtkccnomdfkhfnaaGreat
