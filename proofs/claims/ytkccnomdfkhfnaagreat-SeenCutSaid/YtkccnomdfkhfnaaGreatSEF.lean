/- What functions of the program compute, written down; read off their code. -/
import Derived.Test.YtkccnomdfkhfnaaGreatSEK
set_option linter.unusedSimpArgs false
set_option maxRecDepth 100000
set_option linter.unusedVariables false
namespace Go.Proofs.YtkccnomdfkhfnaaGreat
open Go.RowKit Go.Proofs.YtkccnomdfkhfnaaGreat.Ev
noncomputable def cfgL2 : List (Con Tryz.prog) := F36C :: cfgL1
noncomputable def cfg2 : Cfg := cfgOf cfgL2
theorem cfg2ok : CfgOk Tryz.prog cfg2 := cfgOf_ok cfgnamed cfgmixed _
noncomputable def cfgL3 : List (Con Tryz.prog) := F37C :: cfgL2
noncomputable def cfg3 : Cfg := cfgOf cfgL3
theorem cfg3ok : CfgOk Tryz.prog cfg3 := cfgOf_ok cfgnamed cfgmixed _
/-! 51 veneer/veneerref2.Copy -/
def F51L0S : Shape := ⟨[(1, .val (.ptr 0 0)), (2, .val (.ptr 1 0)), (3, .val (.ptr 2 0)), (4, .v (.one (.int .i64)))], [(0, 2, [.v (.one (.int .i64)), .v (.one (.row Bk))]), (1, 2, [.v (.one (.int .i64)), .val .nils]), (2, 2, [.v (.one (.int .i64)), .own Bk])], 3⟩
def F51L0S0 : Shape := ⟨[(2, .val (.ptr 1 0)), (3, .val (.ptr 2 0))], [(1, 2, [.v (.one (.int .i64)), .val .nils]), (2, 2, [.v (.one (.int .i64)), .own Bk])], 3⟩
def F51L0X : List (Option Nat × Shape) := [(some 0, F51L0S0)]
noncomputable def F51L0 (x : Unit × Unit × Unit × Int × Int × List Bkt × Int × Unit × Int × List Bkt × Unit) : DT ((Unit × Unit × Unit × Int × Int × List Bkt × Int × Unit × Int × List Bkt × Unit) ⊕ ((Unit × Unit × Int × Unit × Int × List Bkt × Unit) ⊕ Empty)) :=
  .node [] (decide (x.2.2.2.1 < (Int.ofNat (List.length x.2.2.2.2.2.1))))
    (.leaf [(List.length (x.2.2.2.2.2.2.2.2.2.1 ++ (((@id (Bkt) (xsAt Bk x.2.2.2.2.2.1 (Int.toNat x.2.2.2.1))).1, ([] ++ (@id (Bkt) (xsAt Bk x.2.2.2.2.2.1 (Int.toNat x.2.2.2.1))).2)) :: []))) * 32 ≤ Room, (List.length ([] ++ (@id (Bkt) (xsAt Bk x.2.2.2.2.2.1 (Int.toNat x.2.2.2.1))).2)) * 1 ≤ Room, (let r : List AV := [.x (.own 3 0 Bk true 0 (List.length x.2.2.2.2.2.2.2.2.2.1))]; r = r), (let r : List AV := [.x (.row Bk x.2.2.2.2.2.1)]; r = r), (let r : List AV := [.x (.i .i64 (@id (Bkt) (xsAt Bk x.2.2.2.2.2.1 (Int.toNat x.2.2.2.1))).1)]; r = r), (let r : List AV := [.x (.i .i64 (@id (Bkt) (xsAt Bk x.2.2.2.2.2.1 (Int.toNat x.2.2.2.1))).1), .x (.own 6 1 (.one (.int .u8)) true 0 (List.length ([] ++ (@id (Bkt) (xsAt Bk x.2.2.2.2.2.1 (Int.toNat x.2.2.2.1))).2)))]; r = r), 0 ≤ x.2.2.2.1, x.2.2.2.1 < Int.ofNat (List.length x.2.2.2.2.2.1), 0 ≤ x.2.2.2.1, x.2.2.2.1 < Int.ofNat (List.length x.2.2.2.2.2.1)] (.inl ((), (), (), (wrp .i64 (x.2.2.2.1 + (1 : Int))), x.2.2.2.2.1, x.2.2.2.2.2.1, x.2.2.2.2.2.2.1, (), x.2.2.2.2.2.2.2.2.1, (x.2.2.2.2.2.2.2.2.2.1 ++ (((@id (Bkt) (xsAt Bk x.2.2.2.2.2.1 (Int.toNat x.2.2.2.1))).1, ([] ++ (@id (Bkt) (xsAt Bk x.2.2.2.2.2.1 (Int.toNat x.2.2.2.1))).2)) :: [])), ())))
    (.leaf [] (.inr (.inl ((), (), x.2.2.2.2.2.2.1, (), x.2.2.2.2.2.2.2.2.1, x.2.2.2.2.2.2.2.2.2.1, ()))))
noncomputable def F51 (x : (Int × List Bkt) × Unit) : DT ((Int × List Bkt) × Unit) :=
  let y0 := loopOut F51L0 ((), (), (), (0 : Int), x.1.1, x.1.2, (0 : Int), (), x.1.1, [], ())
  let y1 : Unit × Unit × Int × Unit × Int × List Bkt × Unit := getL (Shape.z F51L0S0) y0
  .leaf [loopInv F51L0 ((), (), (), (0 : Int), x.1.1, x.1.2, (0 : Int), (), x.1.1, [], ())] ((y1.2.2.2.2.1, y1.2.2.2.2.2.1), ())
abbrev F51A : List AT := [.v (.agg (.cons (.int .i64) (.one (.row Bk))))]
abbrev F51B : List AT := [.v (.agg (.cons (.int .i64) (.one (.row Bk))))]
noncomputable def F51R : List (Nat × Rule) := [(0, ruleOf F51L0S F51L0X F51L0)]
theorem F51L0is : ∀ x, DT.Is (runL Tryz.prog cfg3 1000 (lsOf F51R) 51 0 F51L0S F51L0X x) (F51L0 x) := fun x => by unfold DT.Is; kernel_rfl
theorem F51is : ∀ x, DT.Is (runF Tryz.prog cfg3 1000 (lsOf F51R) 51 F51A F51B x) (F51 x) := fun x => by unfold DT.Is; kernel_rfl
noncomputable def F51.fn (x : (Int × List Bkt) × Unit) : (Int × List Bkt) × Unit := (F51 x).fn
noncomputable def F51.pre (x : (Int × List Bkt) × Unit) : Prop := (F51 x).pre
theorem F51ok : DataOk Tryz.prog 51 F51A F51B F51.pre F51.fn := data_of_tree F51A F51B F51 cfg3ok (.of_all cfg3ok (.cons (rule_of_tree F51L0S F51L0X F51L0 (F51L0is)) .nil)) F51is
noncomputable def F51C : Con Tryz.prog := conD 51 F51A F51B F51.pre F51.fn F51ok (by kernel_rfl)
noncomputable def cfgL4 : List (Con Tryz.prog) := F51C :: cfgL3
noncomputable def cfg4 : Cfg := cfgOf cfgL4
theorem cfg4ok : CfgOk Tryz.prog cfg4 := cfgOf_ok cfgnamed cfgmixed _
/-! 28 veneer/veneerref3.node -/
noncomputable def F28 (x : Ndt × Unit) : DT (Ndt × Unit) :=
  let y0 := F51.fn ((x.1.2.2.2.2.1, x.1.2.2.2.2.2.1), ())
  .leaf [(List.length ([] ++ x.1.2.2.2.2.2.2.2)) * 24 ≤ Room, F51.pre ((x.1.2.2.2.2.1, x.1.2.2.2.2.2.1), ())] ((x.1.1, (x.1.2.1, (x.1.2.2.1, (x.1.2.2.2.1, (y0.1.1, (y0.1.2, (x.1.2.2.2.2.2.2.1, ([] ++ x.1.2.2.2.2.2.2.2)))))))), ())
abbrev F28A : List AT := [.v (.agg Nd)]
abbrev F28B : List AT := [.v (.agg Nd)]
theorem F28is : ∀ x, DT.Is (runF Tryz.prog cfg4 1000 noL 28 F28A F28B x) (F28 x) := fun x => by unfold DT.Is; kernel_rfl
noncomputable def F28.fn (x : Ndt × Unit) : Ndt × Unit := (F28 x).fn
noncomputable def F28.pre (x : Ndt × Unit) : Prop := (F28 x).pre
theorem F28ok : DataOk Tryz.prog 28 F28A F28B F28.pre F28.fn := data_of_tree F28A F28B F28 cfg4ok FnLoops.none F28is
noncomputable def F28C : Con Tryz.prog := conD 28 F28A F28B F28.pre F28.fn F28ok (by kernel_rfl)
noncomputable def cfgL5 : List (Con Tryz.prog) := F28C :: cfgL4
noncomputable def cfg5 : Cfg := cfgOf cfgL5
theorem cfg5ok : CfgOk Tryz.prog cfg5 := cfgOf_ok cfgnamed cfgmixed _
/-! 12 veneer/veneerref3.Get -/
def F12L0S : Shape := ⟨[(1, .v (.one (.int .i64))), (2, .val (.ptr 0 0)), (4, .val (.ptr 1 0)), (6, .v (.one (.int .i64)))], [(0, 4, [.v (.one (.int .i64)), .v (.one (.int .i64)), .v (.one (.int .i64)), .v (.one (.row Nd))]), (1, 8, [.v (.one (.int .i64)), .v (.one (.int .i64)), .v (.one (.int .i64)), .v (.one (.int .i64)), .v (.one (.int .i64)), .val .nils, .v (.one .str), .val .nils])], 2⟩
def F12L0S0 : Shape := ⟨[(4, .val (.ptr 1 0)), (5, .v (.one .bool))], [(1, 8, [.v (.one (.int .i64)), .v (.one (.int .i64)), .v (.one (.int .i64)), .v (.one (.int .i64)), .v (.one (.int .i64)), .v (.one (.row Bk)), .v (.one .str), .v (.one (.row Nm))])], 2⟩
def F12L0S1 : Shape := ⟨[(4, .val (.ptr 1 0))], [(1, 8, [.v (.one (.int .i64)), .v (.one (.int .i64)), .v (.one (.int .i64)), .v (.one (.int .i64)), .v (.one (.int .i64)), .val .nils, .v (.one .str), .val .nils])], 2⟩
def F12L0X : List (Option Nat × Shape) := [(none, F12L0S0), (some 0, F12L0S1)]
noncomputable def F12L0 (x : Int × Unit × Unit × Int × Int × Int × Int × List Ndt × Int × Int × Int × Int × Int × Unit × List UInt8 × Unit × Unit) : DT ((Int × Unit × Unit × Int × Int × Int × Int × List Ndt × Int × Int × Int × Int × Int × Unit × List UInt8 × Unit × Unit) ⊕ ((Unit × Bool × Int × Int × Int × Int × Int × List Bkt × List UInt8 × List Nmt × Unit) ⊕ (Unit × Int × Int × Int × Int × Int × Unit × List UInt8 × Unit × Unit) ⊕ Empty)) :=
  .node [] (decide (x.2.2.2.1 < (Int.ofNat (List.length x.2.2.2.2.2.2.2.1))))
    (.node [0 ≤ x.2.2.2.1, x.2.2.2.1 < Int.ofNat (List.length x.2.2.2.2.2.2.2.1)] ((@id (Ndt) (xsAt Nd x.2.2.2.2.2.2.2.1 (Int.toNat x.2.2.2.1))).1 == x.1)
      (let y0 := F28.fn ((@id (Ndt) (xsAt Nd x.2.2.2.2.2.2.2.1 (Int.toNat x.2.2.2.1))), ())
      .leaf [F28.pre ((@id (Ndt) (xsAt Nd x.2.2.2.2.2.2.2.1 (Int.toNat x.2.2.2.1))), ()), 0 ≤ x.2.2.2.1, x.2.2.2.1 < Int.ofNat (List.length x.2.2.2.2.2.2.2.1)] (.inr (.inl ((), true, y0.1.1, y0.1.2.1, y0.1.2.2.1, y0.1.2.2.2.1, y0.1.2.2.2.2.1, y0.1.2.2.2.2.2.1, y0.1.2.2.2.2.2.2.1, y0.1.2.2.2.2.2.2.2, ()))))
      (.leaf [] (.inl (x.1, (), (), (wrp .i64 (x.2.2.2.1 + (1 : Int))), x.2.2.2.2.1, x.2.2.2.2.2.1, x.2.2.2.2.2.2.1, x.2.2.2.2.2.2.2.1, x.2.2.2.2.2.2.2.2.1, x.2.2.2.2.2.2.2.2.2.1, x.2.2.2.2.2.2.2.2.2.2.1, x.2.2.2.2.2.2.2.2.2.2.2.1, x.2.2.2.2.2.2.2.2.2.2.2.2.1, (), x.2.2.2.2.2.2.2.2.2.2.2.2.2.2.1, (), ()))))
    (.leaf [] (.inr (.inr (.inl ((), x.2.2.2.2.2.2.2.2.1, x.2.2.2.2.2.2.2.2.2.1, x.2.2.2.2.2.2.2.2.2.2.1, x.2.2.2.2.2.2.2.2.2.2.2.1, x.2.2.2.2.2.2.2.2.2.2.2.2.1, (), x.2.2.2.2.2.2.2.2.2.2.2.2.2.2.1, (), ())))))
noncomputable def F12 (x : Dkt × Int × Unit) : DT (Ndt × Bool × Unit) :=
  let y0 := loopOut F12L0 (x.2.1, (), (), (0 : Int), x.1.1, x.1.2.1, x.1.2.2.1, x.1.2.2.2, (0 : Int), (0 : Int), (0 : Int), (0 : Int), (0 : Int), (), (dec 0 0 []), (), ())
  .node [loopInv F12L0 (x.2.1, (), (), (0 : Int), x.1.1, x.1.2.1, x.1.2.2.1, x.1.2.2.2, (0 : Int), (0 : Int), (0 : Int), (0 : Int), (0 : Int), (), (dec 0 0 []), (), ())] (isL y0)
    (let y1 : Unit × Bool × Int × Int × Int × Int × Int × List Bkt × List UInt8 × List Nmt × Unit := getL (Shape.z F12L0S0) y0
    .leaf [] ((y1.2.2.1, (y1.2.2.2.1, (y1.2.2.2.2.1, (y1.2.2.2.2.2.1, (y1.2.2.2.2.2.2.1, (y1.2.2.2.2.2.2.2.1, (y1.2.2.2.2.2.2.2.2.1, y1.2.2.2.2.2.2.2.2.2.1))))))), y1.2.1, ()))
    (let y1 : Unit × Int × Int × Int × Int × Int × Unit × List UInt8 × Unit × Unit := getL (Shape.z F12L0S1) (restR y0)
    .leaf [] (((0 : Int), ((0 : Int), ((0 : Int), ((0 : Int), ((0 : Int), ([], ((dec 0 0 []), []))))))), false, ()))
abbrev F12A : List AT := [.v (.agg Dk), .v (.one (.int .i64))]
abbrev F12B : List AT := [.v (.agg Nd), .v (.one .bool)]
noncomputable def F12R : List (Nat × Rule) := [(0, ruleOf F12L0S F12L0X F12L0)]
theorem F12L0is : ∀ x, DT.Is (runL Tryz.prog cfg5 1000 (lsOf F12R) 12 0 F12L0S F12L0X x) (F12L0 x) := fun x => by unfold DT.Is; kernel_rfl
theorem F12is : ∀ x, DT.Is (runF Tryz.prog cfg5 1000 (lsOf F12R) 12 F12A F12B x) (F12 x) := fun x => by unfold DT.Is; kernel_rfl
noncomputable def F12.fn (x : Dkt × Int × Unit) : Ndt × Bool × Unit := (F12 x).fn
noncomputable def F12.pre (x : Dkt × Int × Unit) : Prop := (F12 x).pre
theorem F12ok : DataOk Tryz.prog 12 F12A F12B F12.pre F12.fn := data_of_tree F12A F12B F12 cfg5ok (.of_all cfg5ok (.cons (rule_of_tree F12L0S F12L0X F12L0 (F12L0is)) .nil)) F12is
noncomputable def F12C : Con Tryz.prog := conD 12 F12A F12B F12.pre F12.fn F12ok (by kernel_rfl)
noncomputable def cfgL6 : List (Con Tryz.prog) := F12C :: cfgL5
noncomputable def cfg6 : Cfg := cfgOf cfgL6
theorem cfg6ok : CfgOk Tryz.prog cfg6 := cfgOf_ok cfgnamed cfgmixed _
/-! 44 veneer/veneerref1.Kept -/
noncomputable def F44 (x : List UInt8 × Unit) : DT (Bool × Unit) :=
  .node [] (decide ((Int.ofNat (List.length x.1)) ≥ (4 : Int)))
    (.leaf [0 ≤ (4 : Int), (4 : Int) ≤ Int.ofNat (List.length x.1)] (((List.take (Int.toNat (4 : Int)) x.1) == (dec 4 779577390 [])), ()))
    (.leaf [] (false, ()))
abbrev F44A : List AT := [.v (.one .str)]
abbrev F44B : List AT := [.v (.one .bool)]
theorem F44is : ∀ x, DT.Is (runF Tryz.prog cfg6 1000 noL 44 F44A F44B x) (F44 x) := fun x => by unfold DT.Is; kernel_rfl
noncomputable def F44.fn (x : List UInt8 × Unit) : Bool × Unit := (F44 x).fn
noncomputable def F44.pre (x : List UInt8 × Unit) : Prop := (F44 x).pre
theorem F44ok : DataOk Tryz.prog 44 F44A F44B F44.pre F44.fn := data_of_tree F44A F44B F44 cfg6ok FnLoops.none F44is
noncomputable def F44C : Con Tryz.prog := conD 44 F44A F44B F44.pre F44.fn F44ok (by kernel_rfl)
noncomputable def cfgL7 : List (Con Tryz.prog) := F44C :: cfgL6
noncomputable def cfg7 : Cfg := cfgOf cfgL7
theorem cfg7ok : CfgOk Tryz.prog cfg7 := cfgOf_ok cfgnamed cfgmixed _
/-! 49 veneer/veneerref5.Name -/
def F49L0S : Shape := ⟨[(1, .v (.one .str)), (2, .val (.ptr 0 0)), (6, .v (.one (.int .i64)))], [(0, 8, [.v (.one (.int .i64)), .v (.one (.int .i64)), .v (.one (.int .i64)), .v (.one (.int .i64)), .v (.one (.int .i64)), .v (.one (.row Bk)), .v (.one .str), .v (.one (.row Nm))])], 1⟩
def F49L0S0 : Shape := ⟨[(4, .v (.one (.int .i64))), (5, .v (.one .bool))], [], 1⟩
def F49L0S1 : Shape := ⟨[], [], 1⟩
def F49L0X : List (Option Nat × Shape) := [(none, F49L0S0), (some 0, F49L0S1)]
noncomputable def F49L0 (x : List UInt8 × Unit × Int × Int × Int × Int × Int × Int × List Bkt × List UInt8 × List Nmt × Unit) : DT ((List UInt8 × Unit × Int × Int × Int × Int × Int × Int × List Bkt × List UInt8 × List Nmt × Unit) ⊕ ((Int × Bool × Unit) ⊕ (Unit) ⊕ Empty)) :=
  .node [] (decide (x.2.2.1 < (Int.ofNat (List.length x.2.2.2.2.2.2.2.2.2.2.1))))
    (.node [0 ≤ x.2.2.1, x.2.2.1 < Int.ofNat (List.length x.2.2.2.2.2.2.2.2.2.2.1)] ((@id (Nmt) (xsAt Nm x.2.2.2.2.2.2.2.2.2.2.1 (Int.toNat x.2.2.1))).1 == x.1)
      (.leaf [0 ≤ x.2.2.1, x.2.2.1 < Int.ofNat (List.length x.2.2.2.2.2.2.2.2.2.2.1)] (.inr (.inl ((@id (Nmt) (xsAt Nm x.2.2.2.2.2.2.2.2.2.2.1 (Int.toNat x.2.2.1))).2, true, ()))))
      (.leaf [] (.inl (x.1, (), (wrp .i64 (x.2.2.1 + (1 : Int))), x.2.2.2.1, x.2.2.2.2.1, x.2.2.2.2.2.1, x.2.2.2.2.2.2.1, x.2.2.2.2.2.2.2.1, x.2.2.2.2.2.2.2.2.1, x.2.2.2.2.2.2.2.2.2.1, x.2.2.2.2.2.2.2.2.2.2.1, ()))))
    (.leaf [] (.inr (.inr (.inl ()))))
noncomputable def F49 (x : Ndt × List UInt8 × Unit) : DT (Int × Bool × Unit) :=
  let y0 := loopOut F49L0 (x.2.1, (), (0 : Int), x.1.1, x.1.2.1, x.1.2.2.1, x.1.2.2.2.1, x.1.2.2.2.2.1, x.1.2.2.2.2.2.1, x.1.2.2.2.2.2.2.1, x.1.2.2.2.2.2.2.2, ())
  .node [loopInv F49L0 (x.2.1, (), (0 : Int), x.1.1, x.1.2.1, x.1.2.2.1, x.1.2.2.2.1, x.1.2.2.2.2.1, x.1.2.2.2.2.2.1, x.1.2.2.2.2.2.2.1, x.1.2.2.2.2.2.2.2, ())] (isL y0)
    (let y1 : Int × Bool × Unit := getL (Shape.z F49L0S0) y0
    .leaf [] (y1.1, y1.2.1, ()))
    (let y1 : Unit := getL (Shape.z F49L0S1) (restR y0)
    .leaf [] ((0 : Int), false, ()))
abbrev F49A : List AT := [.v (.agg Nd), .v (.one .str)]
abbrev F49B : List AT := [.v (.one (.int .i64)), .v (.one .bool)]
noncomputable def F49R : List (Nat × Rule) := [(0, ruleOf F49L0S F49L0X F49L0)]
theorem F49L0is : ∀ x, DT.Is (runL Tryz.prog cfg7 1000 (lsOf F49R) 49 0 F49L0S F49L0X x) (F49L0 x) := fun x => by unfold DT.Is; kernel_rfl
theorem F49is : ∀ x, DT.Is (runF Tryz.prog cfg7 1000 (lsOf F49R) 49 F49A F49B x) (F49 x) := fun x => by unfold DT.Is; kernel_rfl
noncomputable def F49.fn (x : Ndt × List UInt8 × Unit) : Int × Bool × Unit := (F49 x).fn
noncomputable def F49.pre (x : Ndt × List UInt8 × Unit) : Prop := (F49 x).pre
theorem F49ok : DataOk Tryz.prog 49 F49A F49B F49.pre F49.fn := data_of_tree F49A F49B F49 cfg7ok (.of_all cfg7ok (.cons (rule_of_tree F49L0S F49L0X F49L0 (F49L0is)) .nil)) F49is
noncomputable def F49C : Con Tryz.prog := conD 49 F49A F49B F49.pre F49.fn F49ok (by kernel_rfl)
noncomputable def cfgL8 : List (Con Tryz.prog) := F49C :: cfgL7
noncomputable def cfg8 : Cfg := cfgOf cfgL8
theorem cfg8ok : CfgOk Tryz.prog cfg8 := cfgOf_ok cfgnamed cfgmixed _
/-! 73 veneer/veneerref9.Heeds -/
noncomputable def F73 (x : Cft × Int × Unit) : DT (Bool × Unit) :=
  .node [] (decide (x.2.1 ≥ (0 : Int)))
    (.node [] (decide (x.2.1 < (Int.ofNat (List.length x.1.1))))
      (.node [0 ≤ x.2.1, x.2.1 < Int.ofNat (List.length x.1.1)] ((@id (Int) (xsAt (.one (.int .i64)) x.1.1 (Int.toNat x.2.1))) == (1 : Int))
        (.leaf [] (true, ()))
        (.leaf [0 ≤ x.2.1, x.2.1 < Int.ofNat (List.length x.1.1)] (((@id (Int) (xsAt (.one (.int .i64)) x.1.1 (Int.toNat x.2.1))) == (3 : Int)), ())))
      (.leaf [] (false, ())))
    (.leaf [] (false, ()))
abbrev F73A : List AT := [.v (.agg Cf), .v (.one (.int .i64))]
abbrev F73B : List AT := [.v (.one .bool)]
theorem F73is : ∀ x, DT.Is (runF Tryz.prog cfg8 1000 noL 73 F73A F73B x) (F73 x) := fun x => by unfold DT.Is; kernel_rfl
noncomputable def F73.fn (x : Cft × Int × Unit) : Bool × Unit := (F73 x).fn
noncomputable def F73.pre (x : Cft × Int × Unit) : Prop := (F73 x).pre
theorem F73ok : DataOk Tryz.prog 73 F73A F73B F73.pre F73.fn := data_of_tree F73A F73B F73 cfg8ok FnLoops.none F73is
noncomputable def F73C : Con Tryz.prog := conD 73 F73A F73B F73.pre F73.fn F73ok (by kernel_rfl)
noncomputable def cfgL9 : List (Con Tryz.prog) := F73C :: cfgL8
noncomputable def cfg9 : Cfg := cfgOf cfgL9
theorem cfg9ok : CfgOk Tryz.prog cfg9 := cfgOf_ok cfgnamed cfgmixed _
/-! 105 veneer/veneerref10.has -/
noncomputable def F105 (x : Dkt × Int × List UInt8 × Unit) : DT (Bool × Unit) :=
  let y0 := F12.fn (x.1, x.2.1, ())
  let y1 := F49.fn (y0.1, x.2.2.1, ())
  .node [F49.pre (y0.1, x.2.2.1, ()), F12.pre (x.1, x.2.1, ())] y1.2.1
    (.leaf [] ((y0.1.2.1 == (2 : Int)), ()))
    (.leaf [] (false, ()))
abbrev F105A : List AT := [.v (.agg Dk), .v (.one (.int .i64)), .v (.one .str)]
abbrev F105B : List AT := [.v (.one .bool)]
theorem F105is : ∀ x, DT.Is (runF Tryz.prog cfg9 1000 noL 105 F105A F105B x) (F105 x) := fun x => by unfold DT.Is; kernel_rfl
noncomputable def F105.fn (x : Dkt × Int × List UInt8 × Unit) : Bool × Unit := (F105 x).fn
noncomputable def F105.pre (x : Dkt × Int × List UInt8 × Unit) : Prop := (F105 x).pre
theorem F105ok : DataOk Tryz.prog 105 F105A F105B F105.pre F105.fn := data_of_tree F105A F105B F105 cfg9ok FnLoops.none F105is
noncomputable def F105C : Con Tryz.prog := conD 105 F105A F105B F105.pre F105.fn F105ok (by kernel_rfl)
noncomputable def cfgL10 : List (Con Tryz.prog) := F105C :: cfgL9
noncomputable def cfg10 : Cfg := cfgOf cfgL10
theorem cfg10ok : CfgOk Tryz.prog cfg10 := cfgOf_ok cfgnamed cfgmixed _
/-! 75 veneer/veneerref10.Cuts -/
noncomputable def F75 (x : Dkt × Int × Unit) : DT (Bool × Unit) :=
  let y0 := F105.fn (x.1, x.2.1, (dec 12 14380664602328719262401654897 []), ())
  .leaf [F105.pre (x.1, x.2.1, (dec 12 14380664602328719262401654897 []), ())] (y0.1, ())
abbrev F75A : List AT := [.v (.agg Dk), .v (.one (.int .i64))]
abbrev F75B : List AT := [.v (.one .bool)]
theorem F75is : ∀ x, DT.Is (runF Tryz.prog cfg10 1000 noL 75 F75A F75B x) (F75 x) := fun x => by unfold DT.Is; kernel_rfl
noncomputable def F75.fn (x : Dkt × Int × Unit) : Bool × Unit := (F75 x).fn
noncomputable def F75.pre (x : Dkt × Int × Unit) : Prop := (F75 x).pre
theorem F75ok : DataOk Tryz.prog 75 F75A F75B F75.pre F75.fn := data_of_tree F75A F75B F75 cfg10ok FnLoops.none F75is
noncomputable def F75C : Con Tryz.prog := conD 75 F75A F75B F75.pre F75.fn F75ok (by kernel_rfl)
noncomputable def cfgL11 : List (Con Tryz.prog) := F75C :: cfgL10
noncomputable def cfg11 : Cfg := cfgOf cfgL11
theorem cfg11ok : CfgOk Tryz.prog cfg11 := cfgOf_ok cfgnamed cfgmixed _
/-! 50 veneer/veneerref11.cut -/
noncomputable def F50 (x : Wdt × Spt × Unit) : DT (Bool × Unit) :=
  let y0 := F73.fn ((x.1.1, x.1.2.1), x.2.1.1, ())
  .node [] y0.1
    (let y1 := F75.fn ((@id (Dkt) (xsAt Dk x.1.2.2.1 (Int.toNat x.2.1.1))), x.2.1.2, ())
    .leaf [F75.pre ((@id (Dkt) (xsAt Dk x.1.2.2.1 (Int.toNat x.2.1.1))), x.2.1.2, ()), F73.pre ((x.1.1, x.1.2.1), x.2.1.1, ()), 0 ≤ x.2.1.1, x.2.1.1 < Int.ofNat (List.length x.1.2.2.1)] (y1.1, ()))
    (.leaf [F73.pre ((x.1.1, x.1.2.1), x.2.1.1, ())] (false, ()))
abbrev F50A : List AT := [.v (.agg Wd), .v (.agg Sp)]
abbrev F50B : List AT := [.v (.one .bool)]
theorem F50is : ∀ x, DT.Is (runF Tryz.prog cfg11 1000 noL 50 F50A F50B x) (F50 x) := fun x => by unfold DT.Is; kernel_rfl
noncomputable def F50.fn (x : Wdt × Spt × Unit) : Bool × Unit := (F50 x).fn
noncomputable def F50.pre (x : Wdt × Spt × Unit) : Prop := (F50 x).pre
theorem F50ok : DataOk Tryz.prog 50 F50A F50B F50.pre F50.fn := data_of_tree F50A F50B F50 cfg11ok FnLoops.none F50is
noncomputable def F50C : Con Tryz.prog := conD 50 F50A F50B F50.pre F50.fn F50ok (by kernel_rfl)
noncomputable def cfgL12 : List (Con Tryz.prog) := F50C :: cfgL11
noncomputable def cfg12 : Cfg := cfgOf cfgL12
theorem cfg12ok : CfgOk Tryz.prog cfg12 := cfgOf_ok cfgnamed cfgmixed _
/-! 106 veneer/veneerref10.White -/
noncomputable def F106 (x : List UInt8 × Unit) : DT (List UInt8 × Unit) :=
  .leaf [List.length (dec 4 779577390 []) + List.length x.1 ≤ Room] (((dec 4 779577390 []) ++ x.1), ())
abbrev F106A : List AT := [.v (.one .str)]
abbrev F106B : List AT := [.v (.one .str)]
theorem F106is : ∀ x, DT.Is (runF Tryz.prog cfg12 1000 noL 106 F106A F106B x) (F106 x) := fun x => by unfold DT.Is; kernel_rfl
noncomputable def F106.fn (x : List UInt8 × Unit) : List UInt8 × Unit := (F106 x).fn
noncomputable def F106.pre (x : List UInt8 × Unit) : Prop := (F106 x).pre
theorem F106ok : DataOk Tryz.prog 106 F106A F106B F106.pre F106.fn := data_of_tree F106A F106B F106 cfg12ok FnLoops.none F106is
noncomputable def F106C : Con Tryz.prog := conD 106 F106A F106B F106.pre F106.fn F106ok (by kernel_rfl)
noncomputable def cfgL13 : List (Con Tryz.prog) := F106C :: cfgL12
noncomputable def cfg13 : Cfg := cfgOf cfgL13
theorem cfg13ok : CfgOk Tryz.prog cfg13 := cfgOf_ok cfgnamed cfgmixed _
/-! 74 veneer/veneerref10.Hides -/
noncomputable def F74 (x : Dkt × Int × List UInt8 × Unit) : DT (Bool × Unit) :=
  let y0 := F106.fn (x.2.2.1, ())
  let y1 := F105.fn (x.1, x.2.1, y0.1, ())
  .leaf [F105.pre (x.1, x.2.1, y0.1, ()), F106.pre (x.2.2.1, ()), (let r : List AV := [.agg [.x (.i .i64 x.1.1), .x (.i .i64 x.1.2.1), .x (.i .i64 x.1.2.2.1), .x (.row Nd x.1.2.2.2)]]; r = r)] (y1.1, ())
abbrev F74A : List AT := [.v (.agg Dk), .v (.one (.int .i64)), .v (.one .str)]
abbrev F74B : List AT := [.v (.one .bool)]
theorem F74is : ∀ x, DT.Is (runF Tryz.prog cfg13 1000 noL 74 F74A F74B x) (F74 x) := fun x => by unfold DT.Is; kernel_rfl
noncomputable def F74.fn (x : Dkt × Int × List UInt8 × Unit) : Bool × Unit := (F74 x).fn
noncomputable def F74.pre (x : Dkt × Int × List UInt8 × Unit) : Prop := (F74 x).pre
theorem F74ok : DataOk Tryz.prog 74 F74A F74B F74.pre F74.fn := data_of_tree F74A F74B F74 cfg13ok FnLoops.none F74is
noncomputable def F74C : Con Tryz.prog := conD 74 F74A F74B F74.pre F74.fn F74ok (by kernel_rfl)
noncomputable def cfgL14 : List (Con Tryz.prog) := F74C :: cfgL13
noncomputable def cfg14 : Cfg := cfgOf cfgL14
theorem cfg14ok : CfgOk Tryz.prog cfg14 := cfgOf_ok cfgnamed cfgmixed _
/-! 48 veneer/veneerref11.hides -/
noncomputable def F48 (x : Wdt × Spt × List UInt8 × Unit) : DT (Bool × Unit) :=
  let y0 := F73.fn ((x.1.1, x.1.2.1), x.2.1.1, ())
  .node [] y0.1
    (let y1 := F74.fn ((@id (Dkt) (xsAt Dk x.1.2.2.1 (Int.toNat x.2.1.1))), x.2.1.2, x.2.2.1, ())
    .leaf [F74.pre ((@id (Dkt) (xsAt Dk x.1.2.2.1 (Int.toNat x.2.1.1))), x.2.1.2, x.2.2.1, ()), F73.pre ((x.1.1, x.1.2.1), x.2.1.1, ()), 0 ≤ x.2.1.1, x.2.1.1 < Int.ofNat (List.length x.1.2.2.1)] (y1.1, ()))
    (.leaf [F73.pre ((x.1.1, x.1.2.1), x.2.1.1, ())] (false, ()))
abbrev F48A : List AT := [.v (.agg Wd), .v (.agg Sp), .v (.one .str)]
abbrev F48B : List AT := [.v (.one .bool)]
theorem F48is : ∀ x, DT.Is (runF Tryz.prog cfg14 1000 noL 48 F48A F48B x) (F48 x) := fun x => by unfold DT.Is; kernel_rfl
noncomputable def F48.fn (x : Wdt × Spt × List UInt8 × Unit) : Bool × Unit := (F48 x).fn
noncomputable def F48.pre (x : Wdt × Spt × List UInt8 × Unit) : Prop := (F48 x).pre
theorem F48ok : DataOk Tryz.prog 48 F48A F48B F48.pre F48.fn := data_of_tree F48A F48B F48 cfg14ok FnLoops.none F48is
noncomputable def F48C : Con Tryz.prog := conD 48 F48A F48B F48.pre F48.fn F48ok (by kernel_rfl)
noncomputable def cfgL15 : List (Con Tryz.prog) := F48C :: cfgL14
noncomputable def cfg15 : Cfg := cfgOf cfgL15
theorem cfg15ok : CfgOk Tryz.prog cfg15 := cfgOf_ok cfgnamed cfgmixed _
/-! 27 veneer/veneerref11.look -/
def F27L0S : Shape := ⟨[(1, .v (.one (.row Sp))), (2, .v (.one .str)), (3, .val (.ptr 0 0)), (8, .own Sp), (9, .v (.one (.int .i64))), (10, .v (.one (.int .i64)))], [(0, 7, [.v (.one (.row (.one (.int .i64)))), .v (.one (.int .i64)), .v (.one (.row Dk)), .v (.one (.int .i64)), .v (.one (.row Rw)), .v (.one (.row Rw)), .v (.one (.int .i64))])], 1⟩
def F27L0S0 : Shape := ⟨[(6, .own Sp), (7, .v (.one (.int .i64)))], [], 1⟩
def F27L0S1 : Shape := ⟨[(8, .own Sp), (9, .v (.one (.int .i64)))], [], 1⟩
def F27L0X : List (Option Nat × Shape) := [(none, F27L0S0), (some 0, F27L0S1)]
noncomputable def F27L0 (x : List Spt × List UInt8 × Unit × List Spt × Int × Int × List (Int) × Int × List Dkt × Int × List Rwt × List Rwt × Int × Unit) : DT ((List Spt × List UInt8 × Unit × List Spt × Int × Int × List (Int) × Int × List Dkt × Int × List Rwt × List Rwt × Int × Unit) ⊕ ((List Spt × Int × Unit) ⊕ (List Spt × Int × Unit) ⊕ Empty)) :=
  .node [] (decide (x.2.2.2.2.2.1 < (Int.ofNat (List.length x.1))))
    (let y0 := F12.fn ((@id (Dkt) (xsAt Dk x.2.2.2.2.2.2.2.2.1 (Int.toNat (@id (Spt) (xsAt Sp x.1 (Int.toNat x.2.2.2.2.2.1))).1))), (@id (Spt) (xsAt Sp x.1 (Int.toNat x.2.2.2.2.2.1))).2, ())
    let y1 := F49.fn (y0.1, x.2.1, ())
    .node [F49.pre (y0.1, x.2.1, ()), F12.pre ((@id (Dkt) (xsAt Dk x.2.2.2.2.2.2.2.2.1 (Int.toNat (@id (Spt) (xsAt Sp x.1 (Int.toNat x.2.2.2.2.2.1))).1))), (@id (Spt) (xsAt Sp x.1 (Int.toNat x.2.2.2.2.2.1))).2, ()), 0 ≤ (@id (Spt) (xsAt Sp x.1 (Int.toNat x.2.2.2.2.2.1))).1, (@id (Spt) (xsAt Sp x.1 (Int.toNat x.2.2.2.2.2.1))).1 < Int.ofNat (List.length x.2.2.2.2.2.2.2.2.1), 0 ≤ x.2.2.2.2.2.1, x.2.2.2.2.2.1 < Int.ofNat (List.length x.1)] y1.2.1
      (let y2 := F12.fn ((@id (Dkt) (xsAt Dk x.2.2.2.2.2.2.2.2.1 (Int.toNat (@id (Spt) (xsAt Sp x.1 (Int.toNat x.2.2.2.2.2.1))).1))), y1.1, ())
      .node [F12.pre ((@id (Dkt) (xsAt Dk x.2.2.2.2.2.2.2.2.1 (Int.toNat (@id (Spt) (xsAt Sp x.1 (Int.toNat x.2.2.2.2.2.1))).1))), y1.1, ()), 0 ≤ (@id (Spt) (xsAt Sp x.1 (Int.toNat x.2.2.2.2.2.1))).1, (@id (Spt) (xsAt Sp x.1 (Int.toNat x.2.2.2.2.2.1))).1 < Int.ofNat (List.length x.2.2.2.2.2.2.2.2.1)] (y2.1.2.1 != (2 : Int))
        (.node [] ((Int.ofNat (List.length x.2.2.2.1)) == (0 : Int))
          (.leaf [(List.length (x.2.2.2.1 ++ (((@id (Spt) (xsAt Sp x.1 (Int.toNat x.2.2.2.2.2.1))).1, y1.1) :: []))) * 16 ≤ Room] (.inr (.inl ((x.2.2.2.1 ++ (((@id (Spt) (xsAt Sp x.1 (Int.toNat x.2.2.2.2.2.1))).1, y1.1) :: [])), (wrp .i64 ((@id (Spt) (xsAt Sp x.1 (Int.toNat x.2.2.2.2.2.1))).1 - (1 : Int))), ()))))
          (.leaf [] (.inr (.inl (x.2.2.2.1, (wrp .i64 ((@id (Spt) (xsAt Sp x.1 (Int.toNat x.2.2.2.2.2.1))).1 - (1 : Int))), ())))))
        (let y3 := F50.fn ((x.2.2.2.2.2.2.1, (x.2.2.2.2.2.2.2.1, (x.2.2.2.2.2.2.2.2.1, (x.2.2.2.2.2.2.2.2.2.1, (x.2.2.2.2.2.2.2.2.2.2.1, (x.2.2.2.2.2.2.2.2.2.2.2.1, x.2.2.2.2.2.2.2.2.2.2.2.2.1)))))), ((@id (Spt) (xsAt Sp x.1 (Int.toNat x.2.2.2.2.2.1))).1, y1.1), ())
        .node [F50.pre ((x.2.2.2.2.2.2.1, (x.2.2.2.2.2.2.2.1, (x.2.2.2.2.2.2.2.2.1, (x.2.2.2.2.2.2.2.2.2.1, (x.2.2.2.2.2.2.2.2.2.2.1, (x.2.2.2.2.2.2.2.2.2.2.2.1, x.2.2.2.2.2.2.2.2.2.2.2.2.1)))))), ((@id (Spt) (xsAt Sp x.1 (Int.toNat x.2.2.2.2.2.1))).1, y1.1), ()), (List.length (x.2.2.2.1 ++ (((@id (Spt) (xsAt Sp x.1 (Int.toNat x.2.2.2.2.2.1))).1, y1.1) :: []))) * 16 ≤ Room] y3.1
          (.leaf [] (.inr (.inl ((x.2.2.2.1 ++ (((@id (Spt) (xsAt Sp x.1 (Int.toNat x.2.2.2.2.2.1))).1, y1.1) :: [])), (@id (Spt) (xsAt Sp x.1 (Int.toNat x.2.2.2.2.2.1))).1, ()))))
          (let y4 := F48.fn ((x.2.2.2.2.2.2.1, (x.2.2.2.2.2.2.2.1, (x.2.2.2.2.2.2.2.2.1, (x.2.2.2.2.2.2.2.2.2.1, (x.2.2.2.2.2.2.2.2.2.2.1, (x.2.2.2.2.2.2.2.2.2.2.2.1, x.2.2.2.2.2.2.2.2.2.2.2.2.1)))))), (@id (Spt) (xsAt Sp x.1 (Int.toNat x.2.2.2.2.2.1))), x.2.1, ())
          .node [F48.pre ((x.2.2.2.2.2.2.1, (x.2.2.2.2.2.2.2.1, (x.2.2.2.2.2.2.2.2.1, (x.2.2.2.2.2.2.2.2.2.1, (x.2.2.2.2.2.2.2.2.2.2.1, (x.2.2.2.2.2.2.2.2.2.2.2.1, x.2.2.2.2.2.2.2.2.2.2.2.2.1)))))), (@id (Spt) (xsAt Sp x.1 (Int.toNat x.2.2.2.2.2.1))), x.2.1, ())] y4.1
            (.leaf [] (.inr (.inl ((x.2.2.2.1 ++ (((@id (Spt) (xsAt Sp x.1 (Int.toNat x.2.2.2.2.2.1))).1, y1.1) :: [])), (@id (Spt) (xsAt Sp x.1 (Int.toNat x.2.2.2.2.2.1))).1, ()))))
            (.leaf [] (.inl (x.1, x.2.1, (), (x.2.2.2.1 ++ (((@id (Spt) (xsAt Sp x.1 (Int.toNat x.2.2.2.2.2.1))).1, y1.1) :: [])), x.2.2.2.2.1, (wrp .i64 (x.2.2.2.2.2.1 + (1 : Int))), x.2.2.2.2.2.2.1, x.2.2.2.2.2.2.2.1, x.2.2.2.2.2.2.2.2.1, x.2.2.2.2.2.2.2.2.2.1, x.2.2.2.2.2.2.2.2.2.2.1, x.2.2.2.2.2.2.2.2.2.2.2.1, x.2.2.2.2.2.2.2.2.2.2.2.2.1, ()))))))
      (let y2 := F48.fn ((x.2.2.2.2.2.2.1, (x.2.2.2.2.2.2.2.1, (x.2.2.2.2.2.2.2.2.1, (x.2.2.2.2.2.2.2.2.2.1, (x.2.2.2.2.2.2.2.2.2.2.1, (x.2.2.2.2.2.2.2.2.2.2.2.1, x.2.2.2.2.2.2.2.2.2.2.2.2.1)))))), (@id (Spt) (xsAt Sp x.1 (Int.toNat x.2.2.2.2.2.1))), x.2.1, ())
      .node [F48.pre ((x.2.2.2.2.2.2.1, (x.2.2.2.2.2.2.2.1, (x.2.2.2.2.2.2.2.2.1, (x.2.2.2.2.2.2.2.2.2.1, (x.2.2.2.2.2.2.2.2.2.2.1, (x.2.2.2.2.2.2.2.2.2.2.2.1, x.2.2.2.2.2.2.2.2.2.2.2.2.1)))))), (@id (Spt) (xsAt Sp x.1 (Int.toNat x.2.2.2.2.2.1))), x.2.1, ())] y2.1
        (.leaf [] (.inr (.inl (x.2.2.2.1, (@id (Spt) (xsAt Sp x.1 (Int.toNat x.2.2.2.2.2.1))).1, ()))))
        (.leaf [] (.inl (x.1, x.2.1, (), x.2.2.2.1, x.2.2.2.2.1, (wrp .i64 (x.2.2.2.2.2.1 + (1 : Int))), x.2.2.2.2.2.2.1, x.2.2.2.2.2.2.2.1, x.2.2.2.2.2.2.2.2.1, x.2.2.2.2.2.2.2.2.2.1, x.2.2.2.2.2.2.2.2.2.2.1, x.2.2.2.2.2.2.2.2.2.2.2.1, x.2.2.2.2.2.2.2.2.2.2.2.2.1, ())))))
    (.leaf [] (.inr (.inr (.inl (x.2.2.2.1, x.2.2.2.2.1, ())))))
noncomputable def F27 (x : Wdt × List Spt × List UInt8 × Unit) : DT (List Spt × Int × Unit) :=
  let y0 := loopOut F27L0 (x.2.1, x.2.2.1, (), [], (wrp .i64 ((Int.ofNat (List.length x.1.2.2.1)) - (1 : Int))), (0 : Int), x.1.1, x.1.2.1, x.1.2.2.1, x.1.2.2.2.1, x.1.2.2.2.2.1, x.1.2.2.2.2.2.1, x.1.2.2.2.2.2.2, ())
  .node [loopInv F27L0 (x.2.1, x.2.2.1, (), [], (wrp .i64 ((Int.ofNat (List.length x.1.2.2.1)) - (1 : Int))), (0 : Int), x.1.1, x.1.2.1, x.1.2.2.1, x.1.2.2.2.1, x.1.2.2.2.2.1, x.1.2.2.2.2.2.1, x.1.2.2.2.2.2.2, ())] (isL y0)
    (let y1 : List Spt × Int × Unit := getL (Shape.z F27L0S0) y0
    .leaf [] (y1.1, y1.2.1, ()))
    (let y1 : List Spt × Int × Unit := getL (Shape.z F27L0S1) (restR y0)
    .leaf [] (y1.1, y1.2.1, ()))
abbrev F27A : List AT := [.v (.agg Wd), .v (.one (.row Sp)), .v (.one .str)]
abbrev F27B : List AT := [.own Sp, .v (.one (.int .i64))]
noncomputable def F27R : List (Nat × Rule) := [(0, ruleOf F27L0S F27L0X F27L0)]
theorem F27L0is : ∀ x, DT.Is (runL Tryz.prog cfg15 1000 (lsOf F27R) 27 0 F27L0S F27L0X x) (F27L0 x) := fun x => by unfold DT.Is; kernel_rfl
theorem F27is : ∀ x, DT.Is (runF Tryz.prog cfg15 1000 (lsOf F27R) 27 F27A F27B x) (F27 x) := fun x => by unfold DT.Is; kernel_rfl
noncomputable def F27.fn (x : Wdt × List Spt × List UInt8 × Unit) : List Spt × Int × Unit := (F27 x).fn
noncomputable def F27.pre (x : Wdt × List Spt × List UInt8 × Unit) : Prop := (F27 x).pre
theorem F27ok : DataOk Tryz.prog 27 F27A F27B F27.pre F27.fn := data_of_tree F27A F27B F27 cfg15ok (.of_all cfg15ok (.cons (rule_of_tree F27L0S F27L0X F27L0 (F27L0is)) .nil)) F27is
noncomputable def F27C : Con Tryz.prog := conD 27 F27A F27B F27.pre F27.fn F27ok (by kernel_rfl)
noncomputable def cfgL16 : List (Con Tryz.prog) := F27C :: cfgL15
noncomputable def cfg16 : Cfg := cfgOf cfgL16
theorem cfg16ok : CfgOk Tryz.prog cfg16 := cfgOf_ok cfgnamed cfgmixed _
/-! 10 veneer/veneerref11.Seen -/
noncomputable def F10 (x : Wdt × List Spt × List UInt8 × Unit) : DT (List Spt × Unit) :=
  let y0 := F27.fn (x.1, x.2.1, x.2.2.1, ())
  .leaf [F27.pre (x.1, x.2.1, x.2.2.1, ())] (y0.1, ())
abbrev F10A : List AT := [.v (.agg Wd), .v (.one (.row Sp)), .v (.one .str)]
abbrev F10B : List AT := [.own Sp]
theorem F10is : ∀ x, DT.Is (runF Tryz.prog cfg16 1000 noL 10 F10A F10B x) (F10 x) := fun x => by unfold DT.Is; kernel_rfl
noncomputable def F10.fn (x : Wdt × List Spt × List UInt8 × Unit) : List Spt × Unit := (F10 x).fn
noncomputable def F10.pre (x : Wdt × List Spt × List UInt8 × Unit) : Prop := (F10 x).pre
theorem F10ok : DataOk Tryz.prog 10 F10A F10B F10.pre F10.fn := data_of_tree F10A F10B F10 cfg16ok FnLoops.none F10is
noncomputable def F10C : Con Tryz.prog := conD 10 F10A F10B F10.pre F10.fn F10ok (by kernel_rfl)
noncomputable def cfgL17 : List (Con Tryz.prog) := F10C :: cfgL16
noncomputable def cfg17 : Cfg := cfgOf cfgL17
theorem cfg17ok : CfgOk Tryz.prog cfg17 := cfgOf_ok cfgnamed cfgmixed _
/-! 45 veneer/veneerref11.insert -/
def F45L0S : Shape := ⟨[(0, .v (.one (.row (.one .str)))), (1, .v (.one .str)), (5, .v (.one (.int .i64)))], [], 0⟩
def F45L0S0 : Shape := ⟨[(0, .v (.one (.row (.one .str)))), (1, .v (.one .str)), (5, .v (.one (.int .i64)))], [], 0⟩
def F45L0X : List (Option Nat × Shape) := [(some 0, F45L0S0)]
noncomputable def F45L0 (x : List (List UInt8) × List UInt8 × Int × Unit) : DT ((List (List UInt8) × List UInt8 × Int × Unit) ⊕ ((List (List UInt8) × List UInt8 × Int × Unit) ⊕ Empty)) :=
  .node [] (decide (x.2.2.1 < (Int.ofNat (List.length x.1))))
    (.node [0 ≤ x.2.2.1, x.2.2.1 < Int.ofNat (List.length x.1)] (Op.bytesLess (@id (List UInt8) (xsAt (.one .str) x.1 (Int.toNat x.2.2.1))) x.2.1)
      (.leaf [] (.inl (x.1, x.2.1, (wrp .i64 (x.2.2.1 + (1 : Int))), ())))
      (.leaf [] (.inr (.inl (x.1, x.2.1, x.2.2.1, ())))))
    (.leaf [] (.inr (.inl (x.1, x.2.1, x.2.2.1, ()))))
noncomputable def F45 (x : List (List UInt8) × List UInt8 × Unit) : DT (List (List UInt8) × Unit) :=
  let y0 := loopOut F45L0 (x.1, x.2.1, (0 : Int), ())
  let y1 : List (List UInt8) × List UInt8 × Int × Unit := getL (Shape.z F45L0S0) y0
  .node [loopInv F45L0 (x.1, x.2.1, (0 : Int), ())] (decide (y1.2.2.1 < (Int.ofNat (List.length y1.1))))
    (.node [0 ≤ y1.2.2.1, y1.2.2.1 < Int.ofNat (List.length y1.1)] ((@id (List UInt8) (xsAt (.one .str) y1.1 (Int.toNat y1.2.2.1))) == y1.2.1)
      (.leaf [] (y1.1, ()))
      (.leaf [(List.length ((([] ++ (List.take (Int.toNat y1.2.2.1) y1.1)) ++ (y1.2.1 :: [])) ++ (List.drop (Int.toNat y1.2.2.1) y1.1))) * 16 ≤ Room, (List.length (([] ++ (List.take (Int.toNat y1.2.2.1) y1.1)) ++ (y1.2.1 :: []))) * 16 ≤ Room, (List.length ([] ++ (List.take (Int.toNat y1.2.2.1) y1.1))) * 16 ≤ Room, (let r : List AV := [.x (.s y1.2.1)]; r = r), (let r : List AV := [.x (.s y1.2.1)]; r = r), 0 ≤ y1.2.2.1, y1.2.2.1 ≤ Int.ofNat (List.length y1.1), 0 ≤ y1.2.2.1, y1.2.2.1 ≤ Int.ofNat (List.length y1.1)] (((([] ++ (List.take (Int.toNat y1.2.2.1) y1.1)) ++ (y1.2.1 :: [])) ++ (List.drop (Int.toNat y1.2.2.1) y1.1)), ())))
    (.leaf [(List.length ((([] ++ (List.take (Int.toNat y1.2.2.1) y1.1)) ++ (y1.2.1 :: [])) ++ (List.drop (Int.toNat y1.2.2.1) y1.1))) * 16 ≤ Room, (List.length (([] ++ (List.take (Int.toNat y1.2.2.1) y1.1)) ++ (y1.2.1 :: []))) * 16 ≤ Room, (List.length ([] ++ (List.take (Int.toNat y1.2.2.1) y1.1))) * 16 ≤ Room, (let r : List AV := [.x (.s y1.2.1)]; r = r), (let r : List AV := [.x (.s y1.2.1)]; r = r), 0 ≤ y1.2.2.1, y1.2.2.1 ≤ Int.ofNat (List.length y1.1), 0 ≤ y1.2.2.1, y1.2.2.1 ≤ Int.ofNat (List.length y1.1)] (((([] ++ (List.take (Int.toNat y1.2.2.1) y1.1)) ++ (y1.2.1 :: [])) ++ (List.drop (Int.toNat y1.2.2.1) y1.1)), ()))
abbrev F45A : List AT := [.v (.one (.row (.one .str))), .v (.one .str)]
abbrev F45B : List AT := [.v (.one (.row (.one .str)))]
noncomputable def F45R : List (Nat × Rule) := [(0, ruleOf F45L0S F45L0X F45L0)]
theorem F45L0is : ∀ x, DT.Is (runL Tryz.prog cfg17 1000 (lsOf F45R) 45 0 F45L0S F45L0X x) (F45L0 x) := fun x => by unfold DT.Is; kernel_rfl
theorem F45is : ∀ x, DT.Is (runF Tryz.prog cfg17 1000 (lsOf F45R) 45 F45A F45B x) (F45 x) := fun x => by unfold DT.Is; kernel_rfl
noncomputable def F45.fn (x : List (List UInt8) × List UInt8 × Unit) : List (List UInt8) × Unit := (F45 x).fn
noncomputable def F45.pre (x : List (List UInt8) × List UInt8 × Unit) : Prop := (F45 x).pre
theorem F45ok : DataOk Tryz.prog 45 F45A F45B F45.pre F45.fn := data_of_tree F45A F45B F45 cfg17ok (.of_all cfg17ok (.cons (rule_of_tree F45L0S F45L0X F45L0 (F45L0is)) .nil)) F45is
noncomputable def F45C : Con Tryz.prog := conD 45 F45A F45B F45.pre F45.fn F45ok (by kernel_rfl)
noncomputable def cfgL18 : List (Con Tryz.prog) := F45C :: cfgL17
noncomputable def cfg18 : Cfg := cfgOf cfgL18
theorem cfg18ok : CfgOk Tryz.prog cfg18 := cfgOf_ok cfgnamed cfgmixed _
/-! 23 veneer/veneerref11.Names -/
def F23L1S : Shape := ⟨[(1, .v (.one (.row Sp))), (2, .val (.ptr 0 0)), (5, .v (.one (.row (.one .str)))), (6, .v (.one (.int .i64))), (7, .val (.ptr 1 0)), (9, .v (.one (.int .i64)))], [(0, 7, [.v (.one (.row (.one (.int .i64)))), .v (.one (.int .i64)), .v (.one (.row Dk)), .v (.one (.int .i64)), .v (.one (.row Rw)), .v (.one (.row Rw)), .v (.one (.int .i64))]), (1, 8, [.v (.one (.int .i64)), .v (.one (.int .i64)), .v (.one (.int .i64)), .v (.one (.int .i64)), .v (.one (.int .i64)), .v (.one (.row Bk)), .v (.one .str), .v (.one (.row Nm))])], 2⟩
def F23L1S0 : Shape := ⟨[(1, .v (.one (.row Sp))), (2, .val (.ptr 0 0)), (5, .v (.one (.row (.one .str)))), (6, .v (.one (.int .i64)))], [(0, 7, [.v (.one (.row (.one (.int .i64)))), .v (.one (.int .i64)), .v (.one (.row Dk)), .v (.one (.int .i64)), .v (.one (.row Rw)), .v (.one (.row Rw)), .v (.one (.int .i64))])], 2⟩
def F23L1X : List (Option Nat × Shape) := [(some 2, F23L1S0)]
noncomputable def F23L1 (x : List Spt × Unit × List (List UInt8) × Int × Unit × Int × List (Int) × Int × List Dkt × Int × List Rwt × List Rwt × Int × Int × Int × Int × Int × Int × List Bkt × List UInt8 × List Nmt × Unit) : DT ((List Spt × Unit × List (List UInt8) × Int × Unit × Int × List (Int) × Int × List Dkt × Int × List Rwt × List Rwt × Int × Int × Int × Int × Int × Int × List Bkt × List UInt8 × List Nmt × Unit) ⊕ ((List Spt × Unit × List (List UInt8) × Int × List (Int) × Int × List Dkt × Int × List Rwt × List Rwt × Int × Unit) ⊕ Empty)) :=
  .node [] (decide (x.2.2.2.2.2.1 < (Int.ofNat (List.length x.2.2.2.2.2.2.2.2.2.2.2.2.2.2.2.2.2.2.2.2.1))))
    (let y0 := F44.fn ((@id (Nmt) (xsAt Nm x.2.2.2.2.2.2.2.2.2.2.2.2.2.2.2.2.2.2.2.2.1 (Int.toNat x.2.2.2.2.2.1))).1, ())
    .node [F44.pre ((@id (Nmt) (xsAt Nm x.2.2.2.2.2.2.2.2.2.2.2.2.2.2.2.2.2.2.2.2.1 (Int.toNat x.2.2.2.2.2.1))).1, ()), 0 ≤ x.2.2.2.2.2.1, x.2.2.2.2.2.1 < Int.ofNat (List.length x.2.2.2.2.2.2.2.2.2.2.2.2.2.2.2.2.2.2.2.2.1)] (!y0.1)
      (let y1 := F10.fn ((x.2.2.2.2.2.2.1, (x.2.2.2.2.2.2.2.1, (x.2.2.2.2.2.2.2.2.1, (x.2.2.2.2.2.2.2.2.2.1, (x.2.2.2.2.2.2.2.2.2.2.1, (x.2.2.2.2.2.2.2.2.2.2.2.1, x.2.2.2.2.2.2.2.2.2.2.2.2.1)))))), x.1, (@id (Nmt) (xsAt Nm x.2.2.2.2.2.2.2.2.2.2.2.2.2.2.2.2.2.2.2.2.1 (Int.toNat x.2.2.2.2.2.1))).1, ())
      .node [F10.pre ((x.2.2.2.2.2.2.1, (x.2.2.2.2.2.2.2.1, (x.2.2.2.2.2.2.2.2.1, (x.2.2.2.2.2.2.2.2.2.1, (x.2.2.2.2.2.2.2.2.2.2.1, (x.2.2.2.2.2.2.2.2.2.2.2.1, x.2.2.2.2.2.2.2.2.2.2.2.2.1)))))), x.1, (@id (Nmt) (xsAt Nm x.2.2.2.2.2.2.2.2.2.2.2.2.2.2.2.2.2.2.2.2.1 (Int.toNat x.2.2.2.2.2.1))).1, ())] (decide ((Int.ofNat (List.length y1.1)) > (0 : Int)))
        (let y2 := F45.fn (x.2.2.1, (@id (Nmt) (xsAt Nm x.2.2.2.2.2.2.2.2.2.2.2.2.2.2.2.2.2.2.2.2.1 (Int.toNat x.2.2.2.2.2.1))).1, ())
        .leaf [F45.pre (x.2.2.1, (@id (Nmt) (xsAt Nm x.2.2.2.2.2.2.2.2.2.2.2.2.2.2.2.2.2.2.2.2.1 (Int.toNat x.2.2.2.2.2.1))).1, ())] (.inl (x.1, (), y2.1, x.2.2.2.1, (), (wrp .i64 (x.2.2.2.2.2.1 + (1 : Int))), x.2.2.2.2.2.2.1, x.2.2.2.2.2.2.2.1, x.2.2.2.2.2.2.2.2.1, x.2.2.2.2.2.2.2.2.2.1, x.2.2.2.2.2.2.2.2.2.2.1, x.2.2.2.2.2.2.2.2.2.2.2.1, x.2.2.2.2.2.2.2.2.2.2.2.2.1, x.2.2.2.2.2.2.2.2.2.2.2.2.2.1, x.2.2.2.2.2.2.2.2.2.2.2.2.2.2.1, x.2.2.2.2.2.2.2.2.2.2.2.2.2.2.2.1, x.2.2.2.2.2.2.2.2.2.2.2.2.2.2.2.2.1, x.2.2.2.2.2.2.2.2.2.2.2.2.2.2.2.2.2.1, x.2.2.2.2.2.2.2.2.2.2.2.2.2.2.2.2.2.2.1, x.2.2.2.2.2.2.2.2.2.2.2.2.2.2.2.2.2.2.2.1, x.2.2.2.2.2.2.2.2.2.2.2.2.2.2.2.2.2.2.2.2.1, ())))
        (.leaf [] (.inl (x.1, (), x.2.2.1, x.2.2.2.1, (), (wrp .i64 (x.2.2.2.2.2.1 + (1 : Int))), x.2.2.2.2.2.2.1, x.2.2.2.2.2.2.2.1, x.2.2.2.2.2.2.2.2.1, x.2.2.2.2.2.2.2.2.2.1, x.2.2.2.2.2.2.2.2.2.2.1, x.2.2.2.2.2.2.2.2.2.2.2.1, x.2.2.2.2.2.2.2.2.2.2.2.2.1, x.2.2.2.2.2.2.2.2.2.2.2.2.2.1, x.2.2.2.2.2.2.2.2.2.2.2.2.2.2.1, x.2.2.2.2.2.2.2.2.2.2.2.2.2.2.2.1, x.2.2.2.2.2.2.2.2.2.2.2.2.2.2.2.2.1, x.2.2.2.2.2.2.2.2.2.2.2.2.2.2.2.2.2.1, x.2.2.2.2.2.2.2.2.2.2.2.2.2.2.2.2.2.2.1, x.2.2.2.2.2.2.2.2.2.2.2.2.2.2.2.2.2.2.2.1, x.2.2.2.2.2.2.2.2.2.2.2.2.2.2.2.2.2.2.2.2.1, ()))))
      (.leaf [] (.inl (x.1, (), x.2.2.1, x.2.2.2.1, (), (wrp .i64 (x.2.2.2.2.2.1 + (1 : Int))), x.2.2.2.2.2.2.1, x.2.2.2.2.2.2.2.1, x.2.2.2.2.2.2.2.2.1, x.2.2.2.2.2.2.2.2.2.1, x.2.2.2.2.2.2.2.2.2.2.1, x.2.2.2.2.2.2.2.2.2.2.2.1, x.2.2.2.2.2.2.2.2.2.2.2.2.1, x.2.2.2.2.2.2.2.2.2.2.2.2.2.1, x.2.2.2.2.2.2.2.2.2.2.2.2.2.2.1, x.2.2.2.2.2.2.2.2.2.2.2.2.2.2.2.1, x.2.2.2.2.2.2.2.2.2.2.2.2.2.2.2.2.1, x.2.2.2.2.2.2.2.2.2.2.2.2.2.2.2.2.2.1, x.2.2.2.2.2.2.2.2.2.2.2.2.2.2.2.2.2.2.1, x.2.2.2.2.2.2.2.2.2.2.2.2.2.2.2.2.2.2.2.1, x.2.2.2.2.2.2.2.2.2.2.2.2.2.2.2.2.2.2.2.2.1, ()))))
    (.leaf [] (.inr (.inl (x.1, (), x.2.2.1, x.2.2.2.1, x.2.2.2.2.2.2.1, x.2.2.2.2.2.2.2.1, x.2.2.2.2.2.2.2.2.1, x.2.2.2.2.2.2.2.2.2.1, x.2.2.2.2.2.2.2.2.2.2.1, x.2.2.2.2.2.2.2.2.2.2.2.1, x.2.2.2.2.2.2.2.2.2.2.2.2.1, ()))))
def F23L0S : Shape := ⟨[(1, .v (.one (.row Sp))), (2, .val (.ptr 0 0)), (5, .v (.one (.row (.one .str)))), (6, .v (.one (.int .i64)))], [(0, 7, [.v (.one (.row (.one (.int .i64)))), .v (.one (.int .i64)), .v (.one (.row Dk)), .v (.one (.int .i64)), .v (.one (.row Rw)), .v (.one (.row Rw)), .v (.one (.int .i64))])], 1⟩
def F23L0S0 : Shape := ⟨[(5, .v (.one (.row (.one .str))))], [], 1⟩
def F23L0X : List (Option Nat × Shape) := [(some 0, F23L0S0)]
noncomputable def F23L0 (x : List Spt × Unit × List (List UInt8) × Int × List (Int) × Int × List Dkt × Int × List Rwt × List Rwt × Int × Unit) : DT ((List Spt × Unit × List (List UInt8) × Int × List (Int) × Int × List Dkt × Int × List Rwt × List Rwt × Int × Unit) ⊕ ((List (List UInt8) × Unit) ⊕ Empty)) :=
  .node [] (decide (x.2.2.2.1 < (Int.ofNat (List.length x.1))))
    (let y0 := F12.fn ((@id (Dkt) (xsAt Dk x.2.2.2.2.2.2.1 (Int.toNat (@id (Spt) (xsAt Sp x.1 (Int.toNat x.2.2.2.1))).1))), (@id (Spt) (xsAt Sp x.1 (Int.toNat x.2.2.2.1))).2, ())
    let y1 := loopOut F23L1 (x.1, (), x.2.2.1, x.2.2.2.1, (), (0 : Int), x.2.2.2.2.1, x.2.2.2.2.2.1, x.2.2.2.2.2.2.1, x.2.2.2.2.2.2.2.1, x.2.2.2.2.2.2.2.2.1, x.2.2.2.2.2.2.2.2.2.1, x.2.2.2.2.2.2.2.2.2.2.1, y0.1.1, y0.1.2.1, y0.1.2.2.1, y0.1.2.2.2.1, y0.1.2.2.2.2.1, y0.1.2.2.2.2.2.1, y0.1.2.2.2.2.2.2.1, y0.1.2.2.2.2.2.2.2, ())
    let y2 : List Spt × Unit × List (List UInt8) × Int × List (Int) × Int × List Dkt × Int × List Rwt × List Rwt × Int × Unit := getL (Shape.z F23L1S0) y1
    .leaf [loopInv F23L1 (x.1, (), x.2.2.1, x.2.2.2.1, (), (0 : Int), x.2.2.2.2.1, x.2.2.2.2.2.1, x.2.2.2.2.2.2.1, x.2.2.2.2.2.2.2.1, x.2.2.2.2.2.2.2.2.1, x.2.2.2.2.2.2.2.2.2.1, x.2.2.2.2.2.2.2.2.2.2.1, y0.1.1, y0.1.2.1, y0.1.2.2.1, y0.1.2.2.2.1, y0.1.2.2.2.2.1, y0.1.2.2.2.2.2.1, y0.1.2.2.2.2.2.2.1, y0.1.2.2.2.2.2.2.2, ()), F12.pre ((@id (Dkt) (xsAt Dk x.2.2.2.2.2.2.1 (Int.toNat (@id (Spt) (xsAt Sp x.1 (Int.toNat x.2.2.2.1))).1))), (@id (Spt) (xsAt Sp x.1 (Int.toNat x.2.2.2.1))).2, ()), 0 ≤ x.2.2.2.1, x.2.2.2.1 < Int.ofNat (List.length x.1), 0 ≤ (@id (Spt) (xsAt Sp x.1 (Int.toNat x.2.2.2.1))).1, (@id (Spt) (xsAt Sp x.1 (Int.toNat x.2.2.2.1))).1 < Int.ofNat (List.length x.2.2.2.2.2.2.1), 0 ≤ x.2.2.2.1, x.2.2.2.1 < Int.ofNat (List.length x.1)] (.inl (y2.1, (), y2.2.2.1, (wrp .i64 (y2.2.2.2.1 + (1 : Int))), y2.2.2.2.2.1, y2.2.2.2.2.2.1, y2.2.2.2.2.2.2.1, y2.2.2.2.2.2.2.2.1, y2.2.2.2.2.2.2.2.2.1, y2.2.2.2.2.2.2.2.2.2.1, y2.2.2.2.2.2.2.2.2.2.2.1, ())))
    (.leaf [] (.inr (.inl (x.2.2.1, ()))))
noncomputable def F23 (x : Wdt × List Spt × Unit) : DT (List (List UInt8) × Unit) :=
  let y0 := loopOut F23L0 (x.2.1, (), [], (0 : Int), x.1.1, x.1.2.1, x.1.2.2.1, x.1.2.2.2.1, x.1.2.2.2.2.1, x.1.2.2.2.2.2.1, x.1.2.2.2.2.2.2, ())
  let y1 : List (List UInt8) × Unit := getL (Shape.z F23L0S0) y0
  .leaf [loopInv F23L0 (x.2.1, (), [], (0 : Int), x.1.1, x.1.2.1, x.1.2.2.1, x.1.2.2.2.1, x.1.2.2.2.2.1, x.1.2.2.2.2.2.1, x.1.2.2.2.2.2.2, ())] (y1.1, ())
abbrev F23A : List AT := [.v (.agg Wd), .v (.one (.row Sp))]
abbrev F23B : List AT := [.v (.one (.row (.one .str)))]
noncomputable def F23R : List (Nat × Rule) := [(1, ruleOf F23L1S F23L1X F23L1), (0, ruleOf F23L0S F23L0X F23L0)]
theorem F23L1is : ∀ x, DT.Is (runL Tryz.prog cfg18 1000 (lsOf F23R) 23 1 F23L1S F23L1X x) (F23L1 x) := fun x => by unfold DT.Is; kernel_rfl
theorem F23L0is : ∀ x, DT.Is (runL Tryz.prog cfg18 1000 (lsOf F23R) 23 0 F23L0S F23L0X x) (F23L0 x) := fun x => by unfold DT.Is; kernel_rfl
theorem F23is : ∀ x, DT.Is (runF Tryz.prog cfg18 1000 (lsOf F23R) 23 F23A F23B x) (F23 x) := fun x => by unfold DT.Is; kernel_rfl
noncomputable def F23.fn (x : Wdt × List Spt × Unit) : List (List UInt8) × Unit := (F23 x).fn
noncomputable def F23.pre (x : Wdt × List Spt × Unit) : Prop := (F23 x).pre
theorem F23ok : DataOk Tryz.prog 23 F23A F23B F23.pre F23.fn := data_of_tree F23A F23B F23 cfg18ok (.of_all cfg18ok (.cons (rule_of_tree F23L1S F23L1X F23L1 (F23L1is)) (.cons (rule_of_tree F23L0S F23L0X F23L0 (F23L0is)) .nil))) F23is
noncomputable def F23C : Con Tryz.prog := conD 23 F23A F23B F23.pre F23.fn F23ok (by kernel_rfl)
noncomputable def cfgL19 : List (Con Tryz.prog) := F23C :: cfgL18
noncomputable def cfg19 : Cfg := cfgOf cfgL19
theorem cfg19ok : CfgOk Tryz.prog cfg19 := cfgOf_ok cfgnamed cfgmixed _
/-! 31 veneer/veneerref3.Used -/
def F31L0S : Shape := ⟨[(1, .val (.ptr 0 0)), (4, .v (.one (.int .i64))), (5, .v (.one (.int .i64)))], [(0, 4, [.v (.one (.int .i64)), .v (.one (.int .i64)), .v (.one (.int .i64)), .v (.one (.row Nd))])], 1⟩
def F31L0S0 : Shape := ⟨[(1, .val (.ptr 0 0)), (4, .v (.one (.int .i64)))], [(0, 4, [.v (.one (.int .i64)), .v (.one (.int .i64)), .v (.one (.int .i64)), .v (.one (.row Nd))])], 1⟩
def F31L0X : List (Option Nat × Shape) := [(some 0, F31L0S0)]
noncomputable def F31L0 (x : Unit × Int × Int × Int × Int × Int × List Ndt × Unit) : DT ((Unit × Int × Int × Int × Int × Int × List Ndt × Unit) ⊕ ((Unit × Int × Int × Int × Int × List Ndt × Unit) ⊕ Empty)) :=
  .node [] (decide (x.2.2.1 < (Int.ofNat (List.length x.2.2.2.2.2.2.1))))
    (.leaf [0 ≤ x.2.2.1, x.2.2.1 < Int.ofNat (List.length x.2.2.2.2.2.2.1)] (.inl ((), (wrp .i64 (x.2.1 + (Int.ofNat (List.length (@id (Ndt) (xsAt Nd x.2.2.2.2.2.2.1 (Int.toNat x.2.2.1))).2.2.2.2.2.1)))), (wrp .i64 (x.2.2.1 + (1 : Int))), x.2.2.2.1, x.2.2.2.2.1, x.2.2.2.2.2.1, x.2.2.2.2.2.2.1, ())))
    (.leaf [] (.inr (.inl ((), x.2.1, x.2.2.2.1, x.2.2.2.2.1, x.2.2.2.2.2.1, x.2.2.2.2.2.2.1, ()))))
noncomputable def F31 (x : Dkt × Unit) : DT (Int × Int × Unit) :=
  let y0 := loopOut F31L0 ((), (0 : Int), (0 : Int), x.1.1, x.1.2.1, x.1.2.2.1, x.1.2.2.2, ())
  let y1 : Unit × Int × Int × Int × Int × List Ndt × Unit := getL (Shape.z F31L0S0) y0
  .leaf [loopInv F31L0 ((), (0 : Int), (0 : Int), x.1.1, x.1.2.1, x.1.2.2.1, x.1.2.2.2, ())] (y1.2.1, (Int.ofNat (List.length y1.2.2.2.2.2.1)), ())
abbrev F31A : List AT := [.v (.agg Dk)]
abbrev F31B : List AT := [.v (.one (.int .i64)), .v (.one (.int .i64))]
noncomputable def F31R : List (Nat × Rule) := [(0, ruleOf F31L0S F31L0X F31L0)]
theorem F31L0is : ∀ x, DT.Is (runL Tryz.prog cfg19 1000 (lsOf F31R) 31 0 F31L0S F31L0X x) (F31L0 x) := fun x => by unfold DT.Is; kernel_rfl
theorem F31is : ∀ x, DT.Is (runF Tryz.prog cfg19 1000 (lsOf F31R) 31 F31A F31B x) (F31 x) := fun x => by unfold DT.Is; kernel_rfl
noncomputable def F31.fn (x : Dkt × Unit) : Int × Int × Unit := (F31 x).fn
noncomputable def F31.pre (x : Dkt × Unit) : Prop := (F31 x).pre
theorem F31ok : DataOk Tryz.prog 31 F31A F31B F31.pre F31.fn := data_of_tree F31A F31B F31 cfg19ok (.of_all cfg19ok (.cons (rule_of_tree F31L0S F31L0X F31L0 (F31L0is)) .nil)) F31is
noncomputable def F31C : Con Tryz.prog := conD 31 F31A F31B F31.pre F31.fn F31ok (by kernel_rfl)
noncomputable def cfgL20 : List (Con Tryz.prog) := F31C :: cfgL19
noncomputable def cfg20 : Cfg := cfgOf cfgL20
theorem cfg20ok : CfgOk Tryz.prog cfg20 := cfgOf_ok cfgnamed cfgmixed _
/-! 69 veneer/veneerref2.Is -/
def F69L1S : Shape := ⟨[(1, .val (.ptr 0 0)), (3, .v (.one (.int .i64))), (4, .val (.ptr 1 0)), (5, .v (.one (.int .i64)))], [(0, 2, [.v (.one (.int .i64)), .v (.one (.row Bk))]), (1, 2, [.v (.one (.int .i64)), .v (.one (.row (.one (.int .u8))))])], 2⟩
def F69L1S0 : Shape := ⟨[(2, .v (.one .bool))], [], 2⟩
def F69L1S1 : Shape := ⟨[(1, .val (.ptr 0 0)), (3, .v (.one (.int .i64)))], [(0, 2, [.v (.one (.int .i64)), .v (.one (.row Bk))])], 2⟩
def F69L1X : List (Option Nat × Shape) := [(none, F69L1S0), (some 2, F69L1S1)]
noncomputable def F69L1 (x : Unit × Int × Unit × Int × Int × List Bkt × Int × List (Int) × Unit) : DT ((Unit × Int × Unit × Int × Int × List Bkt × Int × List (Int) × Unit) ⊕ ((Bool × Unit) ⊕ (Unit × Int × Int × List Bkt × Unit) ⊕ Empty)) :=
  .node [] (decide (x.2.2.2.1 < (16 : Int)))
    (.node [] (decide ((wrp .i64 ((wrp .i64 (x.2.2.2.2.2.2.1 * (16 : Int))) + x.2.2.2.1)) ≥ x.2.2.2.2.1))
      (.node [0 ≤ x.2.2.2.1, x.2.2.2.1 < Int.ofNat (List.length x.2.2.2.2.2.2.2.1)] ((@id (Int) (xsAt (.one (.int .u8)) x.2.2.2.2.2.2.2.1 (Int.toNat x.2.2.2.1))) != (0 : Int))
        (.leaf [] (.inr (.inl (false, ()))))
        (.leaf [] (.inl ((), x.2.1, (), (wrp .i64 (x.2.2.2.1 + (1 : Int))), x.2.2.2.2.1, x.2.2.2.2.2.1, x.2.2.2.2.2.2.1, x.2.2.2.2.2.2.2.1, ()))))
      (.leaf [] (.inl ((), x.2.1, (), (wrp .i64 (x.2.2.2.1 + (1 : Int))), x.2.2.2.2.1, x.2.2.2.2.2.1, x.2.2.2.2.2.2.1, x.2.2.2.2.2.2.2.1, ()))))
    (.leaf [] (.inr (.inr (.inl ((), x.2.1, x.2.2.2.2.1, x.2.2.2.2.2.1, ())))))
def F69L0S : Shape := ⟨[(1, .val (.ptr 0 0)), (3, .v (.one (.int .i64)))], [(0, 2, [.v (.one (.int .i64)), .v (.one (.row Bk))])], 1⟩
def F69L0S0 : Shape := ⟨[(2, .v (.one .bool))], [], 1⟩
def F69L0S1 : Shape := ⟨[], [], 1⟩
def F69L0X : List (Option Nat × Shape) := [(none, F69L0S0), (some 0, F69L0S1)]
noncomputable def F69L0 (x : Unit × Int × Int × List Bkt × Unit) : DT ((Unit × Int × Int × List Bkt × Unit) ⊕ ((Bool × Unit) ⊕ (Unit) ⊕ Empty)) :=
  .node [] (decide (x.2.1 < (Int.ofNat (List.length x.2.2.2.1))))
    (.node [0 ≤ x.2.1, x.2.1 < Int.ofNat (List.length x.2.2.2.1)] (decide ((@id (Bkt) (xsAt Bk x.2.2.2.1 (Int.toNat x.2.1))).1 < (0 : Int)))
      (.leaf [] (.inr (.inl (false, ()))))
      (.node [] (decide ((@id (Bkt) (xsAt Bk x.2.2.2.1 (Int.toNat x.2.1))).1 ≥ (32768 : Int)))
        (.leaf [] (.inr (.inl (false, ()))))
        (.node [] (decide ((wrp .i64 ((@id (Bkt) (xsAt Bk x.2.2.2.1 (Int.toNat x.2.1))).1 * (16 : Int))) ≥ x.2.2.1))
          (.leaf [] (.inr (.inl (false, ()))))
          (.node [] ((Int.ofNat (List.length (@id (Bkt) (xsAt Bk x.2.2.2.1 (Int.toNat x.2.1))).2)) != (16 : Int))
            (.leaf [] (.inr (.inl (false, ()))))
            (.node [] (decide (x.2.1 > (0 : Int)))
              (.node [0 ≤ (wrp .i64 (x.2.1 - (1 : Int))), (wrp .i64 (x.2.1 - (1 : Int))) < Int.ofNat (List.length x.2.2.2.1)] (decide ((@id (Bkt) (xsAt Bk x.2.2.2.1 (Int.toNat x.2.1))).1 ≤ (@id (Bkt) (xsAt Bk x.2.2.2.1 (Int.toNat (wrp .i64 (x.2.1 - (1 : Int)))))).1))
                (.leaf [] (.inr (.inl (false, ()))))
                (let y0 := loopOut F69L1 ((), x.2.1, (), (0 : Int), x.2.2.1, x.2.2.2.1, (@id (Bkt) (xsAt Bk x.2.2.2.1 (Int.toNat x.2.1))).1, (@id (Bkt) (xsAt Bk x.2.2.2.1 (Int.toNat x.2.1))).2, ())
                .node [loopInv F69L1 ((), x.2.1, (), (0 : Int), x.2.2.1, x.2.2.2.1, (@id (Bkt) (xsAt Bk x.2.2.2.1 (Int.toNat x.2.1))).1, (@id (Bkt) (xsAt Bk x.2.2.2.1 (Int.toNat x.2.1))).2, ())] (isL y0)
                  (let y1 : Bool × Unit := getL (Shape.z F69L1S0) y0
                  .leaf [] (.inr (.inl (y1.1, ()))))
                  (let y1 : Unit × Int × Int × List Bkt × Unit := getL (Shape.z F69L1S1) (restR y0)
                  .leaf [] (.inl ((), (wrp .i64 (y1.2.1 + (1 : Int))), y1.2.2.1, y1.2.2.2.1, ())))))
              (let y0 := loopOut F69L1 ((), x.2.1, (), (0 : Int), x.2.2.1, x.2.2.2.1, (@id (Bkt) (xsAt Bk x.2.2.2.1 (Int.toNat x.2.1))).1, (@id (Bkt) (xsAt Bk x.2.2.2.1 (Int.toNat x.2.1))).2, ())
              .node [loopInv F69L1 ((), x.2.1, (), (0 : Int), x.2.2.1, x.2.2.2.1, (@id (Bkt) (xsAt Bk x.2.2.2.1 (Int.toNat x.2.1))).1, (@id (Bkt) (xsAt Bk x.2.2.2.1 (Int.toNat x.2.1))).2, ())] (isL y0)
                (let y1 : Bool × Unit := getL (Shape.z F69L1S0) y0
                .leaf [] (.inr (.inl (y1.1, ()))))
                (let y1 : Unit × Int × Int × List Bkt × Unit := getL (Shape.z F69L1S1) (restR y0)
                .leaf [] (.inl ((), (wrp .i64 (y1.2.1 + (1 : Int))), y1.2.2.1, y1.2.2.2.1, ())))))))))
    (.leaf [] (.inr (.inr (.inl ()))))
noncomputable def F69 (x : (Int × List Bkt) × Unit) : DT (Bool × Unit) :=
  .node [] (decide (x.1.1 < (0 : Int)))
    (.leaf [] (false, ()))
    (.node [] (decide (x.1.1 > (32768 : Int)))
      (.leaf [] (false, ()))
      (let y0 := loopOut F69L0 ((), (0 : Int), x.1.1, x.1.2, ())
      .node [loopInv F69L0 ((), (0 : Int), x.1.1, x.1.2, ())] (isL y0)
        (let y1 : Bool × Unit := getL (Shape.z F69L0S0) y0
        .leaf [] (y1.1, ()))
        (let y1 : Unit := getL (Shape.z F69L0S1) (restR y0)
        .leaf [] (true, ()))))
abbrev F69A : List AT := [.v (.agg (.cons (.int .i64) (.one (.row Bk))))]
abbrev F69B : List AT := [.v (.one .bool)]
noncomputable def F69R : List (Nat × Rule) := [(1, ruleOf F69L1S F69L1X F69L1), (0, ruleOf F69L0S F69L0X F69L0)]
theorem F69L1is : ∀ x, DT.Is (runL Tryz.prog cfg20 1000 (lsOf F69R) 69 1 F69L1S F69L1X x) (F69L1 x) := fun x => by unfold DT.Is; kernel_rfl
theorem F69L0is : ∀ x, DT.Is (runL Tryz.prog cfg20 1000 (lsOf F69R) 69 0 F69L0S F69L0X x) (F69L0 x) := fun x => by unfold DT.Is; kernel_rfl
theorem F69is : ∀ x, DT.Is (runF Tryz.prog cfg20 1000 (lsOf F69R) 69 F69A F69B x) (F69 x) := fun x => by unfold DT.Is; kernel_rfl
noncomputable def F69.fn (x : (Int × List Bkt) × Unit) : Bool × Unit := (F69 x).fn
noncomputable def F69.pre (x : (Int × List Bkt) × Unit) : Prop := (F69 x).pre
theorem F69ok : DataOk Tryz.prog 69 F69A F69B F69.pre F69.fn := data_of_tree F69A F69B F69 cfg20ok (.of_all cfg20ok (.cons (rule_of_tree F69L1S F69L1X F69L1 (F69L1is)) (.cons (rule_of_tree F69L0S F69L0X F69L0 (F69L0is)) .nil))) F69is
noncomputable def F69C : Con Tryz.prog := conD 69 F69A F69B F69.pre F69.fn F69ok (by kernel_rfl)
noncomputable def cfgL21 : List (Con Tryz.prog) := F69C :: cfgL20
noncomputable def cfg21 : Cfg := cfgOf cfgL21
theorem cfg21ok : CfgOk Tryz.prog cfg21 := cfgOf_ok cfgnamed cfgmixed _
/-! 70 veneer/veneerref1.Named -/
def F70L0S : Shape := ⟨[(0, .v (.one .str)), (3, .v (.one (.int .i64)))], [], 0⟩
def F70L0S0 : Shape := ⟨[(2, .v (.one .bool))], [], 0⟩
def F70L0S1 : Shape := ⟨[(0, .v (.one .str))], [], 0⟩
def F70L0X : List (Option Nat × Shape) := [(none, F70L0S0), (some 0, F70L0S1)]
noncomputable def F70L0 (x : List UInt8 × Int × Unit) : DT ((List UInt8 × Int × Unit) ⊕ ((Bool × Unit) ⊕ (List UInt8 × Unit) ⊕ Empty)) :=
  .node [] (decide (x.2.1 < (Int.ofNat (List.length x.1))))
    (.node [0 ≤ x.2.1, x.2.1 < Int.ofNat (List.length x.1)] ((Int.ofNat (List.getD x.1 (Int.toNat x.2.1) 0).toNat) == (47 : Int))
      (.leaf [] (.inr (.inl (false, ()))))
      (.node [0 ≤ x.2.1, x.2.1 < Int.ofNat (List.length x.1)] ((Int.ofNat (List.getD x.1 (Int.toNat x.2.1) 0).toNat) == (0 : Int))
        (.leaf [] (.inr (.inl (false, ()))))
        (.leaf [] (.inl (x.1, (wrp .i64 (x.2.1 + (1 : Int))), ())))))
    (.leaf [] (.inr (.inr (.inl (x.1, ())))))
noncomputable def F70 (x : List UInt8 × Unit) : DT (Bool × Unit) :=
  let y0 := loopOut F70L0 (x.1, (0 : Int), ())
  .node [loopInv F70L0 (x.1, (0 : Int), ())] (isL y0)
    (let y1 : Bool × Unit := getL (Shape.z F70L0S0) y0
    .leaf [] (y1.1, ()))
    (let y1 : List UInt8 × Unit := getL (Shape.z F70L0S1) (restR y0)
    .node [] (decide ((Int.ofNat (List.length y1.1)) ≥ (1 : Int)))
      (.node [] (decide ((Int.ofNat (List.length y1.1)) ≤ (24 : Int)))
        (.node [] (!(y1.1 == (dec 1 46 [])))
          (.leaf [] ((!(y1.1 == (dec 2 11822 []))), ()))
          (.leaf [] (false, ())))
        (.leaf [] (false, ())))
      (.leaf [] (false, ())))
abbrev F70A : List AT := [.v (.one .str)]
abbrev F70B : List AT := [.v (.one .bool)]
noncomputable def F70R : List (Nat × Rule) := [(0, ruleOf F70L0S F70L0X F70L0)]
theorem F70L0is : ∀ x, DT.Is (runL Tryz.prog cfg21 1000 (lsOf F70R) 70 0 F70L0S F70L0X x) (F70L0 x) := fun x => by unfold DT.Is; kernel_rfl
theorem F70is : ∀ x, DT.Is (runF Tryz.prog cfg21 1000 (lsOf F70R) 70 F70A F70B x) (F70 x) := fun x => by unfold DT.Is; kernel_rfl
noncomputable def F70.fn (x : List UInt8 × Unit) : Bool × Unit := (F70 x).fn
noncomputable def F70.pre (x : List UInt8 × Unit) : Prop := (F70 x).pre
theorem F70ok : DataOk Tryz.prog 70 F70A F70B F70.pre F70.fn := data_of_tree F70A F70B F70 cfg21ok (.of_all cfg21ok (.cons (rule_of_tree F70L0S F70L0X F70L0 (F70L0is)) .nil)) F70is
noncomputable def F70C : Con Tryz.prog := conD 70 F70A F70B F70.pre F70.fn F70ok (by kernel_rfl)
noncomputable def cfgL22 : List (Con Tryz.prog) := F70C :: cfgL21
noncomputable def cfg22 : Cfg := cfgOf cfgL22
theorem cfg22ok : CfgOk Tryz.prog cfg22 := cfgOf_ok cfgnamed cfgmixed _
/-! 41 veneer/veneerref3.sound -/
def F41L0S : Shape := ⟨[(2, .val (.ptr 0 0)), (3, .val (.ptr 1 0)), (5, .v (.one (.int .i64)))], [(0, 4, [.v (.one (.int .i64)), .v (.one (.int .i64)), .v (.one (.int .i64)), .v (.one (.row Nd))]), (1, 8, [.v (.one (.int .i64)), .v (.one (.int .i64)), .v (.one (.int .i64)), .v (.one (.int .i64)), .v (.one (.int .i64)), .v (.one (.row Bk)), .v (.one .str), .v (.one (.row Nm))])], 2⟩
def F41L0S0 : Shape := ⟨[(4, .v (.one .bool))], [], 2⟩
def F41L0S1 : Shape := ⟨[], [], 2⟩
def F41L0X : List (Option Nat × Shape) := [(none, F41L0S0), (some 0, F41L0S1)]
noncomputable def F41L0 (x : Unit × Unit × Int × Int × Int × Int × List Ndt × Int × Int × Int × Int × Int × List Bkt × List UInt8 × List Nmt × Unit) : DT ((Unit × Unit × Int × Int × Int × Int × List Ndt × Int × Int × Int × Int × Int × List Bkt × List UInt8 × List Nmt × Unit) ⊕ ((Bool × Unit) ⊕ (Unit) ⊕ Empty)) :=
  .node [] (decide (x.2.2.1 < (Int.ofNat (List.length x.2.2.2.2.2.2.2.2.2.2.2.2.2.2.1))))
    (let y0 := F12.fn ((x.2.2.2.1, (x.2.2.2.2.1, (x.2.2.2.2.2.1, x.2.2.2.2.2.2.1))), (@id (Nmt) (xsAt Nm x.2.2.2.2.2.2.2.2.2.2.2.2.2.2.1 (Int.toNat x.2.2.1))).2, ())
    .node [F12.pre ((x.2.2.2.1, (x.2.2.2.2.1, (x.2.2.2.2.2.1, x.2.2.2.2.2.2.1))), (@id (Nmt) (xsAt Nm x.2.2.2.2.2.2.2.2.2.2.2.2.2.2.1 (Int.toNat x.2.2.1))).2, ()), 0 ≤ x.2.2.1, x.2.2.1 < Int.ofNat (List.length x.2.2.2.2.2.2.2.2.2.2.2.2.2.2.1)] (!y0.2.1)
      (.leaf [] (.inr (.inl (false, ()))))
      (let y1 := F70.fn ((@id (Nmt) (xsAt Nm x.2.2.2.2.2.2.2.2.2.2.2.2.2.2.1 (Int.toNat x.2.2.1))).1, ())
      .node [0 ≤ x.2.2.1, x.2.2.1 < Int.ofNat (List.length x.2.2.2.2.2.2.2.2.2.2.2.2.2.2.1)] (!y1.1)
        (.leaf [F70.pre ((@id (Nmt) (xsAt Nm x.2.2.2.2.2.2.2.2.2.2.2.2.2.2.1 (Int.toNat x.2.2.1))).1, ())] (.inr (.inl (false, ()))))
        (.node [] (decide (x.2.2.1 > (0 : Int)))
          (.node [F70.pre ((@id (Nmt) (xsAt Nm x.2.2.2.2.2.2.2.2.2.2.2.2.2.2.1 (Int.toNat x.2.2.1))).1, ()), 0 ≤ (wrp .i64 (x.2.2.1 - (1 : Int))), (wrp .i64 (x.2.2.1 - (1 : Int))) < Int.ofNat (List.length x.2.2.2.2.2.2.2.2.2.2.2.2.2.2.1), 0 ≤ x.2.2.1, x.2.2.1 < Int.ofNat (List.length x.2.2.2.2.2.2.2.2.2.2.2.2.2.2.1)] (Op.bytesLess (@id (Nmt) (xsAt Nm x.2.2.2.2.2.2.2.2.2.2.2.2.2.2.1 (Int.toNat x.2.2.1))).1 (@id (Nmt) (xsAt Nm x.2.2.2.2.2.2.2.2.2.2.2.2.2.2.1 (Int.toNat (wrp .i64 (x.2.2.1 - (1 : Int)))))).1 || (@id (Nmt) (xsAt Nm x.2.2.2.2.2.2.2.2.2.2.2.2.2.2.1 (Int.toNat x.2.2.1))).1 == (@id (Nmt) (xsAt Nm x.2.2.2.2.2.2.2.2.2.2.2.2.2.2.1 (Int.toNat (wrp .i64 (x.2.2.1 - (1 : Int)))))).1)
            (.leaf [] (.inr (.inl (false, ()))))
            (.leaf [] (.inl ((), (), (wrp .i64 (x.2.2.1 + (1 : Int))), x.2.2.2.1, x.2.2.2.2.1, x.2.2.2.2.2.1, x.2.2.2.2.2.2.1, x.2.2.2.2.2.2.2.1, x.2.2.2.2.2.2.2.2.1, x.2.2.2.2.2.2.2.2.2.1, x.2.2.2.2.2.2.2.2.2.2.1, x.2.2.2.2.2.2.2.2.2.2.2.1, x.2.2.2.2.2.2.2.2.2.2.2.2.1, x.2.2.2.2.2.2.2.2.2.2.2.2.2.1, x.2.2.2.2.2.2.2.2.2.2.2.2.2.2.1, ()))))
          (.leaf [F70.pre ((@id (Nmt) (xsAt Nm x.2.2.2.2.2.2.2.2.2.2.2.2.2.2.1 (Int.toNat x.2.2.1))).1, ())] (.inl ((), (), (wrp .i64 (x.2.2.1 + (1 : Int))), x.2.2.2.1, x.2.2.2.2.1, x.2.2.2.2.2.1, x.2.2.2.2.2.2.1, x.2.2.2.2.2.2.2.1, x.2.2.2.2.2.2.2.2.1, x.2.2.2.2.2.2.2.2.2.1, x.2.2.2.2.2.2.2.2.2.2.1, x.2.2.2.2.2.2.2.2.2.2.2.1, x.2.2.2.2.2.2.2.2.2.2.2.2.1, x.2.2.2.2.2.2.2.2.2.2.2.2.2.1, x.2.2.2.2.2.2.2.2.2.2.2.2.2.2.1, ()))))))
    (.leaf [] (.inr (.inr (.inl ()))))
noncomputable def F41 (x : Dkt × Ndt × Unit) : DT (Bool × Unit) :=
  .node [] (decide (x.2.1.2.1 < (1 : Int)))
    (.leaf [] (false, ()))
    (.node [] (decide (x.2.1.2.1 > (3 : Int)))
      (.leaf [] (false, ()))
      (.node [] (decide (x.2.1.2.2.1 < (0 : Int)))
        (.leaf [] (false, ()))
        (.node [] (decide (x.2.1.2.2.1 > (511 : Int)))
          (.leaf [] (false, ()))
          (let y0 := F69.fn ((x.2.1.2.2.2.2.1, x.2.1.2.2.2.2.2.1), ())
          .node [F69.pre ((x.2.1.2.2.2.2.1, x.2.1.2.2.2.2.2.1), ())] (!y0.1)
            (.leaf [] (false, ()))
            (.node [] (x.2.1.2.1 != (1 : Int))
              (.node [] (decide (x.2.1.2.2.2.2.1 > (0 : Int)))
                (.leaf [] (false, ()))
                (.node [] (decide ((Int.ofNat (List.length x.2.1.2.2.2.2.2.1)) > (0 : Int)))
                  (.leaf [] (false, ()))
                  (.node [] (x.2.1.2.1 != (2 : Int))
                    (.node [] (decide ((Int.ofNat (List.length x.2.1.2.2.2.2.2.2.2)) > (0 : Int)))
                      (.leaf [] (false, ()))
                      (.node [] (!((x.2.1.2.1 == (3 : Int)) == (!(x.2.1.2.2.2.2.2.2.1 == (dec 0 0 [])))))
                        (.leaf [] (false, ()))
                        (.node [] (decide ((Int.ofNat (List.length x.2.1.2.2.2.2.2.2.1)) > (120 : Int)))
                          (.leaf [] (false, ()))
                          (let y1 := loopOut F41L0 ((), (), (0 : Int), x.1.1, x.1.2.1, x.1.2.2.1, x.1.2.2.2, x.2.1.1, x.2.1.2.1, x.2.1.2.2.1, x.2.1.2.2.2.1, x.2.1.2.2.2.2.1, x.2.1.2.2.2.2.2.1, x.2.1.2.2.2.2.2.2.1, x.2.1.2.2.2.2.2.2.2, ())
                          .node [loopInv F41L0 ((), (), (0 : Int), x.1.1, x.1.2.1, x.1.2.2.1, x.1.2.2.2, x.2.1.1, x.2.1.2.1, x.2.1.2.2.1, x.2.1.2.2.2.1, x.2.1.2.2.2.2.1, x.2.1.2.2.2.2.2.1, x.2.1.2.2.2.2.2.2.1, x.2.1.2.2.2.2.2.2.2, ())] (isL y1)
                            (let y2 : Bool × Unit := getL (Shape.z F41L0S0) y1
                            .leaf [] (y2.1, ()))
                            (let y2 : Unit := getL (Shape.z F41L0S1) (restR y1)
                            .leaf [] (true, ()))))))
                    (.node [] (!((x.2.1.2.1 == (3 : Int)) == (!(x.2.1.2.2.2.2.2.2.1 == (dec 0 0 [])))))
                      (.leaf [] (false, ()))
                      (.node [] (decide ((Int.ofNat (List.length x.2.1.2.2.2.2.2.2.1)) > (120 : Int)))
                        (.leaf [] (false, ()))
                        (let y1 := loopOut F41L0 ((), (), (0 : Int), x.1.1, x.1.2.1, x.1.2.2.1, x.1.2.2.2, x.2.1.1, x.2.1.2.1, x.2.1.2.2.1, x.2.1.2.2.2.1, x.2.1.2.2.2.2.1, x.2.1.2.2.2.2.2.1, x.2.1.2.2.2.2.2.2.1, x.2.1.2.2.2.2.2.2.2, ())
                        .node [loopInv F41L0 ((), (), (0 : Int), x.1.1, x.1.2.1, x.1.2.2.1, x.1.2.2.2, x.2.1.1, x.2.1.2.1, x.2.1.2.2.1, x.2.1.2.2.2.1, x.2.1.2.2.2.2.1, x.2.1.2.2.2.2.2.1, x.2.1.2.2.2.2.2.2.1, x.2.1.2.2.2.2.2.2.2, ())] (isL y1)
                          (let y2 : Bool × Unit := getL (Shape.z F41L0S0) y1
                          .leaf [] (y2.1, ()))
                          (let y2 : Unit := getL (Shape.z F41L0S1) (restR y1)
                          .leaf [] (true, ()))))))))
              (.node [] (x.2.1.2.1 != (2 : Int))
                (.node [] (decide ((Int.ofNat (List.length x.2.1.2.2.2.2.2.2.2)) > (0 : Int)))
                  (.leaf [] (false, ()))
                  (.node [] (!((x.2.1.2.1 == (3 : Int)) == (!(x.2.1.2.2.2.2.2.2.1 == (dec 0 0 [])))))
                    (.leaf [] (false, ()))
                    (.node [] (decide ((Int.ofNat (List.length x.2.1.2.2.2.2.2.2.1)) > (120 : Int)))
                      (.leaf [] (false, ()))
                      (let y1 := loopOut F41L0 ((), (), (0 : Int), x.1.1, x.1.2.1, x.1.2.2.1, x.1.2.2.2, x.2.1.1, x.2.1.2.1, x.2.1.2.2.1, x.2.1.2.2.2.1, x.2.1.2.2.2.2.1, x.2.1.2.2.2.2.2.1, x.2.1.2.2.2.2.2.2.1, x.2.1.2.2.2.2.2.2.2, ())
                      .node [loopInv F41L0 ((), (), (0 : Int), x.1.1, x.1.2.1, x.1.2.2.1, x.1.2.2.2, x.2.1.1, x.2.1.2.1, x.2.1.2.2.1, x.2.1.2.2.2.1, x.2.1.2.2.2.2.1, x.2.1.2.2.2.2.2.1, x.2.1.2.2.2.2.2.2.1, x.2.1.2.2.2.2.2.2.2, ())] (isL y1)
                        (let y2 : Bool × Unit := getL (Shape.z F41L0S0) y1
                        .leaf [] (y2.1, ()))
                        (let y2 : Unit := getL (Shape.z F41L0S1) (restR y1)
                        .leaf [] (true, ()))))))
                (.node [] (!((x.2.1.2.1 == (3 : Int)) == (!(x.2.1.2.2.2.2.2.2.1 == (dec 0 0 [])))))
                  (.leaf [] (false, ()))
                  (.node [] (decide ((Int.ofNat (List.length x.2.1.2.2.2.2.2.2.1)) > (120 : Int)))
                    (.leaf [] (false, ()))
                    (let y1 := loopOut F41L0 ((), (), (0 : Int), x.1.1, x.1.2.1, x.1.2.2.1, x.1.2.2.2, x.2.1.1, x.2.1.2.1, x.2.1.2.2.1, x.2.1.2.2.2.1, x.2.1.2.2.2.2.1, x.2.1.2.2.2.2.2.1, x.2.1.2.2.2.2.2.2.1, x.2.1.2.2.2.2.2.2.2, ())
                    .node [loopInv F41L0 ((), (), (0 : Int), x.1.1, x.1.2.1, x.1.2.2.1, x.1.2.2.2, x.2.1.1, x.2.1.2.1, x.2.1.2.2.1, x.2.1.2.2.2.1, x.2.1.2.2.2.2.1, x.2.1.2.2.2.2.2.1, x.2.1.2.2.2.2.2.2.1, x.2.1.2.2.2.2.2.2.2, ())] (isL y1)
                      (let y2 : Bool × Unit := getL (Shape.z F41L0S0) y1
                      .leaf [] (y2.1, ()))
                      (let y2 : Unit := getL (Shape.z F41L0S1) (restR y1)
                      .leaf [] (true, ())))))))))))
abbrev F41A : List AT := [.v (.agg Dk), .v (.agg Nd)]
abbrev F41B : List AT := [.v (.one .bool)]
noncomputable def F41R : List (Nat × Rule) := [(0, ruleOf F41L0S F41L0X F41L0)]
theorem F41L0is : ∀ x, DT.Is (runL Tryz.prog cfg22 1000 (lsOf F41R) 41 0 F41L0S F41L0X x) (F41L0 x) := fun x => by unfold DT.Is; kernel_rfl
theorem F41is : ∀ x, DT.Is (runF Tryz.prog cfg22 1000 (lsOf F41R) 41 F41A F41B x) (F41 x) := fun x => by unfold DT.Is; kernel_rfl
noncomputable def F41.fn (x : Dkt × Ndt × Unit) : Bool × Unit := (F41 x).fn
noncomputable def F41.pre (x : Dkt × Ndt × Unit) : Prop := (F41 x).pre
theorem F41ok : DataOk Tryz.prog 41 F41A F41B F41.pre F41.fn := data_of_tree F41A F41B F41 cfg22ok (.of_all cfg22ok (.cons (rule_of_tree F41L0S F41L0X F41L0 (F41L0is)) .nil)) F41is
noncomputable def F41C : Con Tryz.prog := conD 41 F41A F41B F41.pre F41.fn F41ok (by kernel_rfl)
noncomputable def cfgL23 : List (Con Tryz.prog) := F41C :: cfgL22
noncomputable def cfg23 : Cfg := cfgOf cfgL23
theorem cfg23ok : CfgOk Tryz.prog cfg23 := cfgOf_ok cfgnamed cfgmixed _
/-! 42 veneer/veneerref3.named -/
def F42L1S : Shape := ⟨[(1, .v (.one (.int .i64))), (2, .val (.ptr 0 0)), (5, .v (.one (.int .i64))), (6, .v (.one (.int .i64))), (7, .v (.one (.int .i64)))], [(0, 4, [.v (.one (.int .i64)), .v (.one (.int .i64)), .v (.one (.int .i64)), .v (.one (.row Nd))])], 1⟩
def F42L1S0 : Shape := ⟨[(1, .v (.one (.int .i64))), (2, .val (.ptr 0 0)), (5, .v (.one (.int .i64))), (6, .v (.one (.int .i64)))], [(0, 4, [.v (.one (.int .i64)), .v (.one (.int .i64)), .v (.one (.int .i64)), .v (.one (.row Nd))])], 1⟩
def F42L1X : List (Option Nat × Shape) := [(some 2, F42L1S0)]
noncomputable def F42L1 (x : Int × Unit × Int × Int × Int × Int × Int × Int × List Ndt × Unit) : DT ((Int × Unit × Int × Int × Int × Int × Int × Int × List Ndt × Unit) ⊕ ((Int × Unit × Int × Int × Int × Int × Int × List Ndt × Unit) ⊕ Empty)) :=
  .node [0 ≤ x.2.2.2.1, x.2.2.2.1 < Int.ofNat (List.length x.2.2.2.2.2.2.2.2.1)] (decide (x.2.2.2.2.1 < (Int.ofNat (List.length (@id (Ndt) (xsAt Nd x.2.2.2.2.2.2.2.2.1 (Int.toNat x.2.2.2.1))).2.2.2.2.2.2.2))))
    (.node [0 ≤ x.2.2.2.2.1, x.2.2.2.2.1 < Int.ofNat (List.length (@id (Ndt) (xsAt Nd x.2.2.2.2.2.2.2.2.1 (Int.toNat x.2.2.2.1))).2.2.2.2.2.2.2), 0 ≤ x.2.2.2.1, x.2.2.2.1 < Int.ofNat (List.length x.2.2.2.2.2.2.2.2.1)] ((@id (Nmt) (xsAt Nm (@id (Ndt) (xsAt Nd x.2.2.2.2.2.2.2.2.1 (Int.toNat x.2.2.2.1))).2.2.2.2.2.2.2 (Int.toNat x.2.2.2.2.1))).2 == x.1)
      (.leaf [] (.inl (x.1, (), (wrp .i64 (x.2.2.1 + (1 : Int))), x.2.2.2.1, (wrp .i64 (x.2.2.2.2.1 + (1 : Int))), x.2.2.2.2.2.1, x.2.2.2.2.2.2.1, x.2.2.2.2.2.2.2.1, x.2.2.2.2.2.2.2.2.1, ())))
      (.leaf [] (.inl (x.1, (), x.2.2.1, x.2.2.2.1, (wrp .i64 (x.2.2.2.2.1 + (1 : Int))), x.2.2.2.2.2.1, x.2.2.2.2.2.2.1, x.2.2.2.2.2.2.2.1, x.2.2.2.2.2.2.2.2.1, ()))))
    (.leaf [] (.inr (.inl (x.1, (), x.2.2.1, x.2.2.2.1, x.2.2.2.2.2.1, x.2.2.2.2.2.2.1, x.2.2.2.2.2.2.2.1, x.2.2.2.2.2.2.2.2.1, ()))))
def F42L0S : Shape := ⟨[(1, .v (.one (.int .i64))), (2, .val (.ptr 0 0)), (5, .v (.one (.int .i64))), (6, .v (.one (.int .i64)))], [(0, 4, [.v (.one (.int .i64)), .v (.one (.int .i64)), .v (.one (.int .i64)), .v (.one (.row Nd))])], 1⟩
def F42L0S0 : Shape := ⟨[(5, .v (.one (.int .i64)))], [], 1⟩
def F42L0X : List (Option Nat × Shape) := [(some 0, F42L0S0)]
noncomputable def F42L0 (x : Int × Unit × Int × Int × Int × Int × Int × List Ndt × Unit) : DT ((Int × Unit × Int × Int × Int × Int × Int × List Ndt × Unit) ⊕ ((Int × Unit) ⊕ Empty)) :=
  .node [] (decide (x.2.2.2.1 < (Int.ofNat (List.length x.2.2.2.2.2.2.2.1))))
    (let y0 := loopOut F42L1 (x.1, (), x.2.2.1, x.2.2.2.1, (0 : Int), x.2.2.2.2.1, x.2.2.2.2.2.1, x.2.2.2.2.2.2.1, x.2.2.2.2.2.2.2.1, ())
    let y1 : Int × Unit × Int × Int × Int × Int × Int × List Ndt × Unit := getL (Shape.z F42L1S0) y0
    .leaf [loopInv F42L1 (x.1, (), x.2.2.1, x.2.2.2.1, (0 : Int), x.2.2.2.2.1, x.2.2.2.2.2.1, x.2.2.2.2.2.2.1, x.2.2.2.2.2.2.2.1, ())] (.inl (y1.1, (), y1.2.2.1, (wrp .i64 (y1.2.2.2.1 + (1 : Int))), y1.2.2.2.2.1, y1.2.2.2.2.2.1, y1.2.2.2.2.2.2.1, y1.2.2.2.2.2.2.2.1, ())))
    (.leaf [] (.inr (.inl (x.2.2.1, ()))))
noncomputable def F42 (x : Dkt × Int × Unit) : DT (Int × Unit) :=
  let y0 := loopOut F42L0 (x.2.1, (), (0 : Int), (0 : Int), x.1.1, x.1.2.1, x.1.2.2.1, x.1.2.2.2, ())
  let y1 : Int × Unit := getL (Shape.z F42L0S0) y0
  .leaf [loopInv F42L0 (x.2.1, (), (0 : Int), (0 : Int), x.1.1, x.1.2.1, x.1.2.2.1, x.1.2.2.2, ())] (y1.1, ())
abbrev F42A : List AT := [.v (.agg Dk), .v (.one (.int .i64))]
abbrev F42B : List AT := [.v (.one (.int .i64))]
noncomputable def F42R : List (Nat × Rule) := [(1, ruleOf F42L1S F42L1X F42L1), (0, ruleOf F42L0S F42L0X F42L0)]
theorem F42L1is : ∀ x, DT.Is (runL Tryz.prog cfg23 1000 (lsOf F42R) 42 1 F42L1S F42L1X x) (F42L1 x) := fun x => by unfold DT.Is; kernel_rfl
theorem F42L0is : ∀ x, DT.Is (runL Tryz.prog cfg23 1000 (lsOf F42R) 42 0 F42L0S F42L0X x) (F42L0 x) := fun x => by unfold DT.Is; kernel_rfl
theorem F42is : ∀ x, DT.Is (runF Tryz.prog cfg23 1000 (lsOf F42R) 42 F42A F42B x) (F42 x) := fun x => by unfold DT.Is; kernel_rfl
noncomputable def F42.fn (x : Dkt × Int × Unit) : Int × Unit := (F42 x).fn
noncomputable def F42.pre (x : Dkt × Int × Unit) : Prop := (F42 x).pre
theorem F42ok : DataOk Tryz.prog 42 F42A F42B F42.pre F42.fn := data_of_tree F42A F42B F42 cfg23ok (.of_all cfg23ok (.cons (rule_of_tree F42L1S F42L1X F42L1 (F42L1is)) (.cons (rule_of_tree F42L0S F42L0X F42L0 (F42L0is)) .nil))) F42is
noncomputable def F42C : Con Tryz.prog := conD 42 F42A F42B F42.pre F42.fn F42ok (by kernel_rfl)
noncomputable def cfgL24 : List (Con Tryz.prog) := F42C :: cfgL23
noncomputable def cfg24 : Cfg := cfgOf cfgL24
theorem cfg24ok : CfgOk Tryz.prog cfg24 := cfgOf_ok cfgnamed cfgmixed _
/-! 71 veneer/veneerref3.has -/
def F71L0S : Shape := ⟨[(0, .v (.one (.row (.one (.int .i64))))), (1, .v (.one (.int .i64))), (5, .v (.one (.int .i64)))], [], 0⟩
def F71L0S0 : Shape := ⟨[(4, .v (.one .bool))], [], 0⟩
def F71L0S1 : Shape := ⟨[], [], 0⟩
def F71L0X : List (Option Nat × Shape) := [(none, F71L0S0), (some 0, F71L0S1)]
noncomputable def F71L0 (x : List (Int) × Int × Int × Unit) : DT ((List (Int) × Int × Int × Unit) ⊕ ((Bool × Unit) ⊕ (Unit) ⊕ Empty)) :=
  .node [] (decide (x.2.2.1 < (Int.ofNat (List.length x.1))))
    (.node [0 ≤ x.2.2.1, x.2.2.1 < Int.ofNat (List.length x.1)] ((@id (Int) (xsAt (.one (.int .i64)) x.1 (Int.toNat x.2.2.1))) == x.2.1)
      (.leaf [] (.inr (.inl (true, ()))))
      (.leaf [] (.inl (x.1, x.2.1, (wrp .i64 (x.2.2.1 + (1 : Int))), ()))))
    (.leaf [] (.inr (.inr (.inl ()))))
noncomputable def F71 (x : List (Int) × Int × Unit) : DT (Bool × Unit) :=
  let y0 := loopOut F71L0 (x.1, x.2.1, (0 : Int), ())
  .node [loopInv F71L0 (x.1, x.2.1, (0 : Int), ())] (isL y0)
    (let y1 : Bool × Unit := getL (Shape.z F71L0S0) y0
    .leaf [] (y1.1, ()))
    (let y1 : Unit := getL (Shape.z F71L0S1) (restR y0)
    .leaf [] (false, ()))
abbrev F71A : List AT := [.v (.one (.row (.one (.int .i64)))), .v (.one (.int .i64))]
abbrev F71B : List AT := [.v (.one .bool)]
noncomputable def F71R : List (Nat × Rule) := [(0, ruleOf F71L0S F71L0X F71L0)]
theorem F71L0is : ∀ x, DT.Is (runL Tryz.prog cfg24 1000 (lsOf F71R) 71 0 F71L0S F71L0X x) (F71L0 x) := fun x => by unfold DT.Is; kernel_rfl
theorem F71is : ∀ x, DT.Is (runF Tryz.prog cfg24 1000 (lsOf F71R) 71 F71A F71B x) (F71 x) := fun x => by unfold DT.Is; kernel_rfl
noncomputable def F71.fn (x : List (Int) × Int × Unit) : Bool × Unit := (F71 x).fn
noncomputable def F71.pre (x : List (Int) × Int × Unit) : Prop := (F71 x).pre
theorem F71ok : DataOk Tryz.prog 71 F71A F71B F71.pre F71.fn := data_of_tree F71A F71B F71 cfg24ok (.of_all cfg24ok (.cons (rule_of_tree F71L0S F71L0X F71L0 (F71L0is)) .nil)) F71is
noncomputable def F71C : Con Tryz.prog := conD 71 F71A F71B F71.pre F71.fn F71ok (by kernel_rfl)
noncomputable def cfgL25 : List (Con Tryz.prog) := F71C :: cfgL24
noncomputable def cfg25 : Cfg := cfgOf cfgL25
theorem cfg25ok : CfgOk Tryz.prog cfg25 := cfgOf_ok cfgnamed cfgmixed _
/-! 43 veneer/veneerref3.reached -/
def F43L0S : Shape := ⟨[(2, .v (.one (.int .i64))), (3, .v (.one (.row (.one (.int .i64))))), (4, .val (.ptr 0 0)), (10, .val (.ptr 1 0)), (12, .v (.one (.int .i64)))], [(0, 4, [.v (.one (.int .i64)), .v (.one (.int .i64)), .v (.one (.int .i64)), .v (.one (.row Nd))]), (1, 8, [.v (.one (.int .i64)), .v (.one (.int .i64)), .v (.one (.int .i64)), .v (.one (.int .i64)), .v (.one (.int .i64)), .v (.one (.row Bk)), .v (.one .str), .v (.one (.row Nm))])], 2⟩
def F43L0S0 : Shape := ⟨[(8, .v (.one (.row (.one (.int .i64))))), (9, .v (.one .bool))], [], 2⟩
def F43L0S1 : Shape := ⟨[(3, .v (.one (.row (.one (.int .i64)))))], [], 2⟩
def F43L0X : List (Option Nat × Shape) := [(none, F43L0S0), (some 0, F43L0S1)]
noncomputable def F43L0 (rc : RecC (Dkt × Int × Int × List (Int) × Unit) (List (Int) × Bool × Unit)) (x : Int × List (Int) × Unit × Unit × Int × Int × Int × Int × List Ndt × Int × Int × Int × Int × Int × List Bkt × List UInt8 × List Nmt × Unit) : DT ((Int × List (Int) × Unit × Unit × Int × Int × Int × Int × List Ndt × Int × Int × Int × Int × Int × List Bkt × List UInt8 × List Nmt × Unit) ⊕ ((List (Int) × Bool × Unit) ⊕ (List (Int) × Unit) ⊕ Empty)) :=
  .node [] (decide (x.2.2.2.2.1 < (Int.ofNat (List.length x.2.2.2.2.2.2.2.2.2.2.2.2.2.2.2.2.1))))
    (let y0 := F71.fn (x.2.1, (@id (Nmt) (xsAt Nm x.2.2.2.2.2.2.2.2.2.2.2.2.2.2.2.2.1 (Int.toNat x.2.2.2.2.1))).2, ())
    .node [F71.pre (x.2.1, (@id (Nmt) (xsAt Nm x.2.2.2.2.2.2.2.2.2.2.2.2.2.2.2.2.1 (Int.toNat x.2.2.2.2.1))).2, ()), 0 ≤ x.2.2.2.2.1, x.2.2.2.2.1 < Int.ofNat (List.length x.2.2.2.2.2.2.2.2.2.2.2.2.2.2.2.2.1)] y0.1
      (.leaf [] (.inl (x.1, x.2.1, (), (), (wrp .i64 (x.2.2.2.2.1 + (1 : Int))), x.2.2.2.2.2.1, x.2.2.2.2.2.2.1, x.2.2.2.2.2.2.2.1, x.2.2.2.2.2.2.2.2.1, x.2.2.2.2.2.2.2.2.2.1, x.2.2.2.2.2.2.2.2.2.2.1, x.2.2.2.2.2.2.2.2.2.2.2.1, x.2.2.2.2.2.2.2.2.2.2.2.2.1, x.2.2.2.2.2.2.2.2.2.2.2.2.2.1, x.2.2.2.2.2.2.2.2.2.2.2.2.2.2.1, x.2.2.2.2.2.2.2.2.2.2.2.2.2.2.2.1, x.2.2.2.2.2.2.2.2.2.2.2.2.2.2.2.2.1, ())))
      (let y1 := rc.fn ((x.2.2.2.2.2.1, (x.2.2.2.2.2.2.1, (x.2.2.2.2.2.2.2.1, x.2.2.2.2.2.2.2.2.1))), (@id (Nmt) (xsAt Nm x.2.2.2.2.2.2.2.2.2.2.2.2.2.2.2.2.1 (Int.toNat x.2.2.2.2.1))).2, (wrp .i64 (x.1 - (1 : Int))), (([] ++ x.2.1) ++ ((@id (Nmt) (xsAt Nm x.2.2.2.2.2.2.2.2.2.2.2.2.2.2.2.2.1 (Int.toNat x.2.2.2.2.1))).2 :: [])), ())
      .node [rc.pre ((x.2.2.2.2.2.1, (x.2.2.2.2.2.2.1, (x.2.2.2.2.2.2.2.1, x.2.2.2.2.2.2.2.2.1))), (@id (Nmt) (xsAt Nm x.2.2.2.2.2.2.2.2.2.2.2.2.2.2.2.2.1 (Int.toNat x.2.2.2.2.1))).2, (wrp .i64 (x.1 - (1 : Int))), (([] ++ x.2.1) ++ ((@id (Nmt) (xsAt Nm x.2.2.2.2.2.2.2.2.2.2.2.2.2.2.2.2.1 (Int.toNat x.2.2.2.2.1))).2 :: [])), ()), (List.length (([] ++ x.2.1) ++ ((@id (Nmt) (xsAt Nm x.2.2.2.2.2.2.2.2.2.2.2.2.2.2.2.2.1 (Int.toNat x.2.2.2.2.1))).2 :: []))) * 8 ≤ Room, (List.length ([] ++ x.2.1)) * 8 ≤ Room, (let r : List AV := [.agg [.x (.i .i64 x.2.2.2.2.2.1), .x (.i .i64 x.2.2.2.2.2.2.1), .x (.i .i64 x.2.2.2.2.2.2.2.1), .x (.row Nd x.2.2.2.2.2.2.2.2.1)]]; r = r), (let r : List AV := [.agg [.x (.i .i64 x.2.2.2.2.2.1), .x (.i .i64 x.2.2.2.2.2.2.1), .x (.i .i64 x.2.2.2.2.2.2.2.1), .x (.row Nd x.2.2.2.2.2.2.2.2.1)]]; r = r), (let r : List AV := [.x (.i .i64 (@id (Nmt) (xsAt Nm x.2.2.2.2.2.2.2.2.2.2.2.2.2.2.2.2.1 (Int.toNat x.2.2.2.2.1))).2)]; r = r), (let r : List AV := [.x (.i .i64 (@id (Nmt) (xsAt Nm x.2.2.2.2.2.2.2.2.2.2.2.2.2.2.2.2.1 (Int.toNat x.2.2.2.2.1))).2)]; r = r)] (!y1.2.1)
        (.leaf [] (.inr (.inl (y1.1, false, ()))))
        (.leaf [] (.inl (x.1, y1.1, (), (), (wrp .i64 (x.2.2.2.2.1 + (1 : Int))), x.2.2.2.2.2.1, x.2.2.2.2.2.2.1, x.2.2.2.2.2.2.2.1, x.2.2.2.2.2.2.2.2.1, x.2.2.2.2.2.2.2.2.2.1, x.2.2.2.2.2.2.2.2.2.2.1, x.2.2.2.2.2.2.2.2.2.2.2.1, x.2.2.2.2.2.2.2.2.2.2.2.2.1, x.2.2.2.2.2.2.2.2.2.2.2.2.2.1, x.2.2.2.2.2.2.2.2.2.2.2.2.2.2.1, x.2.2.2.2.2.2.2.2.2.2.2.2.2.2.2.1, x.2.2.2.2.2.2.2.2.2.2.2.2.2.2.2.2.1, ())))))
    (.leaf [] (.inr (.inr (.inl (x.2.1, ())))))
noncomputable def F43 (rc : RecC (Dkt × Int × Int × List (Int) × Unit) (List (Int) × Bool × Unit)) (x : Dkt × Int × Int × List (Int) × Unit) : DT (List (Int) × Bool × Unit) :=
  let y0 := F12.fn (x.1, x.2.1, ())
  .node [F12.pre (x.1, x.2.1, ())] (x.2.2.1 == (0 : Int))
    (.node [] (decide ((Int.ofNat (List.length y0.1.2.2.2.2.2.2.2)) > (0 : Int)))
      (.leaf [] (x.2.2.2.1, false, ()))
      (let y1 := loopOut (F43L0 rc) (x.2.2.1, x.2.2.2.1, (), (), (0 : Int), x.1.1, x.1.2.1, x.1.2.2.1, x.1.2.2.2, y0.1.1, y0.1.2.1, y0.1.2.2.1, y0.1.2.2.2.1, y0.1.2.2.2.2.1, y0.1.2.2.2.2.2.1, y0.1.2.2.2.2.2.2.1, y0.1.2.2.2.2.2.2.2, ())
      .node [loopInv (F43L0 rc) (x.2.2.1, x.2.2.2.1, (), (), (0 : Int), x.1.1, x.1.2.1, x.1.2.2.1, x.1.2.2.2, y0.1.1, y0.1.2.1, y0.1.2.2.1, y0.1.2.2.2.1, y0.1.2.2.2.2.1, y0.1.2.2.2.2.2.1, y0.1.2.2.2.2.2.2.1, y0.1.2.2.2.2.2.2.2, ())] (isL y1)
        (let y2 : List (Int) × Bool × Unit := getL (Shape.z F43L0S0) y1
        .leaf [] (y2.1, y2.2.1, ()))
        (let y2 : List (Int) × Unit := getL (Shape.z F43L0S1) (restR y1)
        .leaf [] (y2.1, true, ()))))
    (let y1 := loopOut (F43L0 rc) (x.2.2.1, x.2.2.2.1, (), (), (0 : Int), x.1.1, x.1.2.1, x.1.2.2.1, x.1.2.2.2, y0.1.1, y0.1.2.1, y0.1.2.2.1, y0.1.2.2.2.1, y0.1.2.2.2.2.1, y0.1.2.2.2.2.2.1, y0.1.2.2.2.2.2.2.1, y0.1.2.2.2.2.2.2.2, ())
    .node [loopInv (F43L0 rc) (x.2.2.1, x.2.2.2.1, (), (), (0 : Int), x.1.1, x.1.2.1, x.1.2.2.1, x.1.2.2.2, y0.1.1, y0.1.2.1, y0.1.2.2.1, y0.1.2.2.2.1, y0.1.2.2.2.2.1, y0.1.2.2.2.2.2.1, y0.1.2.2.2.2.2.2.1, y0.1.2.2.2.2.2.2.2, ())] (isL y1)
      (let y2 : List (Int) × Bool × Unit := getL (Shape.z F43L0S0) y1
      .leaf [] (y2.1, y2.2.1, ()))
      (let y2 : List (Int) × Unit := getL (Shape.z F43L0S1) (restR y1)
      .leaf [] (y2.1, true, ())))
abbrev F43A : List AT := [.v (.agg Dk), .v (.one (.int .i64)), .v (.one (.int .i64)), .v (.one (.row (.one (.int .i64))))]
abbrev F43B : List AT := [.v (.one (.row (.one (.int .i64)))), .v (.one .bool)]
noncomputable def F43R (rc : RecC (Dkt × Int × Int × List (Int) × Unit) (List (Int) × Bool × Unit)) : List (Nat × Rule) := [(0, ruleOf F43L0S F43L0X (F43L0 rc))]
theorem F43body : callable Tryz.prog 43 = true := by kernel_rfl
noncomputable def F43cfg (rc : RecC (Dkt × Int × Int × List (Int) × Unit) (List (Int) × Bool × Unit)) (ok : DataOk Tryz.prog 43 F43A F43B rc.pre rc.fn) : Cfg := cfgOf (conD 43 F43A F43B rc.pre rc.fn ok F43body :: cfgL25)
theorem F43L0is (rc : RecC (Dkt × Int × Int × List (Int) × Unit) (List (Int) × Bool × Unit)) (ok : DataOk Tryz.prog 43 F43A F43B rc.pre rc.fn) : ∀ x, DT.Is (runL Tryz.prog (F43cfg rc ok) 1000 (lsOf (F43R rc)) 43 0 F43L0S F43L0X x) ((F43L0 rc) x) := fun x => by unfold DT.Is; kernel_rfl
theorem F43is (rc : RecC (Dkt × Int × Int × List (Int) × Unit) (List (Int) × Bool × Unit)) (ok : DataOk Tryz.prog 43 F43A F43B rc.pre rc.fn) : ∀ x, DT.Is (runF Tryz.prog (F43cfg rc ok) 1000 (lsOf (F43R rc)) 43 F43A F43B x) ((F43 rc) x) := fun x => by unfold DT.Is; kernel_rfl
theorem F43step (rc : RecC (Dkt × Int × Int × List (Int) × Unit) (List (Int) × Bool × Unit)) (ok : DataOk Tryz.prog 43 F43A F43B rc.pre rc.fn) : DataOk Tryz.prog 43 F43A F43B (fun x => (F43 rc x).pre) (fun x => (F43 rc x).fn) := data_of_tree F43A F43B (F43 rc) (g := (F43cfg rc ok)) (cfgOf_ok cfgnamed cfgmixed _) (.of_all (cfgOf_ok cfgnamed cfgmixed _) (.cons (rule_of_tree F43L0S F43L0X (F43L0 rc) (F43L0is rc ok)) .nil)) (F43is rc ok)
noncomputable def F43z : List (Int) × Bool × Unit := default
noncomputable def F43at : Nat → RecC (Dkt × Int × Int × List (Int) × Unit) (List (Int) × Bool × Unit)
  | 0 => ⟨fun _ => False, fun _ => F43z⟩
  | n + 1 => ⟨fun x => (F43 (F43at n) x).pre, fun x => (F43 (F43at n) x).fn⟩
theorem F43atok : ∀ n, DataOk Tryz.prog 43 F43A F43B (F43at n).pre (F43at n).fn
  | 0 => DataOk.none _
  | n + 1 => F43step (F43at n) (F43atok n)
noncomputable def F43.fn (x : Dkt × Int × Int × List (Int) × Unit) : List (Int) × Bool × Unit := (RecC.all F43z F43at).fn x
noncomputable def F43.pre (x : Dkt × Int × Int × List (Int) × Unit) : Prop := (RecC.all F43z F43at).pre x
theorem F43ok : DataOk Tryz.prog 43 F43A F43B F43.pre F43.fn := DataOk.depth (ats := F43A) (rts := F43B) F43z F43at F43atok
noncomputable def F43C : Con Tryz.prog := conD 43 F43A F43B F43.pre F43.fn F43ok (by kernel_rfl)
noncomputable def cfgL26 : List (Con Tryz.prog) := F43C :: cfgL25
noncomputable def cfg26 : Cfg := cfgOf cfgL26
theorem cfg26ok : CfgOk Tryz.prog cfg26 := cfgOf_ok cfgnamed cfgmixed _
/-! 21 veneer/veneerref3.Is -/
def F21L0S : Shape := ⟨[(1, .val (.ptr 0 0)), (4, .v (.one (.int .i64))), (5, .v (.one (.int .i64)))], [(0, 4, [.v (.one (.int .i64)), .v (.one (.int .i64)), .v (.one (.int .i64)), .v (.one (.row Nd))])], 1⟩
def F21L0S0 : Shape := ⟨[(2, .v (.one .bool))], [], 1⟩
def F21L0S1 : Shape := ⟨[(1, .val (.ptr 0 0)), (4, .v (.one (.int .i64)))], [(0, 4, [.v (.one (.int .i64)), .v (.one (.int .i64)), .v (.one (.int .i64)), .v (.one (.row Nd))])], 1⟩
def F21L0X : List (Option Nat × Shape) := [(none, F21L0S0), (some 0, F21L0S1)]
noncomputable def F21L0 (x : Unit × Int × Int × Int × Int × Int × List Ndt × Unit) : DT ((Unit × Int × Int × Int × Int × Int × List Ndt × Unit) ⊕ ((Bool × Unit) ⊕ (Unit × Int × Int × Int × Int × List Ndt × Unit) ⊕ Empty)) :=
  .node [] (decide (x.2.2.1 < x.2.1))
    (.node [0 ≤ x.2.2.1, x.2.2.1 < Int.ofNat (List.length x.2.2.2.2.2.2.1)] (decide ((@id (Ndt) (xsAt Nd x.2.2.2.2.2.2.1 (Int.toNat x.2.2.1))).1 ≥ x.2.2.2.2.2.1))
      (.leaf [] (.inr (.inl (false, ()))))
      (.node [] (decide (x.2.2.1 > (0 : Int)))
        (.node [0 ≤ (wrp .i64 (x.2.2.1 - (1 : Int))), (wrp .i64 (x.2.2.1 - (1 : Int))) < Int.ofNat (List.length x.2.2.2.2.2.2.1)] (decide ((@id (Ndt) (xsAt Nd x.2.2.2.2.2.2.1 (Int.toNat x.2.2.1))).1 ≤ (@id (Ndt) (xsAt Nd x.2.2.2.2.2.2.1 (Int.toNat (wrp .i64 (x.2.2.1 - (1 : Int)))))).1))
          (.leaf [] (.inr (.inl (false, ()))))
          (let y0 := F41.fn ((x.2.2.2.1, (x.2.2.2.2.1, (x.2.2.2.2.2.1, x.2.2.2.2.2.2.1))), (@id (Ndt) (xsAt Nd x.2.2.2.2.2.2.1 (Int.toNat x.2.2.1))), ())
          .node [F41.pre ((x.2.2.2.1, (x.2.2.2.2.1, (x.2.2.2.2.2.1, x.2.2.2.2.2.2.1))), (@id (Ndt) (xsAt Nd x.2.2.2.2.2.2.1 (Int.toNat x.2.2.1))), ())] (!y0.1)
            (.leaf [] (.inr (.inl (false, ()))))
            (let y1 := F42.fn ((x.2.2.2.1, (x.2.2.2.2.1, (x.2.2.2.2.2.1, x.2.2.2.2.2.2.1))), (@id (Ndt) (xsAt Nd x.2.2.2.2.2.2.1 (Int.toNat x.2.2.1))).1, ())
            .node [F42.pre ((x.2.2.2.1, (x.2.2.2.2.1, (x.2.2.2.2.2.1, x.2.2.2.2.2.2.1))), (@id (Ndt) (xsAt Nd x.2.2.2.2.2.2.1 (Int.toNat x.2.2.1))).1, ())] (x.2.2.1 == (0 : Int))
              (.node [] ((wrp .i64 (y1.1 + (1 : Int))) != (@id (Ndt) (xsAt Nd x.2.2.2.2.2.2.1 (Int.toNat x.2.2.1))).2.2.2.1)
                (.leaf [] (.inr (.inl (false, ()))))
                (.node [] ((@id (Ndt) (xsAt Nd x.2.2.2.2.2.2.1 (Int.toNat x.2.2.1))).2.1 == (2 : Int))
                  (.node [] ((wrp .i64 (y1.1 + (1 : Int))) != (1 : Int))
                    (.leaf [] (.inr (.inl (false, ()))))
                    (.leaf [] (.inl ((), x.2.1, (wrp .i64 (x.2.2.1 + (1 : Int))), x.2.2.2.1, x.2.2.2.2.1, x.2.2.2.2.2.1, x.2.2.2.2.2.2.1, ()))))
                  (.leaf [] (.inl ((), x.2.1, (wrp .i64 (x.2.2.1 + (1 : Int))), x.2.2.2.1, x.2.2.2.2.1, x.2.2.2.2.2.1, x.2.2.2.2.2.2.1, ())))))
              (.node [] (y1.1 != (@id (Ndt) (xsAt Nd x.2.2.2.2.2.2.1 (Int.toNat x.2.2.1))).2.2.2.1)
                (.leaf [] (.inr (.inl (false, ()))))
                (.node [] ((@id (Ndt) (xsAt Nd x.2.2.2.2.2.2.1 (Int.toNat x.2.2.1))).2.1 == (2 : Int))
                  (.node [] (y1.1 != (1 : Int))
                    (.leaf [] (.inr (.inl (false, ()))))
                    (.leaf [] (.inl ((), x.2.1, (wrp .i64 (x.2.2.1 + (1 : Int))), x.2.2.2.1, x.2.2.2.2.1, x.2.2.2.2.2.1, x.2.2.2.2.2.2.1, ()))))
                  (.leaf [] (.inl ((), x.2.1, (wrp .i64 (x.2.2.1 + (1 : Int))), x.2.2.2.1, x.2.2.2.2.1, x.2.2.2.2.2.1, x.2.2.2.2.2.2.1, ()))))))))
        (let y0 := F41.fn ((x.2.2.2.1, (x.2.2.2.2.1, (x.2.2.2.2.2.1, x.2.2.2.2.2.2.1))), (@id (Ndt) (xsAt Nd x.2.2.2.2.2.2.1 (Int.toNat x.2.2.1))), ())
        .node [F41.pre ((x.2.2.2.1, (x.2.2.2.2.1, (x.2.2.2.2.2.1, x.2.2.2.2.2.2.1))), (@id (Ndt) (xsAt Nd x.2.2.2.2.2.2.1 (Int.toNat x.2.2.1))), ())] (!y0.1)
          (.leaf [] (.inr (.inl (false, ()))))
          (let y1 := F42.fn ((x.2.2.2.1, (x.2.2.2.2.1, (x.2.2.2.2.2.1, x.2.2.2.2.2.2.1))), (@id (Ndt) (xsAt Nd x.2.2.2.2.2.2.1 (Int.toNat x.2.2.1))).1, ())
          .node [F42.pre ((x.2.2.2.1, (x.2.2.2.2.1, (x.2.2.2.2.2.1, x.2.2.2.2.2.2.1))), (@id (Ndt) (xsAt Nd x.2.2.2.2.2.2.1 (Int.toNat x.2.2.1))).1, ())] (x.2.2.1 == (0 : Int))
            (.node [] ((wrp .i64 (y1.1 + (1 : Int))) != (@id (Ndt) (xsAt Nd x.2.2.2.2.2.2.1 (Int.toNat x.2.2.1))).2.2.2.1)
              (.leaf [] (.inr (.inl (false, ()))))
              (.node [] ((@id (Ndt) (xsAt Nd x.2.2.2.2.2.2.1 (Int.toNat x.2.2.1))).2.1 == (2 : Int))
                (.node [] ((wrp .i64 (y1.1 + (1 : Int))) != (1 : Int))
                  (.leaf [] (.inr (.inl (false, ()))))
                  (.leaf [] (.inl ((), x.2.1, (wrp .i64 (x.2.2.1 + (1 : Int))), x.2.2.2.1, x.2.2.2.2.1, x.2.2.2.2.2.1, x.2.2.2.2.2.2.1, ()))))
                (.leaf [] (.inl ((), x.2.1, (wrp .i64 (x.2.2.1 + (1 : Int))), x.2.2.2.1, x.2.2.2.2.1, x.2.2.2.2.2.1, x.2.2.2.2.2.2.1, ())))))
            (.node [] (y1.1 != (@id (Ndt) (xsAt Nd x.2.2.2.2.2.2.1 (Int.toNat x.2.2.1))).2.2.2.1)
              (.leaf [] (.inr (.inl (false, ()))))
              (.node [] ((@id (Ndt) (xsAt Nd x.2.2.2.2.2.2.1 (Int.toNat x.2.2.1))).2.1 == (2 : Int))
                (.node [] (y1.1 != (1 : Int))
                  (.leaf [] (.inr (.inl (false, ()))))
                  (.leaf [] (.inl ((), x.2.1, (wrp .i64 (x.2.2.1 + (1 : Int))), x.2.2.2.1, x.2.2.2.2.1, x.2.2.2.2.2.1, x.2.2.2.2.2.2.1, ()))))
                (.leaf [] (.inl ((), x.2.1, (wrp .i64 (x.2.2.1 + (1 : Int))), x.2.2.2.1, x.2.2.2.2.1, x.2.2.2.2.2.1, x.2.2.2.2.2.2.1, ())))))))))
    (.leaf [] (.inr (.inr (.inl ((), x.2.1, x.2.2.2.1, x.2.2.2.2.1, x.2.2.2.2.2.1, x.2.2.2.2.2.2.1, ())))))
noncomputable def F21 (x : Dkt × Unit) : DT (Bool × Unit) :=
  let y0 := F31.fn (x.1, ())
  .node [F31.pre (x.1, ())] (decide (x.1.1 < (0 : Int)))
    (.leaf [] (false, ()))
    (.node [] (decide (x.1.1 > (1048576 : Int)))
      (.leaf [] (false, ()))
      (.node [] (decide (x.1.2.1 < (1 : Int)))
        (.leaf [] (false, ()))
        (.node [] (decide (x.1.2.1 > (4096 : Int)))
          (.leaf [] (false, ()))
          (.node [] (decide (y0.1 > x.1.1))
            (.leaf [] (false, ()))
            (.node [] (decide (y0.2.1 > x.1.2.1))
              (.leaf [] (false, ()))
              (.node [] (decide (x.1.2.2.1 < (1 : Int)))
                (.leaf [] (false, ()))
                (.node [] (decide (x.1.2.2.1 ≥ (4611686018427387904 : Int)))
                  (.leaf [] (false, ()))
                  (.node [] (y0.2.1 == (0 : Int))
                    (.leaf [] (false, ()))
                    (.node [0 ≤ (0 : Int), (0 : Int) < Int.ofNat (List.length x.1.2.2.2)] ((@id (Ndt) (xsAt Nd x.1.2.2.2 (Int.toNat (0 : Int)))).1 != (1 : Int))
                      (.leaf [] (false, ()))
                      (.node [0 ≤ (0 : Int), (0 : Int) < Int.ofNat (List.length x.1.2.2.2)] ((@id (Ndt) (xsAt Nd x.1.2.2.2 (Int.toNat (0 : Int)))).2.1 != (2 : Int))
                        (.leaf [] (false, ()))
                        (let y1 := loopOut F21L0 ((), y0.2.1, (0 : Int), x.1.1, x.1.2.1, x.1.2.2.1, x.1.2.2.2, ())
                        .node [loopInv F21L0 ((), y0.2.1, (0 : Int), x.1.1, x.1.2.1, x.1.2.2.1, x.1.2.2.2, ())] (isL y1)
                          (let y2 : Bool × Unit := getL (Shape.z F21L0S0) y1
                          .leaf [] (y2.1, ()))
                          (let y2 : Unit × Int × Int × Int × Int × List Ndt × Unit := getL (Shape.z F21L0S1) (restR y1)
                          let y3 := F43.fn ((y2.2.2.1, (y2.2.2.2.1, (y2.2.2.2.2.1, y2.2.2.2.2.2.1))), (1 : Int), (16 : Int), ((1 : Int) :: []), ())
                          .node [F43.pre ((y2.2.2.1, (y2.2.2.2.1, (y2.2.2.2.2.1, y2.2.2.2.2.2.1))), (1 : Int), (16 : Int), ((1 : Int) :: []), ())] y3.2.1
                            (.leaf [] (((Int.ofNat (List.length y3.1)) == y2.2.1), ()))
                            (.leaf [] (false, ()))))))))))))))
abbrev F21A : List AT := [.v (.agg Dk)]
abbrev F21B : List AT := [.v (.one .bool)]
noncomputable def F21R : List (Nat × Rule) := [(0, ruleOf F21L0S F21L0X F21L0)]
theorem F21L0is : ∀ x, DT.Is (runL Tryz.prog cfg26 1000 (lsOf F21R) 21 0 F21L0S F21L0X x) (F21L0 x) := fun x => by unfold DT.Is; kernel_rfl
theorem F21is : ∀ x, DT.Is (runF Tryz.prog cfg26 1000 (lsOf F21R) 21 F21A F21B x) (F21 x) := fun x => by unfold DT.Is; kernel_rfl
noncomputable def F21.fn (x : Dkt × Unit) : Bool × Unit := (F21 x).fn
noncomputable def F21.pre (x : Dkt × Unit) : Prop := (F21 x).pre
theorem F21ok : DataOk Tryz.prog 21 F21A F21B F21.pre F21.fn := data_of_tree F21A F21B F21 cfg26ok (.of_all cfg26ok (.cons (rule_of_tree F21L0S F21L0X F21L0 (F21L0is)) .nil)) F21is
noncomputable def F21C : Con Tryz.prog := conD 21 F21A F21B F21.pre F21.fn F21ok (by kernel_rfl)
noncomputable def cfgL27 : List (Con Tryz.prog) := F21C :: cfgL26
noncomputable def cfg27 : Cfg := cfgOf cfgL27
theorem cfg27ok : CfgOk Tryz.prog cfg27 := cfgOf_ok cfgnamed cfgmixed _
/-! 20 veneer/veneerref9.Is -/
def F20L0S : Shape := ⟨[(1, .val (.ptr 0 0)), (3, .v (.one (.int .i64)))], [(0, 2, [.v (.one (.row (.one (.int .i64)))), .v (.one (.int .i64))])], 1⟩
def F20L0S0 : Shape := ⟨[(2, .v (.one .bool))], [], 1⟩
def F20L0S1 : Shape := ⟨[(1, .val (.ptr 0 0))], [(0, 2, [.v (.one (.row (.one (.int .i64)))), .v (.one (.int .i64))])], 1⟩
def F20L0X : List (Option Nat × Shape) := [(none, F20L0S0), (some 0, F20L0S1)]
noncomputable def F20L0 (x : Unit × Int × List (Int) × Int × Unit) : DT ((Unit × Int × List (Int) × Int × Unit) ⊕ ((Bool × Unit) ⊕ (Unit × List (Int) × Int × Unit) ⊕ Empty)) :=
  .node [] (decide (x.2.1 < (Int.ofNat (List.length x.2.2.1))))
    (.node [0 ≤ x.2.1, x.2.1 < Int.ofNat (List.length x.2.2.1)] (decide ((@id (Int) (xsAt (.one (.int .i64)) x.2.2.1 (Int.toNat x.2.1))) < (1 : Int)))
      (.leaf [] (.inr (.inl (false, ()))))
      (.node [0 ≤ x.2.1, x.2.1 < Int.ofNat (List.length x.2.2.1)] (decide ((@id (Int) (xsAt (.one (.int .i64)) x.2.2.1 (Int.toNat x.2.1))) > (3 : Int)))
        (.leaf [] (.inr (.inl (false, ()))))
        (.leaf [] (.inl ((), (wrp .i64 (x.2.1 + (1 : Int))), x.2.2.1, x.2.2.2.1, ())))))
    (.leaf [] (.inr (.inr (.inl ((), x.2.2.1, x.2.2.2.1, ())))))
noncomputable def F20 (x : Cft × Unit) : DT (Bool × Unit) :=
  let y0 := loopOut F20L0 ((), (0 : Int), x.1.1, x.1.2, ())
  .node [loopInv F20L0 ((), (0 : Int), x.1.1, x.1.2, ())] (isL y0)
    (let y1 : Bool × Unit := getL (Shape.z F20L0S0) y0
    .leaf [] (y1.1, ()))
    (let y1 : Unit × List (Int) × Int × Unit := getL (Shape.z F20L0S1) (restR y0)
    .node [] (decide ((Int.ofNat (List.length y1.2.1)) ≥ (1 : Int)))
      (.node [] (decide ((Int.ofNat (List.length y1.2.1)) ≤ (8 : Int)))
        (.node [0 ≤ (0 : Int), (0 : Int) < Int.ofNat (List.length y1.2.1)] ((@id (Int) (xsAt (.one (.int .i64)) y1.2.1 (Int.toNat (0 : Int)))) == (1 : Int))
          (.node [] (decide (y1.2.2.1 ≥ (1 : Int)))
            (.leaf [] ((decide (y1.2.2.1 ≤ (4 : Int))), ()))
            (.leaf [] (false, ())))
          (.leaf [] (false, ())))
        (.leaf [] (false, ())))
      (.leaf [] (false, ())))
abbrev F20A : List AT := [.v (.agg Cf)]
abbrev F20B : List AT := [.v (.one .bool)]
noncomputable def F20R : List (Nat × Rule) := [(0, ruleOf F20L0S F20L0X F20L0)]
theorem F20L0is : ∀ x, DT.Is (runL Tryz.prog cfg27 1000 (lsOf F20R) 20 0 F20L0S F20L0X x) (F20L0 x) := fun x => by unfold DT.Is; kernel_rfl
theorem F20is : ∀ x, DT.Is (runF Tryz.prog cfg27 1000 (lsOf F20R) 20 F20A F20B x) (F20 x) := fun x => by unfold DT.Is; kernel_rfl
noncomputable def F20.fn (x : Cft × Unit) : Bool × Unit := (F20 x).fn
noncomputable def F20.pre (x : Cft × Unit) : Prop := (F20 x).pre
theorem F20ok : DataOk Tryz.prog 20 F20A F20B F20.pre F20.fn := data_of_tree F20A F20B F20 cfg27ok (.of_all cfg27ok (.cons (rule_of_tree F20L0S F20L0X F20L0 (F20L0is)) .nil)) F20is
noncomputable def F20C : Con Tryz.prog := conD 20 F20A F20B F20.pre F20.fn F20ok (by kernel_rfl)
noncomputable def cfgL28 : List (Con Tryz.prog) := F20C :: cfgL27
noncomputable def cfg28 : Cfg := cfgOf cfgL28
theorem cfg28ok : CfgOk Tryz.prog cfg28 := cfgOf_ok cfgnamed cfgmixed _
/-! 8 veneer/veneerref11.Roots -/
def F8L0S : Shape := ⟨[(1, .val (.ptr 0 0)), (3, .own Sp), (4, .v (.one (.int .i64)))], [(0, 7, [.v (.one (.row (.one (.int .i64)))), .v (.one (.int .i64)), .v (.one (.row Dk)), .v (.one (.int .i64)), .v (.one (.row Rw)), .v (.one (.row Rw)), .v (.one (.int .i64))])], 1⟩
def F8L0S0 : Shape := ⟨[(3, .own Sp)], [], 1⟩
def F8L0X : List (Option Nat × Shape) := [(some 0, F8L0S0)]
noncomputable def F8L0 (x : Unit × List Spt × Int × List (Int) × Int × List Dkt × Int × List Rwt × List Rwt × Int × Unit) : DT ((Unit × List Spt × Int × List (Int) × Int × List Dkt × Int × List Rwt × List Rwt × Int × Unit) ⊕ ((List Spt × Unit) ⊕ Empty)) :=
  .node [] (decide (x.2.2.1 < (Int.ofNat (List.length x.2.2.2.2.2.1))))
    (.leaf [(List.length (x.2.1 ++ ((x.2.2.1, (1 : Int)) :: []))) * 16 ≤ Room] (.inl ((), (x.2.1 ++ ((x.2.2.1, (1 : Int)) :: [])), (wrp .i64 (x.2.2.1 + (1 : Int))), x.2.2.2.1, x.2.2.2.2.1, x.2.2.2.2.2.1, x.2.2.2.2.2.2.1, x.2.2.2.2.2.2.2.1, x.2.2.2.2.2.2.2.2.1, x.2.2.2.2.2.2.2.2.2.1, ())))
    (.leaf [] (.inr (.inl (x.2.1, ()))))
noncomputable def F8 (x : Wdt × Unit) : DT (List Spt × Unit) :=
  let y0 := loopOut F8L0 ((), [], (0 : Int), x.1.1, x.1.2.1, x.1.2.2.1, x.1.2.2.2.1, x.1.2.2.2.2.1, x.1.2.2.2.2.2.1, x.1.2.2.2.2.2.2, ())
  let y1 : List Spt × Unit := getL (Shape.z F8L0S0) y0
  .leaf [loopInv F8L0 ((), [], (0 : Int), x.1.1, x.1.2.1, x.1.2.2.1, x.1.2.2.2.1, x.1.2.2.2.2.1, x.1.2.2.2.2.2.1, x.1.2.2.2.2.2.2, ())] (y1.1, ())
abbrev F8A : List AT := [.v (.agg Wd)]
abbrev F8B : List AT := [.own Sp]
noncomputable def F8R : List (Nat × Rule) := [(0, ruleOf F8L0S F8L0X F8L0)]
theorem F8L0is : ∀ x, DT.Is (runL Tryz.prog cfg28 1000 (lsOf F8R) 8 0 F8L0S F8L0X x) (F8L0 x) := fun x => by unfold DT.Is; kernel_rfl
theorem F8is : ∀ x, DT.Is (runF Tryz.prog cfg28 1000 (lsOf F8R) 8 F8A F8B x) (F8 x) := fun x => by unfold DT.Is; kernel_rfl
noncomputable def F8.fn (x : Wdt × Unit) : List Spt × Unit := (F8 x).fn
noncomputable def F8.pre (x : Wdt × Unit) : Prop := (F8 x).pre
theorem F8ok : DataOk Tryz.prog 8 F8A F8B F8.pre F8.fn := data_of_tree F8A F8B F8 cfg28ok (.of_all cfg28ok (.cons (rule_of_tree F8L0S F8L0X F8L0 (F8L0is)) .nil)) F8is
noncomputable def F8C : Con Tryz.prog := conD 8 F8A F8B F8.pre F8.fn F8ok (by kernel_rfl)
noncomputable def cfgL29 : List (Con Tryz.prog) := F8C :: cfgL28
noncomputable def cfg29 : Cfg := cfgOf cfgL29
theorem cfg29ok : CfgOk Tryz.prog cfg29 := cfgOf_ok cfgnamed cfgmixed _
/-! 92 cmp.isNaN[int64] -/
noncomputable def F92 (x : Int × Unit) : DT (Bool × Unit) :=
  .leaf [] ((x.1 != x.1), ())
abbrev F92A : List AT := [.v (.one (.int .i64))]
abbrev F92B : List AT := [.v (.one .bool)]
theorem F92is : ∀ x, DT.Is (runF Tryz.prog cfg29 1000 noL 92 F92A F92B x) (F92 x) := fun x => by unfold DT.Is; kernel_rfl
noncomputable def F92.fn (x : Int × Unit) : Bool × Unit := (F92 x).fn
noncomputable def F92.pre (x : Int × Unit) : Prop := (F92 x).pre
theorem F92ok : DataOk Tryz.prog 92 F92A F92B F92.pre F92.fn := data_of_tree F92A F92B F92 cfg29ok FnLoops.none F92is
noncomputable def F92C : Con Tryz.prog := conD 92 F92A F92B F92.pre F92.fn F92ok (by kernel_rfl)
noncomputable def cfgL30 : List (Con Tryz.prog) := F92C :: cfgL29
noncomputable def cfg30 : Cfg := cfgOf cfgL30
theorem cfg30ok : CfgOk Tryz.prog cfg30 := cfgOf_ok cfgnamed cfgmixed _
/-! 65 cmp.Compare[int64] -/
noncomputable def F65 (x : Int × Int × Unit) : DT (Int × Unit) :=
  let y0 := F92.fn (x.1, ())
  let y1 := F92.fn (x.2.1, ())
  .node [F92.pre (x.2.1, ()), F92.pre (x.1, ())] y0.1
    (.node [] y1.1
      (.leaf [] ((0 : Int), ()))
      (.leaf [] ((-1 : Int), ())))
    (.node [] y1.1
      (.leaf [] ((1 : Int), ()))
      (.node [] (decide (x.1 < x.2.1))
        (.leaf [] ((-1 : Int), ()))
        (.node [] (decide (x.1 > x.2.1))
          (.leaf [] ((1 : Int), ()))
          (.leaf [] ((0 : Int), ())))))
abbrev F65A : List AT := [.v (.one (.int .i64)), .v (.one (.int .i64))]
abbrev F65B : List AT := [.v (.one (.int .i64))]
theorem F65is : ∀ x, DT.Is (runF Tryz.prog cfg30 1000 noL 65 F65A F65B x) (F65 x) := fun x => by unfold DT.Is; kernel_rfl
noncomputable def F65.fn (x : Int × Int × Unit) : Int × Unit := (F65 x).fn
noncomputable def F65.pre (x : Int × Int × Unit) : Prop := (F65 x).pre
theorem F65ok : DataOk Tryz.prog 65 F65A F65B F65.pre F65.fn := data_of_tree F65A F65B F65 cfg30ok FnLoops.none F65is
noncomputable def F65C : Con Tryz.prog := conD 65 F65A F65B F65.pre F65.fn F65ok (by kernel_rfl)
noncomputable def cfgL31 : List (Con Tryz.prog) := F65C :: cfgL30
noncomputable def cfg31 : Cfg := cfgOf cfgL31
theorem cfg31ok : CfgOk Tryz.prog cfg31 := cfgOf_ok cfgnamed cfgmixed _
/-! 64 veneer/seen.node$1 -/
noncomputable def F64 (x : Ndt × Int × Unit) : DT (Int × Unit) :=
  let y0 := F65.fn (x.1.1, x.2.1, ())
  .leaf [F65.pre (x.1.1, x.2.1, ())] (y0.1, ())
abbrev F64A : List AT := [.v (.agg Nd), .v (.one (.int .i64))]
abbrev F64B : List AT := [.v (.one (.int .i64))]
theorem F64is : ∀ x, DT.Is (runF Tryz.prog cfg31 1000 noL 64 F64A F64B x) (F64 x) := fun x => by unfold DT.Is; kernel_rfl
noncomputable def F64.fn (x : Ndt × Int × Unit) : Int × Unit := (F64 x).fn
noncomputable def F64.pre (x : Ndt × Int × Unit) : Prop := (F64 x).pre
theorem F64ok : DataOk Tryz.prog 64 F64A F64B F64.pre F64.fn := data_of_tree F64A F64B F64 cfg31ok FnLoops.none F64is
noncomputable def F64C : Con Tryz.prog := conD 64 F64A F64B F64.pre F64.fn F64ok (by kernel_rfl)
noncomputable def cfgL32 : List (Con Tryz.prog) := F64C :: cfgL31
noncomputable def cfg32 : Cfg := cfgOf cfgL32
theorem cfg32ok : CfgOk Tryz.prog cfg32 := cfgOf_ok cfgnamed cfgmixed _
/-! 63 slices.BinarySearchFunc[[]veneer/api.Node,veneer/api.Node,int64] -/
def F63_64L0S : Shape := ⟨[(0, .v (.one (.row Nd))), (1, .v (.one (.int .i64))), (2, .val (.fn 64 [] [])), (8, .v (.one (.int .i64))), (9, .v (.one (.int .i64))), (10, .v (.one (.int .i64)))], [], 0⟩
def F63_64L0S0 : Shape := ⟨[(0, .v (.one (.row Nd))), (1, .v (.one (.int .i64))), (2, .val (.fn 64 [] [])), (8, .v (.one (.int .i64))), (9, .v (.one (.int .i64)))], [], 0⟩
def F63_64L0X : List (Option Nat × Shape) := [(some 0, F63_64L0S0)]
noncomputable def F63_64L0 (x : List Ndt × Int × Unit × Int × Int × Int × Unit) : DT ((List Ndt × Int × Unit × Int × Int × Int × Unit) ⊕ ((List Ndt × Int × Unit × Int × Int × Unit) ⊕ Empty)) :=
  .node [] (decide (x.2.2.2.2.1 < x.2.2.2.2.2.1))
    (let y0 := F64.fn ((@id (Ndt) (xsAt Nd x.1 (Int.toNat (wrp .i64 (shrI .u64 (wrp .u64 (wrp .i64 (x.2.2.2.2.1 + x.2.2.2.2.2.1))) (1 : Int)))))), x.2.1, ())
    .node [F64.pre ((@id (Ndt) (xsAt Nd x.1 (Int.toNat (wrp .i64 (shrI .u64 (wrp .u64 (wrp .i64 (x.2.2.2.2.1 + x.2.2.2.2.2.1))) (1 : Int)))))), x.2.1, ()), 0 ≤ (wrp .i64 (shrI .u64 (wrp .u64 (wrp .i64 (x.2.2.2.2.1 + x.2.2.2.2.2.1))) (1 : Int))), (wrp .i64 (shrI .u64 (wrp .u64 (wrp .i64 (x.2.2.2.2.1 + x.2.2.2.2.2.1))) (1 : Int))) < Int.ofNat (List.length x.1), 0 ≤ (1 : Int), wrp .u64 (shrI .u64 (wrp .u64 (wrp .i64 (x.2.2.2.2.1 + x.2.2.2.2.2.1))) (1 : Int)) = shrI .u64 (wrp .u64 (wrp .i64 (x.2.2.2.2.1 + x.2.2.2.2.2.1))) (1 : Int)] (decide (y0.1 < (0 : Int)))
      (.leaf [] (.inl (x.1, x.2.1, (), x.2.2.2.1, (wrp .i64 ((wrp .i64 (shrI .u64 (wrp .u64 (wrp .i64 (x.2.2.2.2.1 + x.2.2.2.2.2.1))) (1 : Int))) + (1 : Int))), x.2.2.2.2.2.1, ())))
      (.leaf [] (.inl (x.1, x.2.1, (), x.2.2.2.1, x.2.2.2.2.1, (wrp .i64 (shrI .u64 (wrp .u64 (wrp .i64 (x.2.2.2.2.1 + x.2.2.2.2.2.1))) (1 : Int))), ()))))
    (.leaf [] (.inr (.inl (x.1, x.2.1, (), x.2.2.2.1, x.2.2.2.2.1, ()))))
noncomputable def F63_64 (x : List Ndt × Int × Unit × Unit) : DT (Int × Bool × Unit) :=
  let y0 := loopOut F63_64L0 (x.1, x.2.1, (), (Int.ofNat (List.length x.1)), (0 : Int), (Int.ofNat (List.length x.1)), ())
  let y1 : List Ndt × Int × Unit × Int × Int × Unit := getL (Shape.z F63_64L0S0) y0
  .node [loopInv F63_64L0 (x.1, x.2.1, (), (Int.ofNat (List.length x.1)), (0 : Int), (Int.ofNat (List.length x.1)), ())] (decide (y1.2.2.2.2.1 < y1.2.2.2.1))
    (let y2 := F64.fn ((@id (Ndt) (xsAt Nd y1.1 (Int.toNat y1.2.2.2.2.1))), y1.2.1, ())
    .leaf [F64.pre ((@id (Ndt) (xsAt Nd y1.1 (Int.toNat y1.2.2.2.2.1))), y1.2.1, ()), 0 ≤ y1.2.2.2.2.1, y1.2.2.2.2.1 < Int.ofNat (List.length y1.1)] (y1.2.2.2.2.1, (y2.1 == (0 : Int)), ()))
    (.leaf [] (y1.2.2.2.2.1, false, ()))
abbrev F63_64A : List AT := [.v (.one (.row Nd)), .v (.one (.int .i64)), .f 64]
abbrev F63_64B : List AT := [.v (.one (.int .i64)), .v (.one .bool)]
noncomputable def F63_64R : List (Nat × Rule) := [(0, ruleOf F63_64L0S F63_64L0X F63_64L0)]
theorem F63_64L0is : ∀ x, DT.Is (runL Tryz.prog cfg32 1000 (lsOf F63_64R) 63 0 F63_64L0S F63_64L0X x) (F63_64L0 x) := fun x => by unfold DT.Is; kernel_rfl
theorem F63_64is : ∀ x, DT.Is (runF Tryz.prog cfg32 1000 (lsOf F63_64R) 63 F63_64A F63_64B x) (F63_64 x) := fun x => by unfold DT.Is; kernel_rfl
noncomputable def F63_64.fn (x : List Ndt × Int × Unit × Unit) : Int × Bool × Unit := (F63_64 x).fn
noncomputable def F63_64.pre (x : List Ndt × Int × Unit × Unit) : Prop := (F63_64 x).pre
theorem F63_64ok : DataOk Tryz.prog 63 F63_64A F63_64B F63_64.pre F63_64.fn := data_of_tree F63_64A F63_64B F63_64 cfg32ok (.of_all cfg32ok (.cons (rule_of_tree F63_64L0S F63_64L0X F63_64L0 (F63_64L0is)) .nil)) F63_64is
noncomputable def F63_64C : Con Tryz.prog := conD 63 F63_64A F63_64B F63_64.pre F63_64.fn F63_64ok (by kernel_rfl)
noncomputable def cfgL33 : List (Con Tryz.prog) := F63_64C :: cfgL32
noncomputable def cfg33 : Cfg := cfgOf cfgL33
theorem cfg33ok : CfgOk Tryz.prog cfg33 := cfgOf_ok cfgnamed cfgmixed _
/-! 35 veneer/seen.node -/
noncomputable def F35 (x : Wdt × Spt × Unit) : DT (Ndt × Unit) :=
  let y0 := F63_64.fn ((@id (Dkt) (xsAt Dk x.1.2.2.1 (Int.toNat x.2.1.1))).2.2.2, x.2.1.2, (), ())
  .node [F63_64.pre ((@id (Dkt) (xsAt Dk x.1.2.2.1 (Int.toNat x.2.1.1))).2.2.2, x.2.1.2, (), ()), 0 ≤ x.2.1.1, x.2.1.1 < Int.ofNat (List.length x.1.2.2.1)] (!y0.2.1)
    (.leaf [] (((0 : Int), ((0 : Int), ((0 : Int), ((0 : Int), ((0 : Int), ([], ((dec 0 0 []), []))))))), ()))
    (.leaf [0 ≤ y0.1, y0.1 < Int.ofNat (List.length (@id (Dkt) (xsAt Dk x.1.2.2.1 (Int.toNat x.2.1.1))).2.2.2)] ((@id (Ndt) (xsAt Nd (@id (Dkt) (xsAt Dk x.1.2.2.1 (Int.toNat x.2.1.1))).2.2.2 (Int.toNat y0.1))), ()))
abbrev F35A : List AT := [.v (.agg Wd), .v (.agg Sp)]
abbrev F35B : List AT := [.v (.agg Nd)]
theorem F35is : ∀ x, DT.Is (runF Tryz.prog cfg33 1000 noL 35 F35A F35B x) (F35 x) := fun x => by unfold DT.Is; kernel_rfl
noncomputable def F35.fn (x : Wdt × Spt × Unit) : Ndt × Unit := (F35 x).fn
noncomputable def F35.pre (x : Wdt × Spt × Unit) : Prop := (F35 x).pre
theorem F35ok : DataOk Tryz.prog 35 F35A F35B F35.pre F35.fn := data_of_tree F35A F35B F35 cfg33ok FnLoops.none F35is
noncomputable def F35C : Con Tryz.prog := conD 35 F35A F35B F35.pre F35.fn F35ok (by kernel_rfl)
noncomputable def cfgL34 : List (Con Tryz.prog) := F35C :: cfgL33
noncomputable def cfg34 : Cfg := cfgOf cfgL34
theorem cfg34ok : CfgOk Tryz.prog cfg34 := cfgOf_ok cfgnamed cfgmixed _
/-! 121 cmp.isNaN[string] -/
noncomputable def F121 (x : List UInt8 × Unit) : DT (Bool × Unit) :=
  .leaf [] ((!(x.1 == x.1)), ())
abbrev F121A : List AT := [.v (.one .str)]
abbrev F121B : List AT := [.v (.one .bool)]
theorem F121is : ∀ x, DT.Is (runF Tryz.prog cfg34 1000 noL 121 F121A F121B x) (F121 x) := fun x => by unfold DT.Is; kernel_rfl
noncomputable def F121.fn (x : List UInt8 × Unit) : Bool × Unit := (F121 x).fn
noncomputable def F121.pre (x : List UInt8 × Unit) : Prop := (F121 x).pre
theorem F121ok : DataOk Tryz.prog 121 F121A F121B F121.pre F121.fn := data_of_tree F121A F121B F121 cfg34ok FnLoops.none F121is
noncomputable def F121C : Con Tryz.prog := conD 121 F121A F121B F121.pre F121.fn F121ok (by kernel_rfl)
noncomputable def cfgL35 : List (Con Tryz.prog) := F121C :: cfgL34
noncomputable def cfg35 : Cfg := cfgOf cfgL35
theorem cfg35ok : CfgOk Tryz.prog cfg35 := cfgOf_ok cfgnamed cfgmixed _
/-! 115 cmp.Compare[string] -/
noncomputable def F115 (x : List UInt8 × List UInt8 × Unit) : DT (Int × Unit) :=
  let y0 := F121.fn (x.1, ())
  let y1 := F121.fn (x.2.1, ())
  .node [F121.pre (x.2.1, ()), F121.pre (x.1, ())] y0.1
    (.node [] y1.1
      (.leaf [] ((0 : Int), ()))
      (.leaf [] ((-1 : Int), ())))
    (.node [] y1.1
      (.leaf [] ((1 : Int), ()))
      (.node [] (Op.bytesLess x.1 x.2.1)
        (.leaf [] ((-1 : Int), ()))
        (.node [] (!(Op.bytesLess x.1 x.2.1 || x.1 == x.2.1))
          (.leaf [] ((1 : Int), ()))
          (.leaf [] ((0 : Int), ())))))
abbrev F115A : List AT := [.v (.one .str), .v (.one .str)]
abbrev F115B : List AT := [.v (.one (.int .i64))]
theorem F115is : ∀ x, DT.Is (runF Tryz.prog cfg35 1000 noL 115 F115A F115B x) (F115 x) := fun x => by unfold DT.Is; kernel_rfl
noncomputable def F115.fn (x : List UInt8 × List UInt8 × Unit) : Int × Unit := (F115 x).fn
noncomputable def F115.pre (x : List UInt8 × List UInt8 × Unit) : Prop := (F115 x).pre
theorem F115ok : DataOk Tryz.prog 115 F115A F115B F115.pre F115.fn := data_of_tree F115A F115B F115 cfg35ok FnLoops.none F115is
noncomputable def F115C : Con Tryz.prog := conD 115 F115A F115B F115.pre F115.fn F115ok (by kernel_rfl)
noncomputable def cfgL36 : List (Con Tryz.prog) := F115C :: cfgL35
noncomputable def cfg36 : Cfg := cfgOf cfgL36
theorem cfg36ok : CfgOk Tryz.prog cfg36 := cfgOf_ok cfgnamed cfgmixed _
/-! 114 veneer/find.place$1 -/
noncomputable def F114 (x : Nmt × List UInt8 × Unit) : DT (Int × Unit) :=
  let y0 := F115.fn (x.1.1, x.2.1, ())
  .leaf [F115.pre (x.1.1, x.2.1, ())] (y0.1, ())
abbrev F114A : List AT := [.v (.agg Nm), .v (.one .str)]
abbrev F114B : List AT := [.v (.one (.int .i64))]
theorem F114is : ∀ x, DT.Is (runF Tryz.prog cfg36 1000 noL 114 F114A F114B x) (F114 x) := fun x => by unfold DT.Is; kernel_rfl
noncomputable def F114.fn (x : Nmt × List UInt8 × Unit) : Int × Unit := (F114 x).fn
noncomputable def F114.pre (x : Nmt × List UInt8 × Unit) : Prop := (F114 x).pre
theorem F114ok : DataOk Tryz.prog 114 F114A F114B F114.pre F114.fn := data_of_tree F114A F114B F114 cfg36ok FnLoops.none F114is
noncomputable def F114C : Con Tryz.prog := conD 114 F114A F114B F114.pre F114.fn F114ok (by kernel_rfl)
noncomputable def cfgL37 : List (Con Tryz.prog) := F114C :: cfgL36
noncomputable def cfg37 : Cfg := cfgOf cfgL37
theorem cfg37ok : CfgOk Tryz.prog cfg37 := cfgOf_ok cfgnamed cfgmixed _
/-! 113 slices.BinarySearchFunc[[]veneer/api.Name,veneer/api.Name,string] -/
def F113_114L0S : Shape := ⟨[(0, .v (.one (.row Nm))), (1, .v (.one .str)), (2, .val (.fn 114 [] [])), (8, .v (.one (.int .i64))), (9, .v (.one (.int .i64))), (10, .v (.one (.int .i64)))], [], 0⟩
def F113_114L0S0 : Shape := ⟨[(0, .v (.one (.row Nm))), (1, .v (.one .str)), (2, .val (.fn 114 [] [])), (8, .v (.one (.int .i64))), (9, .v (.one (.int .i64)))], [], 0⟩
def F113_114L0X : List (Option Nat × Shape) := [(some 0, F113_114L0S0)]
noncomputable def F113_114L0 (x : List Nmt × List UInt8 × Unit × Int × Int × Int × Unit) : DT ((List Nmt × List UInt8 × Unit × Int × Int × Int × Unit) ⊕ ((List Nmt × List UInt8 × Unit × Int × Int × Unit) ⊕ Empty)) :=
  .node [] (decide (x.2.2.2.2.1 < x.2.2.2.2.2.1))
    (let y0 := F114.fn ((@id (Nmt) (xsAt Nm x.1 (Int.toNat (wrp .i64 (shrI .u64 (wrp .u64 (wrp .i64 (x.2.2.2.2.1 + x.2.2.2.2.2.1))) (1 : Int)))))), x.2.1, ())
    .node [F114.pre ((@id (Nmt) (xsAt Nm x.1 (Int.toNat (wrp .i64 (shrI .u64 (wrp .u64 (wrp .i64 (x.2.2.2.2.1 + x.2.2.2.2.2.1))) (1 : Int)))))), x.2.1, ()), 0 ≤ (wrp .i64 (shrI .u64 (wrp .u64 (wrp .i64 (x.2.2.2.2.1 + x.2.2.2.2.2.1))) (1 : Int))), (wrp .i64 (shrI .u64 (wrp .u64 (wrp .i64 (x.2.2.2.2.1 + x.2.2.2.2.2.1))) (1 : Int))) < Int.ofNat (List.length x.1), 0 ≤ (1 : Int), wrp .u64 (shrI .u64 (wrp .u64 (wrp .i64 (x.2.2.2.2.1 + x.2.2.2.2.2.1))) (1 : Int)) = shrI .u64 (wrp .u64 (wrp .i64 (x.2.2.2.2.1 + x.2.2.2.2.2.1))) (1 : Int)] (decide (y0.1 < (0 : Int)))
      (.leaf [] (.inl (x.1, x.2.1, (), x.2.2.2.1, (wrp .i64 ((wrp .i64 (shrI .u64 (wrp .u64 (wrp .i64 (x.2.2.2.2.1 + x.2.2.2.2.2.1))) (1 : Int))) + (1 : Int))), x.2.2.2.2.2.1, ())))
      (.leaf [] (.inl (x.1, x.2.1, (), x.2.2.2.1, x.2.2.2.2.1, (wrp .i64 (shrI .u64 (wrp .u64 (wrp .i64 (x.2.2.2.2.1 + x.2.2.2.2.2.1))) (1 : Int))), ()))))
    (.leaf [] (.inr (.inl (x.1, x.2.1, (), x.2.2.2.1, x.2.2.2.2.1, ()))))
noncomputable def F113_114 (x : List Nmt × List UInt8 × Unit × Unit) : DT (Int × Bool × Unit) :=
  let y0 := loopOut F113_114L0 (x.1, x.2.1, (), (Int.ofNat (List.length x.1)), (0 : Int), (Int.ofNat (List.length x.1)), ())
  let y1 : List Nmt × List UInt8 × Unit × Int × Int × Unit := getL (Shape.z F113_114L0S0) y0
  .node [loopInv F113_114L0 (x.1, x.2.1, (), (Int.ofNat (List.length x.1)), (0 : Int), (Int.ofNat (List.length x.1)), ())] (decide (y1.2.2.2.2.1 < y1.2.2.2.1))
    (let y2 := F114.fn ((@id (Nmt) (xsAt Nm y1.1 (Int.toNat y1.2.2.2.2.1))), y1.2.1, ())
    .leaf [F114.pre ((@id (Nmt) (xsAt Nm y1.1 (Int.toNat y1.2.2.2.2.1))), y1.2.1, ()), 0 ≤ y1.2.2.2.2.1, y1.2.2.2.2.1 < Int.ofNat (List.length y1.1)] (y1.2.2.2.2.1, (y2.1 == (0 : Int)), ()))
    (.leaf [] (y1.2.2.2.2.1, false, ()))
abbrev F113_114A : List AT := [.v (.one (.row Nm)), .v (.one .str), .f 114]
abbrev F113_114B : List AT := [.v (.one (.int .i64)), .v (.one .bool)]
noncomputable def F113_114R : List (Nat × Rule) := [(0, ruleOf F113_114L0S F113_114L0X F113_114L0)]
theorem F113_114L0is : ∀ x, DT.Is (runL Tryz.prog cfg37 1000 (lsOf F113_114R) 113 0 F113_114L0S F113_114L0X x) (F113_114L0 x) := fun x => by unfold DT.Is; kernel_rfl
theorem F113_114is : ∀ x, DT.Is (runF Tryz.prog cfg37 1000 (lsOf F113_114R) 113 F113_114A F113_114B x) (F113_114 x) := fun x => by unfold DT.Is; kernel_rfl
noncomputable def F113_114.fn (x : List Nmt × List UInt8 × Unit × Unit) : Int × Bool × Unit := (F113_114 x).fn
noncomputable def F113_114.pre (x : List Nmt × List UInt8 × Unit × Unit) : Prop := (F113_114 x).pre
theorem F113_114ok : DataOk Tryz.prog 113 F113_114A F113_114B F113_114.pre F113_114.fn := data_of_tree F113_114A F113_114B F113_114 cfg37ok (.of_all cfg37ok (.cons (rule_of_tree F113_114L0S F113_114L0X F113_114L0 (F113_114L0is)) .nil)) F113_114is
noncomputable def F113_114C : Con Tryz.prog := conD 113 F113_114A F113_114B F113_114.pre F113_114.fn F113_114ok (by kernel_rfl)
noncomputable def cfgL38 : List (Con Tryz.prog) := F113_114C :: cfgL37
noncomputable def cfg38 : Cfg := cfgOf cfgL38
theorem cfg38ok : CfgOk Tryz.prog cfg38 := cfgOf_ok cfgnamed cfgmixed _
/-! 91 veneer/find.place -/
noncomputable def F91 (x : Ndt × List UInt8 × Unit) : DT (Int × Bool × Unit) :=
  let y0 := F113_114.fn (x.1.2.2.2.2.2.2.2, x.2.1, (), ())
  .leaf [F113_114.pre (x.1.2.2.2.2.2.2.2, x.2.1, (), ())] (y0.1, y0.2.1, ())
abbrev F91A : List AT := [.v (.agg Nd), .v (.one .str)]
abbrev F91B : List AT := [.v (.one (.int .i64)), .v (.one .bool)]
theorem F91is : ∀ x, DT.Is (runF Tryz.prog cfg38 1000 noL 91 F91A F91B x) (F91 x) := fun x => by unfold DT.Is; kernel_rfl
noncomputable def F91.fn (x : Ndt × List UInt8 × Unit) : Int × Bool × Unit := (F91 x).fn
noncomputable def F91.pre (x : Ndt × List UInt8 × Unit) : Prop := (F91 x).pre
theorem F91ok : DataOk Tryz.prog 91 F91A F91B F91.pre F91.fn := data_of_tree F91A F91B F91 cfg38ok FnLoops.none F91is
noncomputable def F91C : Con Tryz.prog := conD 91 F91A F91B F91.pre F91.fn F91ok (by kernel_rfl)
noncomputable def cfgL39 : List (Con Tryz.prog) := F91C :: cfgL38
noncomputable def cfg39 : Cfg := cfgOf cfgL39
theorem cfg39ok : CfgOk Tryz.prog cfg39 := cfgOf_ok cfgnamed cfgmixed _
/-! 62 veneer/find.Name -/
noncomputable def F62 (x : Ndt × List UInt8 × Unit) : DT (Int × Bool × Unit) :=
  let y0 := F91.fn (x.1, x.2.1, ())
  .node [F91.pre (x.1, x.2.1, ())] (!y0.2.1)
    (.leaf [] ((0 : Int), false, ()))
    (.leaf [0 ≤ y0.1, y0.1 < Int.ofNat (List.length x.1.2.2.2.2.2.2.2)] ((@id (Nmt) (xsAt Nm x.1.2.2.2.2.2.2.2 (Int.toNat y0.1))).2, true, ()))
abbrev F62A : List AT := [.v (.agg Nd), .v (.one .str)]
abbrev F62B : List AT := [.v (.one (.int .i64)), .v (.one .bool)]
theorem F62is : ∀ x, DT.Is (runF Tryz.prog cfg39 1000 noL 62 F62A F62B x) (F62 x) := fun x => by unfold DT.Is; kernel_rfl
noncomputable def F62.fn (x : Ndt × List UInt8 × Unit) : Int × Bool × Unit := (F62 x).fn
noncomputable def F62.pre (x : Ndt × List UInt8 × Unit) : Prop := (F62 x).pre
theorem F62ok : DataOk Tryz.prog 62 F62A F62B F62.pre F62.fn := data_of_tree F62A F62B F62 cfg39ok FnLoops.none F62is
noncomputable def F62C : Con Tryz.prog := conD 62 F62A F62B F62.pre F62.fn F62ok (by kernel_rfl)
noncomputable def cfgL40 : List (Con Tryz.prog) := F62C :: cfgL39
noncomputable def cfg40 : Cfg := cfgOf cfgL40
theorem cfg40ok : CfgOk Tryz.prog cfg40 := cfgOf_ok cfgnamed cfgmixed _
/-! 104 veneer/conf.is -/
noncomputable def F104 (x : Cft × Int × Int × Unit) : DT (Bool × Unit) :=
  .node [] (decide (x.2.1 ≥ (0 : Int)))
    (.node [] (decide (x.2.1 < (Int.ofNat (List.length x.1.1))))
      (.leaf [0 ≤ x.2.1, x.2.1 < Int.ofNat (List.length x.1.1)] (((@id (Int) (xsAt (.one (.int .i64)) x.1.1 (Int.toNat x.2.1))) == x.2.2.1), ()))
      (.leaf [] (false, ())))
    (.leaf [] (false, ()))
abbrev F104A : List AT := [.v (.agg Cf), .v (.one (.int .i64)), .v (.one (.int .i64))]
abbrev F104B : List AT := [.v (.one .bool)]
theorem F104is : ∀ x, DT.Is (runF Tryz.prog cfg40 1000 noL 104 F104A F104B x) (F104 x) := fun x => by unfold DT.Is; kernel_rfl
noncomputable def F104.fn (x : Cft × Int × Int × Unit) : Bool × Unit := (F104 x).fn
noncomputable def F104.pre (x : Cft × Int × Int × Unit) : Prop := (F104 x).pre
theorem F104ok : DataOk Tryz.prog 104 F104A F104B F104.pre F104.fn := data_of_tree F104A F104B F104 cfg40ok FnLoops.none F104is
noncomputable def F104C : Con Tryz.prog := conD 104 F104A F104B F104.pre F104.fn F104ok (by kernel_rfl)
noncomputable def cfgL41 : List (Con Tryz.prog) := F104C :: cfgL40
noncomputable def cfg41 : Cfg := cfgOf cfgL41
theorem cfg41ok : CfgOk Tryz.prog cfg41 := cfgOf_ok cfgnamed cfgmixed _
/-! 72 veneer/conf.Heeds -/
noncomputable def F72 (x : Cft × Int × Unit) : DT (Bool × Unit) :=
  let y0 := F104.fn (x.1, x.2.1, (1 : Int), ())
  .node [F104.pre (x.1, x.2.1, (1 : Int), ())] y0.1
    (.leaf [] (true, ()))
    (let y1 := F104.fn (x.1, x.2.1, (3 : Int), ())
    .leaf [F104.pre (x.1, x.2.1, (3 : Int), ())] (y1.1, ()))
abbrev F72A : List AT := [.v (.agg Cf), .v (.one (.int .i64))]
abbrev F72B : List AT := [.v (.one .bool)]
theorem F72is : ∀ x, DT.Is (runF Tryz.prog cfg41 1000 noL 72 F72A F72B x) (F72 x) := fun x => by unfold DT.Is; kernel_rfl
noncomputable def F72.fn (x : Cft × Int × Unit) : Bool × Unit := (F72 x).fn
noncomputable def F72.pre (x : Cft × Int × Unit) : Prop := (F72 x).pre
theorem F72ok : DataOk Tryz.prog 72 F72A F72B F72.pre F72.fn := data_of_tree F72A F72B F72 cfg41ok FnLoops.none F72is
noncomputable def F72C : Con Tryz.prog := conD 72 F72A F72B F72.pre F72.fn F72ok (by kernel_rfl)
noncomputable def cfgL42 : List (Con Tryz.prog) := F72C :: cfgL41
noncomputable def cfg42 : Cfg := cfgOf cfgL42
theorem cfg42ok : CfgOk Tryz.prog cfg42 := cfgOf_ok cfgnamed cfgmixed _
/-! 46 veneer/seen.has -/
noncomputable def F46 (x : Wdt × Spt × List UInt8 × Unit) : DT (Bool × Unit) :=
  let y0 := F35.fn (x.1, x.2.1, ())
  let y1 := F62.fn (y0.1, x.2.2.1, ())
  .node [F62.pre (y0.1, x.2.2.1, ()), F35.pre (x.1, x.2.1, ())] y1.2.1
    (.node [] (y0.1.2.1 == (2 : Int))
      (let y2 := F72.fn ((x.1.1, x.1.2.1), x.2.1.1, ())
      .leaf [F72.pre ((x.1.1, x.1.2.1), x.2.1.1, ())] (y2.1, ()))
      (.leaf [] (false, ())))
    (.leaf [] (false, ()))
abbrev F46A : List AT := [.v (.agg Wd), .v (.agg Sp), .v (.one .str)]
abbrev F46B : List AT := [.v (.one .bool)]
theorem F46is : ∀ x, DT.Is (runF Tryz.prog cfg42 1000 noL 46 F46A F46B x) (F46 x) := fun x => by unfold DT.Is; kernel_rfl
noncomputable def F46.fn (x : Wdt × Spt × List UInt8 × Unit) : Bool × Unit := (F46 x).fn
noncomputable def F46.pre (x : Wdt × Spt × List UInt8 × Unit) : Prop := (F46 x).pre
theorem F46ok : DataOk Tryz.prog 46 F46A F46B F46.pre F46.fn := data_of_tree F46A F46B F46 cfg42ok FnLoops.none F46is
noncomputable def F46C : Con Tryz.prog := conD 46 F46A F46B F46.pre F46.fn F46ok (by kernel_rfl)
noncomputable def cfgL43 : List (Con Tryz.prog) := F46C :: cfgL42
noncomputable def cfg43 : Cfg := cfgOf cfgL43
theorem cfg43ok : CfgOk Tryz.prog cfg43 := cfgOf_ok cfgnamed cfgmixed _
/-! 47 veneer/mark.White -/
noncomputable def F47 (x : List UInt8 × Unit) : DT (List UInt8 × Unit) :=
  .leaf [List.length (dec 4 779577390 []) + List.length x.1 ≤ Room] (((dec 4 779577390 []) ++ x.1), ())
abbrev F47A : List AT := [.v (.one .str)]
abbrev F47B : List AT := [.v (.one .str)]
theorem F47is : ∀ x, DT.Is (runF Tryz.prog cfg43 1000 noL 47 F47A F47B x) (F47 x) := fun x => by unfold DT.Is; kernel_rfl
noncomputable def F47.fn (x : List UInt8 × Unit) : List UInt8 × Unit := (F47 x).fn
noncomputable def F47.pre (x : List UInt8 × Unit) : Prop := (F47 x).pre
theorem F47ok : DataOk Tryz.prog 47 F47A F47B F47.pre F47.fn := data_of_tree F47A F47B F47 cfg43ok FnLoops.none F47is
noncomputable def F47C : Con Tryz.prog := conD 47 F47A F47B F47.pre F47.fn F47ok (by kernel_rfl)
noncomputable def cfgL44 : List (Con Tryz.prog) := F47C :: cfgL43
noncomputable def cfg44 : Cfg := cfgOf cfgL44
theorem cfg44ok : CfgOk Tryz.prog cfg44 := cfgOf_ok cfgnamed cfgmixed _
/-! 34 veneer/seen.scan -/
def F34L0S : Shape := ⟨[(2, .v (.one .str)), (3, .val (.ptr 0 0)), (6, .own Sp), (14, .v (.one (.row Sp))), (15, .v (.one (.int .i64))), (16, .v (.one (.int .i64)))], [(0, 7, [.v (.one (.row (.one (.int .i64)))), .v (.one (.int .i64)), .v (.one (.row Dk)), .v (.one (.int .i64)), .v (.one (.row Rw)), .v (.one (.row Rw)), .v (.one (.int .i64))])], 1⟩
def F34L0S0 : Shape := ⟨[(6, .own Sp), (7, .v (.one (.int .i64)))], [], 1⟩
def F34L0S1 : Shape := ⟨[(3, .val (.ptr 0 0)), (6, .own Sp)], [(0, 7, [.v (.one (.row (.one (.int .i64)))), .v (.one (.int .i64)), .v (.one (.row Dk)), .v (.one (.int .i64)), .v (.one (.row Rw)), .v (.one (.row Rw)), .v (.one (.int .i64))])], 1⟩
def F34L0X : List (Option Nat × Shape) := [(none, F34L0S0), (some 0, F34L0S1)]
noncomputable def F34L0 (x : List UInt8 × Unit × List Spt × List Spt × Int × Int × List (Int) × Int × List Dkt × Int × List Rwt × List Rwt × Int × Unit) : DT ((List UInt8 × Unit × List Spt × List Spt × Int × Int × List (Int) × Int × List Dkt × Int × List Rwt × List Rwt × Int × Unit) ⊕ ((List Spt × Int × Unit) ⊕ (Unit × List Spt × List (Int) × Int × List Dkt × Int × List Rwt × List Rwt × Int × Unit) ⊕ Empty)) :=
  .node [] (decide (x.2.2.2.2.2.1 < x.2.2.2.2.1))
    (let y0 := F35.fn ((x.2.2.2.2.2.2.1, (x.2.2.2.2.2.2.2.1, (x.2.2.2.2.2.2.2.2.1, (x.2.2.2.2.2.2.2.2.2.1, (x.2.2.2.2.2.2.2.2.2.2.1, (x.2.2.2.2.2.2.2.2.2.2.2.1, x.2.2.2.2.2.2.2.2.2.2.2.2.1)))))), (@id (Spt) (xsAt Sp x.2.2.2.1 (Int.toNat x.2.2.2.2.2.1))), ())
    let y1 := F62.fn (y0.1, x.1, ())
    .node [F62.pre (y0.1, x.1, ()), F35.pre ((x.2.2.2.2.2.2.1, (x.2.2.2.2.2.2.2.1, (x.2.2.2.2.2.2.2.2.1, (x.2.2.2.2.2.2.2.2.2.1, (x.2.2.2.2.2.2.2.2.2.2.1, (x.2.2.2.2.2.2.2.2.2.2.2.1, x.2.2.2.2.2.2.2.2.2.2.2.2.1)))))), (@id (Spt) (xsAt Sp x.2.2.2.1 (Int.toNat x.2.2.2.2.2.1))), ()), 0 ≤ x.2.2.2.2.2.1, x.2.2.2.2.2.1 < Int.ofNat (List.length x.2.2.2.1)] y1.2.1
      (let y2 := F35.fn ((x.2.2.2.2.2.2.1, (x.2.2.2.2.2.2.2.1, (x.2.2.2.2.2.2.2.2.1, (x.2.2.2.2.2.2.2.2.2.1, (x.2.2.2.2.2.2.2.2.2.2.1, (x.2.2.2.2.2.2.2.2.2.2.2.1, x.2.2.2.2.2.2.2.2.2.2.2.2.1)))))), ((@id (Spt) (xsAt Sp x.2.2.2.1 (Int.toNat x.2.2.2.2.2.1))).1, y1.1), ())
      .node [F35.pre ((x.2.2.2.2.2.2.1, (x.2.2.2.2.2.2.2.1, (x.2.2.2.2.2.2.2.2.1, (x.2.2.2.2.2.2.2.2.2.1, (x.2.2.2.2.2.2.2.2.2.2.1, (x.2.2.2.2.2.2.2.2.2.2.2.1, x.2.2.2.2.2.2.2.2.2.2.2.2.1)))))), ((@id (Spt) (xsAt Sp x.2.2.2.1 (Int.toNat x.2.2.2.2.2.1))).1, y1.1), ())] (y2.1.2.1 == (2 : Int))
        (.node [(List.length (x.2.2.1 ++ (((@id (Spt) (xsAt Sp x.2.2.2.1 (Int.toNat x.2.2.2.2.2.1))).1, y1.1) :: []))) * 16 ≤ Room] (!(y2.1.2.1 == (2 : Int)))
          (.leaf [] (.inr (.inl ((x.2.2.1 ++ (((@id (Spt) (xsAt Sp x.2.2.2.1 (Int.toNat x.2.2.2.2.2.1))).1, y1.1) :: [])), (wrp .i64 ((@id (Spt) (xsAt Sp x.2.2.2.1 (Int.toNat x.2.2.2.2.2.1))).1 - (1 : Int))), ()))))
          (let y3 := F46.fn ((x.2.2.2.2.2.2.1, (x.2.2.2.2.2.2.2.1, (x.2.2.2.2.2.2.2.2.1, (x.2.2.2.2.2.2.2.2.2.1, (x.2.2.2.2.2.2.2.2.2.2.1, (x.2.2.2.2.2.2.2.2.2.2.2.1, x.2.2.2.2.2.2.2.2.2.2.2.2.1)))))), ((@id (Spt) (xsAt Sp x.2.2.2.1 (Int.toNat x.2.2.2.2.2.1))).1, y1.1), (dec 12 14380664602328719262401654897 []), ())
          .node [F46.pre ((x.2.2.2.2.2.2.1, (x.2.2.2.2.2.2.2.1, (x.2.2.2.2.2.2.2.2.1, (x.2.2.2.2.2.2.2.2.2.1, (x.2.2.2.2.2.2.2.2.2.2.1, (x.2.2.2.2.2.2.2.2.2.2.2.1, x.2.2.2.2.2.2.2.2.2.2.2.2.1)))))), ((@id (Spt) (xsAt Sp x.2.2.2.1 (Int.toNat x.2.2.2.2.2.1))).1, y1.1), (dec 12 14380664602328719262401654897 []), ())] y3.1
            (.leaf [] (.inr (.inl ((x.2.2.1 ++ (((@id (Spt) (xsAt Sp x.2.2.2.1 (Int.toNat x.2.2.2.2.2.1))).1, y1.1) :: [])), (@id (Spt) (xsAt Sp x.2.2.2.1 (Int.toNat x.2.2.2.2.2.1))).1, ()))))
            (let y4 := F47.fn (x.1, ())
            let y5 := F46.fn ((x.2.2.2.2.2.2.1, (x.2.2.2.2.2.2.2.1, (x.2.2.2.2.2.2.2.2.1, (x.2.2.2.2.2.2.2.2.2.1, (x.2.2.2.2.2.2.2.2.2.2.1, (x.2.2.2.2.2.2.2.2.2.2.2.1, x.2.2.2.2.2.2.2.2.2.2.2.2.1)))))), (@id (Spt) (xsAt Sp x.2.2.2.1 (Int.toNat x.2.2.2.2.2.1))), y4.1, ())
            .node [F46.pre ((x.2.2.2.2.2.2.1, (x.2.2.2.2.2.2.2.1, (x.2.2.2.2.2.2.2.2.1, (x.2.2.2.2.2.2.2.2.2.1, (x.2.2.2.2.2.2.2.2.2.2.1, (x.2.2.2.2.2.2.2.2.2.2.2.1, x.2.2.2.2.2.2.2.2.2.2.2.2.1)))))), (@id (Spt) (xsAt Sp x.2.2.2.1 (Int.toNat x.2.2.2.2.2.1))), y4.1, ()), F47.pre (x.1, ()), (let r : List AV := [.agg [.x (.row (.one (.int .i64)) x.2.2.2.2.2.2.1), .x (.i .i64 x.2.2.2.2.2.2.2.1), .x (.row Dk x.2.2.2.2.2.2.2.2.1), .x (.i .i64 x.2.2.2.2.2.2.2.2.2.1), .x (.row (.cons (.int .i64) Sp) x.2.2.2.2.2.2.2.2.2.2.1), .x (.row (.cons (.int .i64) Sp) x.2.2.2.2.2.2.2.2.2.2.2.1), .x (.i .i64 x.2.2.2.2.2.2.2.2.2.2.2.2.1)]]; r = r), (let r : List AV := [.agg [.x (.i .i64 (@id (Spt) (xsAt Sp x.2.2.2.1 (Int.toNat x.2.2.2.2.2.1))).1), .x (.i .i64 (@id (Spt) (xsAt Sp x.2.2.2.1 (Int.toNat x.2.2.2.2.2.1))).2)]]; r = r)] y5.1
              (.leaf [] (.inr (.inl ((x.2.2.1 ++ (((@id (Spt) (xsAt Sp x.2.2.2.1 (Int.toNat x.2.2.2.2.2.1))).1, y1.1) :: [])), (@id (Spt) (xsAt Sp x.2.2.2.1 (Int.toNat x.2.2.2.2.2.1))).1, ()))))
              (.leaf [] (.inl (x.1, (), (x.2.2.1 ++ (((@id (Spt) (xsAt Sp x.2.2.2.1 (Int.toNat x.2.2.2.2.2.1))).1, y1.1) :: [])), x.2.2.2.1, x.2.2.2.2.1, (wrp .i64 (x.2.2.2.2.2.1 + (1 : Int))), x.2.2.2.2.2.2.1, x.2.2.2.2.2.2.2.1, x.2.2.2.2.2.2.2.2.1, x.2.2.2.2.2.2.2.2.2.1, x.2.2.2.2.2.2.2.2.2.2.1, x.2.2.2.2.2.2.2.2.2.2.2.1, x.2.2.2.2.2.2.2.2.2.2.2.2.1, ()))))))
        (.node [] ((Int.ofNat (List.length x.2.2.1)) == (0 : Int))
          (.node [(List.length (x.2.2.1 ++ (((@id (Spt) (xsAt Sp x.2.2.2.1 (Int.toNat x.2.2.2.2.2.1))).1, y1.1) :: []))) * 16 ≤ Room] (!(y2.1.2.1 == (2 : Int)))
            (.leaf [] (.inr (.inl ((x.2.2.1 ++ (((@id (Spt) (xsAt Sp x.2.2.2.1 (Int.toNat x.2.2.2.2.2.1))).1, y1.1) :: [])), (wrp .i64 ((@id (Spt) (xsAt Sp x.2.2.2.1 (Int.toNat x.2.2.2.2.2.1))).1 - (1 : Int))), ()))))
            (let y3 := F46.fn ((x.2.2.2.2.2.2.1, (x.2.2.2.2.2.2.2.1, (x.2.2.2.2.2.2.2.2.1, (x.2.2.2.2.2.2.2.2.2.1, (x.2.2.2.2.2.2.2.2.2.2.1, (x.2.2.2.2.2.2.2.2.2.2.2.1, x.2.2.2.2.2.2.2.2.2.2.2.2.1)))))), ((@id (Spt) (xsAt Sp x.2.2.2.1 (Int.toNat x.2.2.2.2.2.1))).1, y1.1), (dec 12 14380664602328719262401654897 []), ())
            .node [F46.pre ((x.2.2.2.2.2.2.1, (x.2.2.2.2.2.2.2.1, (x.2.2.2.2.2.2.2.2.1, (x.2.2.2.2.2.2.2.2.2.1, (x.2.2.2.2.2.2.2.2.2.2.1, (x.2.2.2.2.2.2.2.2.2.2.2.1, x.2.2.2.2.2.2.2.2.2.2.2.2.1)))))), ((@id (Spt) (xsAt Sp x.2.2.2.1 (Int.toNat x.2.2.2.2.2.1))).1, y1.1), (dec 12 14380664602328719262401654897 []), ())] y3.1
              (.leaf [] (.inr (.inl ((x.2.2.1 ++ (((@id (Spt) (xsAt Sp x.2.2.2.1 (Int.toNat x.2.2.2.2.2.1))).1, y1.1) :: [])), (@id (Spt) (xsAt Sp x.2.2.2.1 (Int.toNat x.2.2.2.2.2.1))).1, ()))))
              (let y4 := F47.fn (x.1, ())
              let y5 := F46.fn ((x.2.2.2.2.2.2.1, (x.2.2.2.2.2.2.2.1, (x.2.2.2.2.2.2.2.2.1, (x.2.2.2.2.2.2.2.2.2.1, (x.2.2.2.2.2.2.2.2.2.2.1, (x.2.2.2.2.2.2.2.2.2.2.2.1, x.2.2.2.2.2.2.2.2.2.2.2.2.1)))))), (@id (Spt) (xsAt Sp x.2.2.2.1 (Int.toNat x.2.2.2.2.2.1))), y4.1, ())
              .node [F46.pre ((x.2.2.2.2.2.2.1, (x.2.2.2.2.2.2.2.1, (x.2.2.2.2.2.2.2.2.1, (x.2.2.2.2.2.2.2.2.2.1, (x.2.2.2.2.2.2.2.2.2.2.1, (x.2.2.2.2.2.2.2.2.2.2.2.1, x.2.2.2.2.2.2.2.2.2.2.2.2.1)))))), (@id (Spt) (xsAt Sp x.2.2.2.1 (Int.toNat x.2.2.2.2.2.1))), y4.1, ()), F47.pre (x.1, ()), (let r : List AV := [.agg [.x (.row (.one (.int .i64)) x.2.2.2.2.2.2.1), .x (.i .i64 x.2.2.2.2.2.2.2.1), .x (.row Dk x.2.2.2.2.2.2.2.2.1), .x (.i .i64 x.2.2.2.2.2.2.2.2.2.1), .x (.row (.cons (.int .i64) Sp) x.2.2.2.2.2.2.2.2.2.2.1), .x (.row (.cons (.int .i64) Sp) x.2.2.2.2.2.2.2.2.2.2.2.1), .x (.i .i64 x.2.2.2.2.2.2.2.2.2.2.2.2.1)]]; r = r), (let r : List AV := [.agg [.x (.i .i64 (@id (Spt) (xsAt Sp x.2.2.2.1 (Int.toNat x.2.2.2.2.2.1))).1), .x (.i .i64 (@id (Spt) (xsAt Sp x.2.2.2.1 (Int.toNat x.2.2.2.2.2.1))).2)]]; r = r)] y5.1
                (.leaf [] (.inr (.inl ((x.2.2.1 ++ (((@id (Spt) (xsAt Sp x.2.2.2.1 (Int.toNat x.2.2.2.2.2.1))).1, y1.1) :: [])), (@id (Spt) (xsAt Sp x.2.2.2.1 (Int.toNat x.2.2.2.2.2.1))).1, ()))))
                (.leaf [] (.inl (x.1, (), (x.2.2.1 ++ (((@id (Spt) (xsAt Sp x.2.2.2.1 (Int.toNat x.2.2.2.2.2.1))).1, y1.1) :: [])), x.2.2.2.1, x.2.2.2.2.1, (wrp .i64 (x.2.2.2.2.2.1 + (1 : Int))), x.2.2.2.2.2.2.1, x.2.2.2.2.2.2.2.1, x.2.2.2.2.2.2.2.2.1, x.2.2.2.2.2.2.2.2.2.1, x.2.2.2.2.2.2.2.2.2.2.1, x.2.2.2.2.2.2.2.2.2.2.2.1, x.2.2.2.2.2.2.2.2.2.2.2.2.1, ()))))))
          (.node [] (!(y2.1.2.1 == (2 : Int)))
            (.leaf [] (.inr (.inl (x.2.2.1, (wrp .i64 ((@id (Spt) (xsAt Sp x.2.2.2.1 (Int.toNat x.2.2.2.2.2.1))).1 - (1 : Int))), ()))))
            (let y3 := F46.fn ((x.2.2.2.2.2.2.1, (x.2.2.2.2.2.2.2.1, (x.2.2.2.2.2.2.2.2.1, (x.2.2.2.2.2.2.2.2.2.1, (x.2.2.2.2.2.2.2.2.2.2.1, (x.2.2.2.2.2.2.2.2.2.2.2.1, x.2.2.2.2.2.2.2.2.2.2.2.2.1)))))), ((@id (Spt) (xsAt Sp x.2.2.2.1 (Int.toNat x.2.2.2.2.2.1))).1, y1.1), (dec 12 14380664602328719262401654897 []), ())
            .node [F46.pre ((x.2.2.2.2.2.2.1, (x.2.2.2.2.2.2.2.1, (x.2.2.2.2.2.2.2.2.1, (x.2.2.2.2.2.2.2.2.2.1, (x.2.2.2.2.2.2.2.2.2.2.1, (x.2.2.2.2.2.2.2.2.2.2.2.1, x.2.2.2.2.2.2.2.2.2.2.2.2.1)))))), ((@id (Spt) (xsAt Sp x.2.2.2.1 (Int.toNat x.2.2.2.2.2.1))).1, y1.1), (dec 12 14380664602328719262401654897 []), ())] y3.1
              (.leaf [] (.inr (.inl (x.2.2.1, (@id (Spt) (xsAt Sp x.2.2.2.1 (Int.toNat x.2.2.2.2.2.1))).1, ()))))
              (let y4 := F47.fn (x.1, ())
              let y5 := F46.fn ((x.2.2.2.2.2.2.1, (x.2.2.2.2.2.2.2.1, (x.2.2.2.2.2.2.2.2.1, (x.2.2.2.2.2.2.2.2.2.1, (x.2.2.2.2.2.2.2.2.2.2.1, (x.2.2.2.2.2.2.2.2.2.2.2.1, x.2.2.2.2.2.2.2.2.2.2.2.2.1)))))), (@id (Spt) (xsAt Sp x.2.2.2.1 (Int.toNat x.2.2.2.2.2.1))), y4.1, ())
              .node [F46.pre ((x.2.2.2.2.2.2.1, (x.2.2.2.2.2.2.2.1, (x.2.2.2.2.2.2.2.2.1, (x.2.2.2.2.2.2.2.2.2.1, (x.2.2.2.2.2.2.2.2.2.2.1, (x.2.2.2.2.2.2.2.2.2.2.2.1, x.2.2.2.2.2.2.2.2.2.2.2.2.1)))))), (@id (Spt) (xsAt Sp x.2.2.2.1 (Int.toNat x.2.2.2.2.2.1))), y4.1, ()), F47.pre (x.1, ()), (let r : List AV := [.agg [.x (.row (.one (.int .i64)) x.2.2.2.2.2.2.1), .x (.i .i64 x.2.2.2.2.2.2.2.1), .x (.row Dk x.2.2.2.2.2.2.2.2.1), .x (.i .i64 x.2.2.2.2.2.2.2.2.2.1), .x (.row (.cons (.int .i64) Sp) x.2.2.2.2.2.2.2.2.2.2.1), .x (.row (.cons (.int .i64) Sp) x.2.2.2.2.2.2.2.2.2.2.2.1), .x (.i .i64 x.2.2.2.2.2.2.2.2.2.2.2.2.1)]]; r = r), (let r : List AV := [.agg [.x (.i .i64 (@id (Spt) (xsAt Sp x.2.2.2.1 (Int.toNat x.2.2.2.2.2.1))).1), .x (.i .i64 (@id (Spt) (xsAt Sp x.2.2.2.1 (Int.toNat x.2.2.2.2.2.1))).2)]]; r = r)] y5.1
                (.leaf [] (.inr (.inl (x.2.2.1, (@id (Spt) (xsAt Sp x.2.2.2.1 (Int.toNat x.2.2.2.2.2.1))).1, ()))))
                (.leaf [] (.inl (x.1, (), x.2.2.1, x.2.2.2.1, x.2.2.2.2.1, (wrp .i64 (x.2.2.2.2.2.1 + (1 : Int))), x.2.2.2.2.2.2.1, x.2.2.2.2.2.2.2.1, x.2.2.2.2.2.2.2.2.1, x.2.2.2.2.2.2.2.2.2.1, x.2.2.2.2.2.2.2.2.2.2.1, x.2.2.2.2.2.2.2.2.2.2.2.1, x.2.2.2.2.2.2.2.2.2.2.2.2.1, ()))))))))
      (let y2 := F47.fn (x.1, ())
      let y3 := F46.fn ((x.2.2.2.2.2.2.1, (x.2.2.2.2.2.2.2.1, (x.2.2.2.2.2.2.2.2.1, (x.2.2.2.2.2.2.2.2.2.1, (x.2.2.2.2.2.2.2.2.2.2.1, (x.2.2.2.2.2.2.2.2.2.2.2.1, x.2.2.2.2.2.2.2.2.2.2.2.2.1)))))), (@id (Spt) (xsAt Sp x.2.2.2.1 (Int.toNat x.2.2.2.2.2.1))), y2.1, ())
      .node [F46.pre ((x.2.2.2.2.2.2.1, (x.2.2.2.2.2.2.2.1, (x.2.2.2.2.2.2.2.2.1, (x.2.2.2.2.2.2.2.2.2.1, (x.2.2.2.2.2.2.2.2.2.2.1, (x.2.2.2.2.2.2.2.2.2.2.2.1, x.2.2.2.2.2.2.2.2.2.2.2.2.1)))))), (@id (Spt) (xsAt Sp x.2.2.2.1 (Int.toNat x.2.2.2.2.2.1))), y2.1, ()), F47.pre (x.1, ()), (let r : List AV := [.agg [.x (.row (.one (.int .i64)) x.2.2.2.2.2.2.1), .x (.i .i64 x.2.2.2.2.2.2.2.1), .x (.row Dk x.2.2.2.2.2.2.2.2.1), .x (.i .i64 x.2.2.2.2.2.2.2.2.2.1), .x (.row (.cons (.int .i64) Sp) x.2.2.2.2.2.2.2.2.2.2.1), .x (.row (.cons (.int .i64) Sp) x.2.2.2.2.2.2.2.2.2.2.2.1), .x (.i .i64 x.2.2.2.2.2.2.2.2.2.2.2.2.1)]]; r = r), (let r : List AV := [.agg [.x (.i .i64 (@id (Spt) (xsAt Sp x.2.2.2.1 (Int.toNat x.2.2.2.2.2.1))).1), .x (.i .i64 (@id (Spt) (xsAt Sp x.2.2.2.1 (Int.toNat x.2.2.2.2.2.1))).2)]]; r = r)] y3.1
        (.leaf [] (.inr (.inl (x.2.2.1, (@id (Spt) (xsAt Sp x.2.2.2.1 (Int.toNat x.2.2.2.2.2.1))).1, ()))))
        (.leaf [] (.inl (x.1, (), x.2.2.1, x.2.2.2.1, x.2.2.2.2.1, (wrp .i64 (x.2.2.2.2.2.1 + (1 : Int))), x.2.2.2.2.2.2.1, x.2.2.2.2.2.2.2.1, x.2.2.2.2.2.2.2.2.1, x.2.2.2.2.2.2.2.2.2.1, x.2.2.2.2.2.2.2.2.2.2.1, x.2.2.2.2.2.2.2.2.2.2.2.1, x.2.2.2.2.2.2.2.2.2.2.2.2.1, ())))))
    (.leaf [] (.inr (.inr (.inl ((), x.2.2.1, x.2.2.2.2.2.2.1, x.2.2.2.2.2.2.2.1, x.2.2.2.2.2.2.2.2.1, x.2.2.2.2.2.2.2.2.2.1, x.2.2.2.2.2.2.2.2.2.2.1, x.2.2.2.2.2.2.2.2.2.2.2.1, x.2.2.2.2.2.2.2.2.2.2.2.2.1, ())))))
noncomputable def F34 (x : Wdt × List Spt × List UInt8 × Unit) : DT (List Spt × Int × Unit) :=
  let y0 := loopOut F34L0 (x.2.2.1, (), [], x.2.1, (Int.ofNat (List.length x.2.1)), (0 : Int), x.1.1, x.1.2.1, x.1.2.2.1, x.1.2.2.2.1, x.1.2.2.2.2.1, x.1.2.2.2.2.2.1, x.1.2.2.2.2.2.2, ())
  .node [loopInv F34L0 (x.2.2.1, (), [], x.2.1, (Int.ofNat (List.length x.2.1)), (0 : Int), x.1.1, x.1.2.1, x.1.2.2.1, x.1.2.2.2.1, x.1.2.2.2.2.1, x.1.2.2.2.2.2.1, x.1.2.2.2.2.2.2, ())] (isL y0)
    (let y1 : List Spt × Int × Unit := getL (Shape.z F34L0S0) y0
    .leaf [] (y1.1, y1.2.1, ()))
    (let y1 : Unit × List Spt × List (Int) × Int × List Dkt × Int × List Rwt × List Rwt × Int × Unit := getL (Shape.z F34L0S1) (restR y0)
    .leaf [] (y1.2.1, (wrp .i64 ((Int.ofNat (List.length y1.2.2.2.2.1)) - (1 : Int))), ()))
abbrev F34A : List AT := [.v (.agg Wd), .v (.one (.row Sp)), .v (.one .str)]
abbrev F34B : List AT := [.own Sp, .v (.one (.int .i64))]
noncomputable def F34R : List (Nat × Rule) := [(0, ruleOf F34L0S F34L0X F34L0)]
theorem F34L0is : ∀ x, DT.Is (runL Tryz.prog cfg44 1000 (lsOf F34R) 34 0 F34L0S F34L0X x) (F34L0 x) := fun x => by unfold DT.Is; kernel_rfl
theorem F34is : ∀ x, DT.Is (runF Tryz.prog cfg44 1000 (lsOf F34R) 34 F34A F34B x) (F34 x) := fun x => by unfold DT.Is; kernel_rfl
noncomputable def F34.fn (x : Wdt × List Spt × List UInt8 × Unit) : List Spt × Int × Unit := (F34 x).fn
noncomputable def F34.pre (x : Wdt × List Spt × List UInt8 × Unit) : Prop := (F34 x).pre
theorem F34ok : DataOk Tryz.prog 34 F34A F34B F34.pre F34.fn := data_of_tree F34A F34B F34 cfg44ok (.of_all cfg44ok (.cons (rule_of_tree F34L0S F34L0X F34L0 (F34L0is)) .nil)) F34is
noncomputable def F34C : Con Tryz.prog := conD 34 F34A F34B F34.pre F34.fn F34ok (by kernel_rfl)
noncomputable def cfgL45 : List (Con Tryz.prog) := F34C :: cfgL44
noncomputable def cfg45 : Cfg := cfgOf cfgL45
theorem cfg45ok : CfgOk Tryz.prog cfg45 := cfgOf_ok cfgnamed cfgmixed _
/-! 16 veneer/seen.Seen -/
noncomputable def F16 (x : Wdt × List Spt × List UInt8 × Unit) : DT (List Spt × Unit) :=
  let y0 := F34.fn (x.1, x.2.1, x.2.2.1, ())
  .leaf [F34.pre (x.1, x.2.1, x.2.2.1, ())] (y0.1, ())
abbrev F16A : List AT := [.v (.agg Wd), .v (.one (.row Sp)), .v (.one .str)]
abbrev F16B : List AT := [.own Sp]
theorem F16is : ∀ x, DT.Is (runF Tryz.prog cfg45 1000 noL 16 F16A F16B x) (F16 x) := fun x => by unfold DT.Is; kernel_rfl
noncomputable def F16.fn (x : Wdt × List Spt × List UInt8 × Unit) : List Spt × Unit := (F16 x).fn
noncomputable def F16.pre (x : Wdt × List Spt × List UInt8 × Unit) : Prop := (F16 x).pre
theorem F16ok : DataOk Tryz.prog 16 F16A F16B F16.pre F16.fn := data_of_tree F16A F16B F16 cfg45ok FnLoops.none F16is
noncomputable def F16C : Con Tryz.prog := conD 16 F16A F16B F16.pre F16.fn F16ok (by kernel_rfl)
noncomputable def cfgL46 : List (Con Tryz.prog) := F16C :: cfgL45
noncomputable def cfg46 : Cfg := cfgOf cfgL46
theorem cfg46ok : CfgOk Tryz.prog cfg46 := cfgOf_ok cfgnamed cfgmixed _
/-! 17 veneer/seen.Limit -/
noncomputable def F17 (x : Wdt × List Spt × List UInt8 × Unit) : DT (Int × Unit) :=
  let y0 := F34.fn (x.1, x.2.1, x.2.2.1, ())
  .leaf [F34.pre (x.1, x.2.1, x.2.2.1, ())] (y0.2.1, ())
abbrev F17A : List AT := [.v (.agg Wd), .v (.one (.row Sp)), .v (.one .str)]
abbrev F17B : List AT := [.v (.one (.int .i64))]
theorem F17is : ∀ x, DT.Is (runF Tryz.prog cfg46 1000 noL 17 F17A F17B x) (F17 x) := fun x => by unfold DT.Is; kernel_rfl
noncomputable def F17.fn (x : Wdt × List Spt × List UInt8 × Unit) : Int × Unit := (F17 x).fn
noncomputable def F17.pre (x : Wdt × List Spt × List UInt8 × Unit) : Prop := (F17 x).pre
theorem F17ok : DataOk Tryz.prog 17 F17A F17B F17.pre F17.fn := data_of_tree F17A F17B F17 cfg46ok FnLoops.none F17is
noncomputable def F17C : Con Tryz.prog := conD 17 F17A F17B F17.pre F17.fn F17ok (by kernel_rfl)
noncomputable def cfgL47 : List (Con Tryz.prog) := F17C :: cfgL46
noncomputable def cfg47 : Cfg := cfgOf cfgL47
theorem cfg47ok : CfgOk Tryz.prog cfg47 := cfgOf_ok cfgnamed cfgmixed _
/-! 24 veneer/seen.Cover -/
def F24L0S : Shape := ⟨[(2, .v (.one .str)), (3, .val (.ptr 0 0)), (9, .v (.one (.row Sp))), (10, .v (.one (.int .i64))), (11, .v (.one (.int .i64)))], [(0, 7, [.v (.one (.row (.one (.int .i64)))), .v (.one (.int .i64)), .v (.one (.row Dk)), .v (.one (.int .i64)), .v (.one (.row Rw)), .v (.one (.row Rw)), .v (.one (.int .i64))])], 1⟩
def F24L0S0 : Shape := ⟨[(6, .v (.one (.int .i64)))], [], 1⟩
def F24L0S1 : Shape := ⟨[(3, .val (.ptr 0 0))], [(0, 7, [.v (.one (.row (.one (.int .i64)))), .v (.one (.int .i64)), .v (.one (.row Dk)), .v (.one (.int .i64)), .v (.one (.row Rw)), .v (.one (.row Rw)), .v (.one (.int .i64))])], 1⟩
def F24L0X : List (Option Nat × Shape) := [(none, F24L0S0), (some 0, F24L0S1)]
noncomputable def F24L0 (x : List UInt8 × Unit × List Spt × Int × Int × List (Int) × Int × List Dkt × Int × List Rwt × List Rwt × Int × Unit) : DT ((List UInt8 × Unit × List Spt × Int × Int × List (Int) × Int × List Dkt × Int × List Rwt × List Rwt × Int × Unit) ⊕ ((Int × Unit) ⊕ (Unit × List (Int) × Int × List Dkt × Int × List Rwt × List Rwt × Int × Unit) ⊕ Empty)) :=
  .node [] (decide (x.2.2.2.2.1 < x.2.2.2.1))
    (let y0 := F47.fn (x.1, ())
    let y1 := F46.fn ((x.2.2.2.2.2.1, (x.2.2.2.2.2.2.1, (x.2.2.2.2.2.2.2.1, (x.2.2.2.2.2.2.2.2.1, (x.2.2.2.2.2.2.2.2.2.1, (x.2.2.2.2.2.2.2.2.2.2.1, x.2.2.2.2.2.2.2.2.2.2.2.1)))))), (@id (Spt) (xsAt Sp x.2.2.1 (Int.toNat x.2.2.2.2.1))), y0.1, ())
    .node [F46.pre ((x.2.2.2.2.2.1, (x.2.2.2.2.2.2.1, (x.2.2.2.2.2.2.2.1, (x.2.2.2.2.2.2.2.2.1, (x.2.2.2.2.2.2.2.2.2.1, (x.2.2.2.2.2.2.2.2.2.2.1, x.2.2.2.2.2.2.2.2.2.2.2.1)))))), (@id (Spt) (xsAt Sp x.2.2.1 (Int.toNat x.2.2.2.2.1))), y0.1, ()), F47.pre (x.1, ()), (let r : List AV := [.agg [.x (.row (.one (.int .i64)) x.2.2.2.2.2.1), .x (.i .i64 x.2.2.2.2.2.2.1), .x (.row Dk x.2.2.2.2.2.2.2.1), .x (.i .i64 x.2.2.2.2.2.2.2.2.1), .x (.row (.cons (.int .i64) Sp) x.2.2.2.2.2.2.2.2.2.1), .x (.row (.cons (.int .i64) Sp) x.2.2.2.2.2.2.2.2.2.2.1), .x (.i .i64 x.2.2.2.2.2.2.2.2.2.2.2.1)]]; r = r), (let r : List AV := [.agg [.x (.i .i64 (@id (Spt) (xsAt Sp x.2.2.1 (Int.toNat x.2.2.2.2.1))).1), .x (.i .i64 (@id (Spt) (xsAt Sp x.2.2.1 (Int.toNat x.2.2.2.2.1))).2)]]; r = r), 0 ≤ x.2.2.2.2.1, x.2.2.2.2.1 < Int.ofNat (List.length x.2.2.1)] y1.1
      (.leaf [] (.inr (.inl ((@id (Spt) (xsAt Sp x.2.2.1 (Int.toNat x.2.2.2.2.1))).1, ()))))
      (.leaf [] (.inl (x.1, (), x.2.2.1, x.2.2.2.1, (wrp .i64 (x.2.2.2.2.1 + (1 : Int))), x.2.2.2.2.2.1, x.2.2.2.2.2.2.1, x.2.2.2.2.2.2.2.1, x.2.2.2.2.2.2.2.2.1, x.2.2.2.2.2.2.2.2.2.1, x.2.2.2.2.2.2.2.2.2.2.1, x.2.2.2.2.2.2.2.2.2.2.2.1, ()))))
    (.leaf [] (.inr (.inr (.inl ((), x.2.2.2.2.2.1, x.2.2.2.2.2.2.1, x.2.2.2.2.2.2.2.1, x.2.2.2.2.2.2.2.2.1, x.2.2.2.2.2.2.2.2.2.1, x.2.2.2.2.2.2.2.2.2.2.1, x.2.2.2.2.2.2.2.2.2.2.2.1, ())))))
noncomputable def F24 (x : Wdt × List Spt × List UInt8 × Unit) : DT (Int × Unit) :=
  let y0 := loopOut F24L0 (x.2.2.1, (), x.2.1, (Int.ofNat (List.length x.2.1)), (0 : Int), x.1.1, x.1.2.1, x.1.2.2.1, x.1.2.2.2.1, x.1.2.2.2.2.1, x.1.2.2.2.2.2.1, x.1.2.2.2.2.2.2, ())
  .node [loopInv F24L0 (x.2.2.1, (), x.2.1, (Int.ofNat (List.length x.2.1)), (0 : Int), x.1.1, x.1.2.1, x.1.2.2.1, x.1.2.2.2.1, x.1.2.2.2.2.1, x.1.2.2.2.2.2.1, x.1.2.2.2.2.2.2, ())] (isL y0)
    (let y1 : Int × Unit := getL (Shape.z F24L0S0) y0
    .leaf [] (y1.1, ()))
    (let y1 : Unit × List (Int) × Int × List Dkt × Int × List Rwt × List Rwt × Int × Unit := getL (Shape.z F24L0S1) (restR y0)
    .leaf [] ((Int.ofNat (List.length y1.2.2.2.1)), ()))
abbrev F24A : List AT := [.v (.agg Wd), .v (.one (.row Sp)), .v (.one .str)]
abbrev F24B : List AT := [.v (.one (.int .i64))]
noncomputable def F24R : List (Nat × Rule) := [(0, ruleOf F24L0S F24L0X F24L0)]
theorem F24L0is : ∀ x, DT.Is (runL Tryz.prog cfg47 1000 (lsOf F24R) 24 0 F24L0S F24L0X x) (F24L0 x) := fun x => by unfold DT.Is; kernel_rfl
theorem F24is : ∀ x, DT.Is (runF Tryz.prog cfg47 1000 (lsOf F24R) 24 F24A F24B x) (F24 x) := fun x => by unfold DT.Is; kernel_rfl
noncomputable def F24.fn (x : Wdt × List Spt × List UInt8 × Unit) : Int × Unit := (F24 x).fn
noncomputable def F24.pre (x : Wdt × List Spt × List UInt8 × Unit) : Prop := (F24 x).pre
theorem F24ok : DataOk Tryz.prog 24 F24A F24B F24.pre F24.fn := data_of_tree F24A F24B F24 cfg47ok (.of_all cfg47ok (.cons (rule_of_tree F24L0S F24L0X F24L0 (F24L0is)) .nil)) F24is
noncomputable def F24C : Con Tryz.prog := conD 24 F24A F24B F24.pre F24.fn F24ok (by kernel_rfl)
noncomputable def cfgL48 : List (Con Tryz.prog) := F24C :: cfgL47
noncomputable def cfg48 : Cfg := cfgOf cfgL48
theorem cfg48ok : CfgOk Tryz.prog cfg48 := cfgOf_ok cfgnamed cfgmixed _
/-! 6 veneer/seen.Roots -/
def F6L0S : Shape := ⟨[(3, .own Sp), (7, .v (.one (.int .i64))), (8, .v (.one (.int .i64)))], [], 1⟩
def F6L0S0 : Shape := ⟨[(3, .own Sp)], [], 1⟩
def F6L0X : List (Option Nat × Shape) := [(some 0, F6L0S0)]
noncomputable def F6L0 (x : List Spt × Int × Int × Unit) : DT ((List Spt × Int × Int × Unit) ⊕ ((List Spt × Unit) ⊕ Empty)) :=
  .node [] (decide (x.2.2.1 < x.2.1))
    (.leaf [(List.length (x.1 ++ ((x.2.2.1, (1 : Int)) :: []))) * 16 ≤ Room] (.inl ((x.1 ++ ((x.2.2.1, (1 : Int)) :: [])), x.2.1, (wrp .i64 (x.2.2.1 + (1 : Int))), ())))
    (.leaf [] (.inr (.inl (x.1, ()))))
noncomputable def F6 (x : Wdt × Unit) : DT (List Spt × Unit) :=
  let y0 := loopOut F6L0 ([], (Int.ofNat (List.length x.1.2.2.1)), (0 : Int), ())
  let y1 : List Spt × Unit := getL (Shape.z F6L0S0) y0
  .leaf [loopInv F6L0 ([], (Int.ofNat (List.length x.1.2.2.1)), (0 : Int), ())] (y1.1, ())
abbrev F6A : List AT := [.v (.agg Wd)]
abbrev F6B : List AT := [.own Sp]
noncomputable def F6R : List (Nat × Rule) := [(0, ruleOf F6L0S F6L0X F6L0)]
theorem F6L0is : ∀ x, DT.Is (runL Tryz.prog cfg48 1000 (lsOf F6R) 6 0 F6L0S F6L0X x) (F6L0 x) := fun x => by unfold DT.Is; kernel_rfl
theorem F6is : ∀ x, DT.Is (runF Tryz.prog cfg48 1000 (lsOf F6R) 6 F6A F6B x) (F6 x) := fun x => by unfold DT.Is; kernel_rfl
noncomputable def F6.fn (x : Wdt × Unit) : List Spt × Unit := (F6 x).fn
noncomputable def F6.pre (x : Wdt × Unit) : Prop := (F6 x).pre
theorem F6ok : DataOk Tryz.prog 6 F6A F6B F6.pre F6.fn := data_of_tree F6A F6B F6 cfg48ok (.of_all cfg48ok (.cons (rule_of_tree F6L0S F6L0X F6L0 (F6L0is)) .nil)) F6is
noncomputable def F6C : Con Tryz.prog := conD 6 F6A F6B F6.pre F6.fn F6ok (by kernel_rfl)
noncomputable def cfgL49 : List (Con Tryz.prog) := F6C :: cfgL48
noncomputable def cfg49 : Cfg := cfgOf cfgL49
theorem cfg49ok : CfgOk Tryz.prog cfg49 := cfgOf_ok cfgnamed cfgmixed _
/-! 26 veneer/veneerref11.Limit -/
noncomputable def F26 (x : Wdt × List Spt × List UInt8 × Unit) : DT (Int × Unit) :=
  let y0 := F27.fn (x.1, x.2.1, x.2.2.1, ())
  .leaf [F27.pre (x.1, x.2.1, x.2.2.1, ())] (y0.2.1, ())
abbrev F26A : List AT := [.v (.agg Wd), .v (.one (.row Sp)), .v (.one .str)]
abbrev F26B : List AT := [.v (.one (.int .i64))]
theorem F26is : ∀ x, DT.Is (runF Tryz.prog cfg49 1000 noL 26 F26A F26B x) (F26 x) := fun x => by unfold DT.Is; kernel_rfl
noncomputable def F26.fn (x : Wdt × List Spt × List UInt8 × Unit) : Int × Unit := (F26 x).fn
noncomputable def F26.pre (x : Wdt × List Spt × List UInt8 × Unit) : Prop := (F26 x).pre
theorem F26ok : DataOk Tryz.prog 26 F26A F26B F26.pre F26.fn := data_of_tree F26A F26B F26 cfg49ok FnLoops.none F26is
noncomputable def F26C : Con Tryz.prog := conD 26 F26A F26B F26.pre F26.fn F26ok (by kernel_rfl)
noncomputable def cfgL50 : List (Con Tryz.prog) := F26C :: cfgL49
noncomputable def cfg50 : Cfg := cfgOf cfgL50
theorem cfg50ok : CfgOk Tryz.prog cfg50 := cfgOf_ok cfgnamed cfgmixed _
/-! 25 veneer/veneerref11.Cover -/
def F25L0S : Shape := ⟨[(1, .v (.one (.row Sp))), (2, .v (.one .str)), (3, .val (.ptr 0 0)), (7, .v (.one (.int .i64)))], [(0, 7, [.v (.one (.row (.one (.int .i64)))), .v (.one (.int .i64)), .v (.one (.row Dk)), .v (.one (.int .i64)), .v (.one (.row Rw)), .v (.one (.row Rw)), .v (.one (.int .i64))])], 1⟩
def F25L0S0 : Shape := ⟨[(6, .v (.one (.int .i64)))], [], 1⟩
def F25L0S1 : Shape := ⟨[(3, .val (.ptr 0 0))], [(0, 7, [.v (.one (.row (.one (.int .i64)))), .v (.one (.int .i64)), .v (.one (.row Dk)), .v (.one (.int .i64)), .v (.one (.row Rw)), .v (.one (.row Rw)), .v (.one (.int .i64))])], 1⟩
def F25L0X : List (Option Nat × Shape) := [(none, F25L0S0), (some 0, F25L0S1)]
noncomputable def F25L0 (x : List Spt × List UInt8 × Unit × Int × List (Int) × Int × List Dkt × Int × List Rwt × List Rwt × Int × Unit) : DT ((List Spt × List UInt8 × Unit × Int × List (Int) × Int × List Dkt × Int × List Rwt × List Rwt × Int × Unit) ⊕ ((Int × Unit) ⊕ (Unit × List (Int) × Int × List Dkt × Int × List Rwt × List Rwt × Int × Unit) ⊕ Empty)) :=
  .node [] (decide (x.2.2.2.1 < (Int.ofNat (List.length x.1))))
    (let y0 := F48.fn ((x.2.2.2.2.1, (x.2.2.2.2.2.1, (x.2.2.2.2.2.2.1, (x.2.2.2.2.2.2.2.1, (x.2.2.2.2.2.2.2.2.1, (x.2.2.2.2.2.2.2.2.2.1, x.2.2.2.2.2.2.2.2.2.2.1)))))), (@id (Spt) (xsAt Sp x.1 (Int.toNat x.2.2.2.1))), x.2.1, ())
    .node [F48.pre ((x.2.2.2.2.1, (x.2.2.2.2.2.1, (x.2.2.2.2.2.2.1, (x.2.2.2.2.2.2.2.1, (x.2.2.2.2.2.2.2.2.1, (x.2.2.2.2.2.2.2.2.2.1, x.2.2.2.2.2.2.2.2.2.2.1)))))), (@id (Spt) (xsAt Sp x.1 (Int.toNat x.2.2.2.1))), x.2.1, ()), 0 ≤ x.2.2.2.1, x.2.2.2.1 < Int.ofNat (List.length x.1)] y0.1
      (.leaf [0 ≤ x.2.2.2.1, x.2.2.2.1 < Int.ofNat (List.length x.1)] (.inr (.inl ((@id (Spt) (xsAt Sp x.1 (Int.toNat x.2.2.2.1))).1, ()))))
      (.leaf [] (.inl (x.1, x.2.1, (), (wrp .i64 (x.2.2.2.1 + (1 : Int))), x.2.2.2.2.1, x.2.2.2.2.2.1, x.2.2.2.2.2.2.1, x.2.2.2.2.2.2.2.1, x.2.2.2.2.2.2.2.2.1, x.2.2.2.2.2.2.2.2.2.1, x.2.2.2.2.2.2.2.2.2.2.1, ()))))
    (.leaf [] (.inr (.inr (.inl ((), x.2.2.2.2.1, x.2.2.2.2.2.1, x.2.2.2.2.2.2.1, x.2.2.2.2.2.2.2.1, x.2.2.2.2.2.2.2.2.1, x.2.2.2.2.2.2.2.2.2.1, x.2.2.2.2.2.2.2.2.2.2.1, ())))))
noncomputable def F25 (x : Wdt × List Spt × List UInt8 × Unit) : DT (Int × Unit) :=
  let y0 := loopOut F25L0 (x.2.1, x.2.2.1, (), (0 : Int), x.1.1, x.1.2.1, x.1.2.2.1, x.1.2.2.2.1, x.1.2.2.2.2.1, x.1.2.2.2.2.2.1, x.1.2.2.2.2.2.2, ())
  .node [loopInv F25L0 (x.2.1, x.2.2.1, (), (0 : Int), x.1.1, x.1.2.1, x.1.2.2.1, x.1.2.2.2.1, x.1.2.2.2.2.1, x.1.2.2.2.2.2.1, x.1.2.2.2.2.2.2, ())] (isL y0)
    (let y1 : Int × Unit := getL (Shape.z F25L0S0) y0
    .leaf [] (y1.1, ()))
    (let y1 : Unit × List (Int) × Int × List Dkt × Int × List Rwt × List Rwt × Int × Unit := getL (Shape.z F25L0S1) (restR y0)
    .leaf [] ((Int.ofNat (List.length y1.2.2.2.1)), ()))
abbrev F25A : List AT := [.v (.agg Wd), .v (.one (.row Sp)), .v (.one .str)]
abbrev F25B : List AT := [.v (.one (.int .i64))]
noncomputable def F25R : List (Nat × Rule) := [(0, ruleOf F25L0S F25L0X F25L0)]
theorem F25L0is : ∀ x, DT.Is (runL Tryz.prog cfg50 1000 (lsOf F25R) 25 0 F25L0S F25L0X x) (F25L0 x) := fun x => by unfold DT.Is; kernel_rfl
theorem F25is : ∀ x, DT.Is (runF Tryz.prog cfg50 1000 (lsOf F25R) 25 F25A F25B x) (F25 x) := fun x => by unfold DT.Is; kernel_rfl
noncomputable def F25.fn (x : Wdt × List Spt × List UInt8 × Unit) : Int × Unit := (F25 x).fn
noncomputable def F25.pre (x : Wdt × List Spt × List UInt8 × Unit) : Prop := (F25 x).pre
theorem F25ok : DataOk Tryz.prog 25 F25A F25B F25.pre F25.fn := data_of_tree F25A F25B F25 cfg50ok (.of_all cfg50ok (.cons (rule_of_tree F25L0S F25L0X F25L0 (F25L0is)) .nil)) F25is
noncomputable def F25C : Con Tryz.prog := conD 25 F25A F25B F25.pre F25.fn F25ok (by kernel_rfl)
noncomputable def cfgL51 : List (Con Tryz.prog) := F25C :: cfgL50
noncomputable def cfg51 : Cfg := cfgOf cfgL51
theorem cfg51ok : CfgOk Tryz.prog cfg51 := cfgOf_ok cfgnamed cfgmixed _
/-! 19 veneer/veneerlaw11.heavy -/
def F19L1S : Shape := ⟨[(0, .v (.one (.row Dk))), (3, .v (.one (.int .i64))), (4, .v (.one (.int .i64))), (5, .v (.one (.int .i64)))], [], 0⟩
def F19L1S0 : Shape := ⟨[(0, .v (.one (.row Dk))), (3, .v (.one (.int .i64))), (4, .v (.one (.int .i64)))], [], 0⟩
def F19L1X : List (Option Nat × Shape) := [(some 2, F19L1S0)]
noncomputable def F19L1 (x : List Dkt × Int × Int × Int × Unit) : DT ((List Dkt × Int × Int × Int × Unit) ⊕ ((List Dkt × Int × Int × Unit) ⊕ Empty)) :=
  .node [0 ≤ x.2.2.1, x.2.2.1 < Int.ofNat (List.length x.1)] (decide (x.2.2.2.1 < (Int.ofNat (List.length (@id (Dkt) (xsAt Dk x.1 (Int.toNat x.2.2.1))).2.2.2))))
    (.node [] (decide (x.2.2.2.1 < (200 : Int)))
      (.leaf [0 ≤ x.2.2.2.1, x.2.2.2.1 < Int.ofNat (List.length (@id (Dkt) (xsAt Dk x.1 (Int.toNat x.2.2.1))).2.2.2), 0 ≤ x.2.2.1, x.2.2.1 < Int.ofNat (List.length x.1), 0 ≤ x.2.2.2.1, x.2.2.2.1 < Int.ofNat (List.length (@id (Dkt) (xsAt Dk x.1 (Int.toNat x.2.2.1))).2.2.2), 0 ≤ x.2.2.1, x.2.2.1 < Int.ofNat (List.length x.1)] (.inl (x.1, (wrp .i64 ((wrp .i64 ((wrp .i64 (x.2.1 + (1 : Int))) + (Int.ofNat (List.length (@id (Ndt) (xsAt Nd (@id (Dkt) (xsAt Dk x.1 (Int.toNat x.2.2.1))).2.2.2 (Int.toNat x.2.2.2.1))).2.2.2.2.2.2.2)))) + (Int.ofNat (List.length (@id (Ndt) (xsAt Nd (@id (Dkt) (xsAt Dk x.1 (Int.toNat x.2.2.1))).2.2.2 (Int.toNat x.2.2.2.1))).2.2.2.2.2.1)))), x.2.2.1, (wrp .i64 (x.2.2.2.1 + (1 : Int))), ())))
      (.leaf [] (.inr (.inl (x.1, x.2.1, x.2.2.1, ())))))
    (.leaf [] (.inr (.inl (x.1, x.2.1, x.2.2.1, ()))))
def F19L0S : Shape := ⟨[(0, .v (.one (.row Dk))), (3, .v (.one (.int .i64))), (4, .v (.one (.int .i64)))], [], 0⟩
def F19L0S0 : Shape := ⟨[(0, .v (.one (.row Dk))), (3, .v (.one (.int .i64)))], [], 0⟩
def F19L0X : List (Option Nat × Shape) := [(some 0, F19L0S0)]
noncomputable def F19L0 (x : List Dkt × Int × Int × Unit) : DT ((List Dkt × Int × Int × Unit) ⊕ ((List Dkt × Int × Unit) ⊕ Empty)) :=
  .node [] (decide (x.2.2.1 < (Int.ofNat (List.length x.1))))
    (.node [] (decide (x.2.2.1 < (10 : Int)))
      (let y0 := loopOut F19L1 (x.1, x.2.1, x.2.2.1, (0 : Int), ())
      let y1 : List Dkt × Int × Int × Unit := getL (Shape.z F19L1S0) y0
      .leaf [loopInv F19L1 (x.1, x.2.1, x.2.2.1, (0 : Int), ())] (.inl (y1.1, y1.2.1, (wrp .i64 (y1.2.2.1 + (1 : Int))), ())))
      (.leaf [] (.inr (.inl (x.1, x.2.1, ())))))
    (.leaf [] (.inr (.inl (x.1, x.2.1, ()))))
noncomputable def F19 (x : List Dkt × Unit) : DT (Bool × Unit) :=
  let y0 := loopOut F19L0 (x.1, (0 : Int), (0 : Int), ())
  let y1 : List Dkt × Int × Unit := getL (Shape.z F19L0S0) y0
  .node [loopInv F19L0 (x.1, (0 : Int), (0 : Int), ())] (decide ((Int.ofNat (List.length y1.1)) > (8 : Int)))
    (.leaf [] (true, ()))
    (.leaf [] ((decide (y1.2.1 > (700 : Int))), ()))
abbrev F19A : List AT := [.v (.one (.row Dk))]
abbrev F19B : List AT := [.v (.one .bool)]
noncomputable def F19R : List (Nat × Rule) := [(1, ruleOf F19L1S F19L1X F19L1), (0, ruleOf F19L0S F19L0X F19L0)]
theorem F19L1is : ∀ x, DT.Is (runL Tryz.prog cfg51 1000 (lsOf F19R) 19 1 F19L1S F19L1X x) (F19L1 x) := fun x => by unfold DT.Is; kernel_rfl
theorem F19L0is : ∀ x, DT.Is (runL Tryz.prog cfg51 1000 (lsOf F19R) 19 0 F19L0S F19L0X x) (F19L0 x) := fun x => by unfold DT.Is; kernel_rfl
theorem F19is : ∀ x, DT.Is (runF Tryz.prog cfg51 1000 (lsOf F19R) 19 F19A F19B x) (F19 x) := fun x => by unfold DT.Is; kernel_rfl
noncomputable def F19.fn (x : List Dkt × Unit) : Bool × Unit := (F19 x).fn
noncomputable def F19.pre (x : List Dkt × Unit) : Prop := (F19 x).pre
theorem F19ok : DataOk Tryz.prog 19 F19A F19B F19.pre F19.fn := data_of_tree F19A F19B F19 cfg51ok (.of_all cfg51ok (.cons (rule_of_tree F19L1S F19L1X F19L1 (F19L1is)) (.cons (rule_of_tree F19L0S F19L0X F19L0 (F19L0is)) .nil))) F19is
noncomputable def F19C : Con Tryz.prog := conD 19 F19A F19B F19.pre F19.fn F19ok (by kernel_rfl)
noncomputable def cfgL52 : List (Con Tryz.prog) := F19C :: cfgL51
noncomputable def cfg52 : Cfg := cfgOf cfgL52
theorem cfg52ok : CfgOk Tryz.prog cfg52 := cfgOf_ok cfgnamed cfgmixed _
/-! 7 veneer/veneerref11.Spots -/
def F7L0S : Shape := ⟨[(0, .v (.one (.row Sp))), (1, .v (.one (.row Sp))), (5, .v (.one (.int .i64)))], [], 0⟩
def F7L0S0 : Shape := ⟨[(4, .v (.one .bool))], [], 0⟩
def F7L0S1 : Shape := ⟨[], [], 0⟩
def F7L0X : List (Option Nat × Shape) := [(none, F7L0S0), (some 0, F7L0S1)]
noncomputable def F7L0 (x : List Spt × List Spt × Int × Unit) : DT ((List Spt × List Spt × Int × Unit) ⊕ ((Bool × Unit) ⊕ (Unit) ⊕ Empty)) :=
  .node [] (decide (x.2.2.1 < (Int.ofNat (List.length x.1))))
    (.node [0 ≤ x.2.2.1, x.2.2.1 < Int.ofNat (List.length x.2.1), 0 ≤ x.2.2.1, x.2.2.1 < Int.ofNat (List.length x.1)] (notB (((@id (Spt) (xsAt Sp x.1 (Int.toNat x.2.2.1))).1 == (@id (Spt) (xsAt Sp x.2.1 (Int.toNat x.2.2.1))).1) && (((@id (Spt) (xsAt Sp x.1 (Int.toNat x.2.2.1))).2 == (@id (Spt) (xsAt Sp x.2.1 (Int.toNat x.2.2.1))).2) && true)))
      (.leaf [] (.inr (.inl (false, ()))))
      (.leaf [] (.inl (x.1, x.2.1, (wrp .i64 (x.2.2.1 + (1 : Int))), ()))))
    (.leaf [] (.inr (.inr (.inl ()))))
noncomputable def F7 (x : List Spt × List Spt × Unit) : DT (Bool × Unit) :=
  .node [] ((Int.ofNat (List.length x.1)) != (Int.ofNat (List.length x.2.1)))
    (.leaf [] (false, ()))
    (let y0 := loopOut F7L0 (x.1, x.2.1, (0 : Int), ())
    .node [loopInv F7L0 (x.1, x.2.1, (0 : Int), ())] (isL y0)
      (let y1 : Bool × Unit := getL (Shape.z F7L0S0) y0
      .leaf [] (y1.1, ()))
      (let y1 : Unit := getL (Shape.z F7L0S1) (restR y0)
      .leaf [] (true, ())))
abbrev F7A : List AT := [.v (.one (.row Sp)), .v (.one (.row Sp))]
abbrev F7B : List AT := [.v (.one .bool)]
noncomputable def F7R : List (Nat × Rule) := [(0, ruleOf F7L0S F7L0X F7L0)]
theorem F7L0is : ∀ x, DT.Is (runL Tryz.prog cfg52 1000 (lsOf F7R) 7 0 F7L0S F7L0X x) (F7L0 x) := fun x => by unfold DT.Is; kernel_rfl
theorem F7is : ∀ x, DT.Is (runF Tryz.prog cfg52 1000 (lsOf F7R) 7 F7A F7B x) (F7 x) := fun x => by unfold DT.Is; kernel_rfl
noncomputable def F7.fn (x : List Spt × List Spt × Unit) : Bool × Unit := (F7 x).fn
noncomputable def F7.pre (x : List Spt × List Spt × Unit) : Prop := (F7 x).pre
theorem F7ok : DataOk Tryz.prog 7 F7A F7B F7.pre F7.fn := data_of_tree F7A F7B F7 cfg52ok (.of_all cfg52ok (.cons (rule_of_tree F7L0S F7L0X F7L0 (F7L0is)) .nil)) F7is
noncomputable def F7C : Con Tryz.prog := conD 7 F7A F7B F7.pre F7.fn F7ok (by kernel_rfl)
noncomputable def cfgL53 : List (Con Tryz.prog) := F7C :: cfgL52
noncomputable def cfg53 : Cfg := cfgOf cfgL53
theorem cfg53ok : CfgOk Tryz.prog cfg53 := cfgOf_ok cfgnamed cfgmixed _
/-! 5 veneer/veneerlaw11.such -/
def F5L0S : Shape := ⟨[(1, .val (.ptr 0 0)), (3, .v (.one (.int .i64)))], [(0, 7, [.v (.one (.row (.one (.int .i64)))), .v (.one (.int .i64)), .v (.one (.row Dk)), .v (.one (.int .i64)), .v (.one (.row Rw)), .v (.one (.row Rw)), .v (.one (.int .i64))])], 1⟩
def F5L0S0 : Shape := ⟨[(2, .v (.one .bool))], [], 1⟩
def F5L0S1 : Shape := ⟨[], [], 1⟩
def F5L0X : List (Option Nat × Shape) := [(none, F5L0S0), (some 0, F5L0S1)]
noncomputable def F5L0 (x : Unit × Int × List (Int) × Int × List Dkt × Int × List Rwt × List Rwt × Int × Unit) : DT ((Unit × Int × List (Int) × Int × List Dkt × Int × List Rwt × List Rwt × Int × Unit) ⊕ ((Bool × Unit) ⊕ (Unit) ⊕ Empty)) :=
  .node [] (decide (x.2.1 < (Int.ofNat (List.length x.2.2.2.2.1))))
    (let y0 := F21.fn ((@id (Dkt) (xsAt Dk x.2.2.2.2.1 (Int.toNat x.2.1))), ())
    .node [F21.pre ((@id (Dkt) (xsAt Dk x.2.2.2.2.1 (Int.toNat x.2.1))), ()), 0 ≤ x.2.1, x.2.1 < Int.ofNat (List.length x.2.2.2.2.1)] (!y0.1)
      (.leaf [] (.inr (.inl (false, ()))))
      (.leaf [] (.inl ((), (wrp .i64 (x.2.1 + (1 : Int))), x.2.2.1, x.2.2.2.1, x.2.2.2.2.1, x.2.2.2.2.2.1, x.2.2.2.2.2.2.1, x.2.2.2.2.2.2.2.1, x.2.2.2.2.2.2.2.2.1, ()))))
    (.leaf [] (.inr (.inr (.inl ()))))
noncomputable def F5 (x : Wdt × Unit) : DT (Bool × Unit) :=
  let y0 := F19.fn (x.1.2.2.1, ())
  .node [F19.pre (x.1.2.2.1, ())] y0.1
    (.leaf [] (false, ()))
    (.node [] (decide ((Int.ofNat (List.length x.1.2.2.2.2.1)) > (300 : Int)))
      (.leaf [] (false, ()))
      (.node [] (decide ((Int.ofNat (List.length x.1.2.2.2.2.2.1)) > (300 : Int)))
        (.leaf [] (false, ()))
        (let y1 := F20.fn ((x.1.1, x.1.2.1), ())
        .node [F20.pre ((x.1.1, x.1.2.1), ())] (!y1.1)
          (.leaf [] (false, ()))
          (.node [] ((Int.ofNat (List.length x.1.2.2.1)) != (Int.ofNat (List.length x.1.1)))
            (.leaf [] (false, ()))
            (let y2 := loopOut F5L0 ((), (0 : Int), x.1.1, x.1.2.1, x.1.2.2.1, x.1.2.2.2.1, x.1.2.2.2.2.1, x.1.2.2.2.2.2.1, x.1.2.2.2.2.2.2, ())
            .node [loopInv F5L0 ((), (0 : Int), x.1.1, x.1.2.1, x.1.2.2.1, x.1.2.2.2.1, x.1.2.2.2.2.1, x.1.2.2.2.2.2.1, x.1.2.2.2.2.2.2, ())] (isL y2)
              (let y3 : Bool × Unit := getL (Shape.z F5L0S0) y2
              .leaf [] (y3.1, ()))
              (let y3 : Unit := getL (Shape.z F5L0S1) (restR y2)
              .leaf [] (true, ())))))))
abbrev F5A : List AT := [.v (.agg Wd)]
abbrev F5B : List AT := [.v (.one .bool)]
noncomputable def F5R : List (Nat × Rule) := [(0, ruleOf F5L0S F5L0X F5L0)]
theorem F5L0is : ∀ x, DT.Is (runL Tryz.prog cfg53 1000 (lsOf F5R) 5 0 F5L0S F5L0X x) (F5L0 x) := fun x => by unfold DT.Is; kernel_rfl
theorem F5is : ∀ x, DT.Is (runF Tryz.prog cfg53 1000 (lsOf F5R) 5 F5A F5B x) (F5 x) := fun x => by unfold DT.Is; kernel_rfl
noncomputable def F5.fn (x : Wdt × Unit) : Bool × Unit := (F5 x).fn
noncomputable def F5.pre (x : Wdt × Unit) : Prop := (F5 x).pre
theorem F5ok : DataOk Tryz.prog 5 F5A F5B F5.pre F5.fn := data_of_tree F5A F5B F5 cfg53ok (.of_all cfg53ok (.cons (rule_of_tree F5L0S F5L0X F5L0 (F5L0is)) .nil)) F5is
noncomputable def F5C : Con Tryz.prog := conD 5 F5A F5B F5.pre F5.fn F5ok (by kernel_rfl)
noncomputable def cfgL54 : List (Con Tryz.prog) := F5C :: cfgL53
noncomputable def cfg54 : Cfg := cfgOf cfgL54
theorem cfg54ok : CfgOk Tryz.prog cfg54 := cfgOf_ok cfgnamed cfgmixed _
/-! 40 veneer/seen.kept -/
noncomputable def F40 (x : List UInt8 × Unit) : DT (Bool × Unit) :=
  .node [] (decide ((Int.ofNat (List.length x.1)) ≥ (4 : Int)))
    (.leaf [0 ≤ (4 : Int), (4 : Int) ≤ Int.ofNat (List.length x.1)] (((List.take (Int.toNat (4 : Int)) x.1) == (dec 4 779577390 [])), ()))
    (.leaf [] (false, ()))
abbrev F40A : List AT := [.v (.one .str)]
abbrev F40B : List AT := [.v (.one .bool)]
theorem F40is : ∀ x, DT.Is (runF Tryz.prog cfg54 1000 noL 40 F40A F40B x) (F40 x) := fun x => by unfold DT.Is; kernel_rfl
noncomputable def F40.fn (x : List UInt8 × Unit) : Bool × Unit := (F40 x).fn
noncomputable def F40.pre (x : List UInt8 × Unit) : Prop := (F40 x).pre
theorem F40ok : DataOk Tryz.prog 40 F40A F40B F40.pre F40.fn := data_of_tree F40A F40B F40 cfg54ok FnLoops.none F40is
noncomputable def F40C : Con Tryz.prog := conD 40 F40A F40B F40.pre F40.fn F40ok (by kernel_rfl)
noncomputable def cfgL55 : List (Con Tryz.prog) := F40C :: cfgL54
noncomputable def cfg55 : Cfg := cfgOf cfgL55
theorem cfg55ok : CfgOk Tryz.prog cfg55 := cfgOf_ok cfgnamed cfgmixed _
/-! 68 slices.IndexFunc[[]string,string] -/
def F68_39L0S : Shape := ⟨[(0, .v (.one (.row (.one .str)))), (1, .clo 39 [Wd, (.one (.row Sp))]), (7, .v (.one (.int .i64))), (8, .v (.one (.int .i64)))], [], 0⟩
def F68_39L0S0 : Shape := ⟨[(4, .v (.one (.int .i64)))], [], 0⟩
def F68_39L0S1 : Shape := ⟨[], [], 0⟩
def F68_39L0X : List (Option Nat × Shape) := [(none, F68_39L0S0), (some 0, F68_39L0S1)]
noncomputable def F68_39L0 (x : List (List UInt8) × (Wdt × (List Spt) × Unit) × Int × Int × Unit) : DT ((List (List UInt8) × (Wdt × (List Spt) × Unit) × Int × Int × Unit) ⊕ ((Int × Unit) ⊕ (Unit) ⊕ Empty)) :=
  .node [] (decide (x.2.2.2.1 < x.2.2.1))
    (let y0 := F40.fn ((@id (List UInt8) (xsAt (.one .str) x.1 (Int.toNat x.2.2.2.1))), ())
    .node [F40.pre ((@id (List UInt8) (xsAt (.one .str) x.1 (Int.toNat x.2.2.2.1))), ()), 0 ≤ x.2.2.2.1, x.2.2.2.1 < Int.ofNat (List.length x.1)] y0.1
      (.leaf [] (.inr (.inl (x.2.2.2.1, ()))))
      (let y1 := F16.fn ((@id (Wdt) (xsAt Wd [x.2.1.1] 0)), (@id (List (Int × Int)) (xsAt (.one (.row Sp)) [x.2.1.2.1] 0)), (@id (List UInt8) (xsAt (.one .str) x.1 (Int.toNat x.2.2.2.1))), ())
      .node [F16.pre ((@id (Wdt) (xsAt Wd [x.2.1.1] 0)), (@id (List (Int × Int)) (xsAt (.one (.row Sp)) [x.2.1.2.1] 0)), (@id (List UInt8) (xsAt (.one .str) x.1 (Int.toNat x.2.2.2.1))), ())] ((Int.ofNat (List.length y1.1)) == (0 : Int))
        (.leaf [] (.inr (.inl (x.2.2.2.1, ()))))
        (.leaf [] (.inl (x.1, ((@id (Wdt) (xsAt Wd [x.2.1.1] 0)), (@id (List (Int × Int)) (xsAt (.one (.row Sp)) [x.2.1.2.1] 0)), ()), x.2.2.1, (wrp .i64 (x.2.2.2.1 + (1 : Int))), ())))))
    (.leaf [] (.inr (.inr (.inl ()))))
noncomputable def F68_39 (x : List (List UInt8) × (Wdt × (List Spt) × Unit) × Unit) : DT (Int × Unit) :=
  let y0 := loopOut F68_39L0 (x.1, ((@id (Wdt) (xsAt Wd [x.2.1.1] 0)), (@id (List (Int × Int)) (xsAt (.one (.row Sp)) [x.2.1.2.1] 0)), ()), (Int.ofNat (List.length x.1)), (0 : Int), ())
  .node [loopInv F68_39L0 (x.1, ((@id (Wdt) (xsAt Wd [x.2.1.1] 0)), (@id (List (Int × Int)) (xsAt (.one (.row Sp)) [x.2.1.2.1] 0)), ()), (Int.ofNat (List.length x.1)), (0 : Int), ())] (isL y0)
    (let y1 : Int × Unit := getL (Shape.z F68_39L0S0) y0
    .leaf [] (y1.1, ()))
    (let y1 : Unit := getL (Shape.z F68_39L0S1) (restR y0)
    .leaf [] ((-1 : Int), ()))
abbrev F68_39A : List AT := [.v (.one (.row (.one .str))), .clo 39 [Wd, (.one (.row Sp))]]
abbrev F68_39B : List AT := [.v (.one (.int .i64))]
noncomputable def F68_39R : List (Nat × Rule) := [(0, ruleOf F68_39L0S F68_39L0X F68_39L0)]
theorem F68_39L0is : ∀ x, DT.Is (runL Tryz.prog cfg55 1000 (lsOf F68_39R) 68 0 F68_39L0S F68_39L0X x) (F68_39L0 x) := fun x => by unfold DT.Is; kernel_rfl
theorem F68_39is : ∀ x, DT.Is (runF Tryz.prog cfg55 1000 (lsOf F68_39R) 68 F68_39A F68_39B x) (F68_39 x) := fun x => by unfold DT.Is; kernel_rfl
noncomputable def F68_39.fn (x : List (List UInt8) × (Wdt × (List Spt) × Unit) × Unit) : Int × Unit := (F68_39 x).fn
noncomputable def F68_39.pre (x : List (List UInt8) × (Wdt × (List Spt) × Unit) × Unit) : Prop := (F68_39 x).pre
theorem F68_39ok : DataOk Tryz.prog 68 F68_39A F68_39B F68_39.pre F68_39.fn := data_of_tree F68_39A F68_39B F68_39 cfg55ok (.of_all cfg55ok (.cons (rule_of_tree F68_39L0S F68_39L0X F68_39L0 (F68_39L0is)) .nil)) F68_39is
noncomputable def F68_39C : Con Tryz.prog := conD 68 F68_39A F68_39B F68_39.pre F68_39.fn F68_39ok (by kernel_rfl)
noncomputable def cfgL56 : List (Con Tryz.prog) := F68_39C :: cfgL55
noncomputable def cfg56 : Cfg := cfgOf cfgL56
theorem cfg56ok : CfgOk Tryz.prog cfg56 := cfgOf_ok cfgnamed cfgmixed _
/-! 38 slices.DeleteFunc[[]string,string] -/
def F38_39L0S : Shape := ⟨[(0, .own (.one .str)), (1, .clo 39 [Wd, (.one (.row Sp))]), (5, .v (.one (.int .i64))), (6, .v (.one (.int .i64)))], [], 1⟩
def F38_39L0S0 : Shape := ⟨[(0, .own (.one .str)), (5, .v (.one (.int .i64)))], [], 1⟩
def F38_39L0X : List (Option Nat × Shape) := [(some 0, F38_39L0S0)]
noncomputable def F38_39L0 (x : List (List UInt8) × (Wdt × (List Spt) × Unit) × Int × Int × Unit) : DT ((List (List UInt8) × (Wdt × (List Spt) × Unit) × Int × Int × Unit) ⊕ ((List (List UInt8) × Int × Unit) ⊕ Empty)) :=
  .node [] (decide (x.2.2.2.1 < (Int.ofNat (List.length x.1))))
    (let y0 := F40.fn ((@id (List UInt8) (xsAt (.one .str) x.1 (0 + Int.toNat x.2.2.2.1))), ())
    .node [F40.pre ((@id (List UInt8) (xsAt (.one .str) x.1 (0 + Int.toNat x.2.2.2.1))), ()), 0 ≤ x.2.2.2.1, x.2.2.2.1 < Int.ofNat (List.length x.1)] y0.1
      (.leaf [] (.inl (x.1, ((@id (Wdt) (xsAt Wd [x.2.1.1] 0)), (@id (List (Int × Int)) (xsAt (.one (.row Sp)) [x.2.1.2.1] 0)), ()), x.2.2.1, (wrp .i64 (x.2.2.2.1 + (1 : Int))), ())))
      (let y1 := F16.fn ((@id (Wdt) (xsAt Wd [x.2.1.1] 0)), (@id (List (Int × Int)) (xsAt (.one (.row Sp)) [x.2.1.2.1] 0)), (@id (List UInt8) (xsAt (.one .str) x.1 (0 + Int.toNat x.2.2.2.1))), ())
      .node [F16.pre ((@id (Wdt) (xsAt Wd [x.2.1.1] 0)), (@id (List (Int × Int)) (xsAt (.one (.row Sp)) [x.2.1.2.1] 0)), (@id (List UInt8) (xsAt (.one .str) x.1 (0 + Int.toNat x.2.2.2.1))), ())] (!((Int.ofNat (List.length y1.1)) == (0 : Int)))
        (.leaf [0 ≤ x.2.2.1, x.2.2.1 < Int.ofNat (List.length x.1)] (.inl ((List.set x.1 (0 + Int.toNat x.2.2.1) (@id (List UInt8) (xsAt (.one .str) x.1 (0 + Int.toNat x.2.2.2.1)))), ((@id (Wdt) (xsAt Wd [x.2.1.1] 0)), (@id (List (Int × Int)) (xsAt (.one (.row Sp)) [x.2.1.2.1] 0)), ()), (wrp .i64 (x.2.2.1 + (1 : Int))), (wrp .i64 (x.2.2.2.1 + (1 : Int))), ())))
        (.leaf [] (.inl (x.1, ((@id (Wdt) (xsAt Wd [x.2.1.1] 0)), (@id (List (Int × Int)) (xsAt (.one (.row Sp)) [x.2.1.2.1] 0)), ()), x.2.2.1, (wrp .i64 (x.2.2.2.1 + (1 : Int))), ())))))
    (.leaf [] (.inr (.inl (x.1, x.2.2.1, ()))))
noncomputable def F38_39 (x : List (List UInt8) × (Wdt × (List Spt) × Unit) × Unit) : DT (List (List UInt8) × Unit) :=
  let y0 := F68_39.fn (x.1, ((@id (Wdt) (xsAt Wd [x.2.1.1] 0)), (@id (List (Int × Int)) (xsAt (.one (.row Sp)) [x.2.1.2.1] 0)), ()), ())
  .node [F68_39.pre (x.1, ((@id (Wdt) (xsAt Wd [x.2.1.1] 0)), (@id (List (Int × Int)) (xsAt (.one (.row Sp)) [x.2.1.2.1] 0)), ()), ())] (y0.1 == (-1 : Int))
    (.leaf [] (x.1, ()))
    (let y1 := loopOut F38_39L0 (x.1, ((@id (Wdt) (xsAt Wd [x.2.1.1] 0)), (@id (List (Int × Int)) (xsAt (.one (.row Sp)) [x.2.1.2.1] 0)), ()), y0.1, (wrp .i64 (y0.1 + (1 : Int))), ())
    let y2 : List (List UInt8) × Int × Unit := getL (Shape.z F38_39L0S0) y1
    .leaf [0 ≤ y2.2.1, y2.2.1 ≤ Int.ofNat (List.length y2.1), 0 ≤ y2.2.1, y2.2.1 ≤ Int.ofNat (List.length y2.1), loopInv F38_39L0 (x.1, ((@id (Wdt) (xsAt Wd [x.2.1.1] 0)), (@id (List (Int × Int)) (xsAt (.one (.row Sp)) [x.2.1.2.1] 0)), ()), y0.1, (wrp .i64 (y0.1 + (1 : Int))), ())] ((List.take (Int.toNat y2.2.1) (List.drop 0 (List.take (0 + (Int.toNat y2.2.1)) y2.1 ++ List.replicate ((List.length y2.1) - (Int.toNat y2.2.1)) [] ++ List.drop ((0 + (Int.toNat y2.2.1)) + ((List.length y2.1) - (Int.toNat y2.2.1))) y2.1))), ()))
abbrev F38_39A : List AT := [.own (.one .str), .clo 39 [Wd, (.one (.row Sp))]]
abbrev F38_39B : List AT := [.v (.one (.row (.one .str)))]
noncomputable def F38_39R : List (Nat × Rule) := [(0, ruleOf F38_39L0S F38_39L0X F38_39L0)]
theorem F38_39L0is : ∀ x, DT.Is (runL Tryz.prog cfg56 1000 (lsOf F38_39R) 38 0 F38_39L0S F38_39L0X x) (F38_39L0 x) := fun x => by unfold DT.Is; kernel_rfl
theorem F38_39is : ∀ x, DT.Is (runF Tryz.prog cfg56 1000 (lsOf F38_39R) 38 F38_39A F38_39B x) (F38_39 x) := fun x => by unfold DT.Is; kernel_rfl
noncomputable def F38_39.fn (x : List (List UInt8) × (Wdt × (List Spt) × Unit) × Unit) : List (List UInt8) × Unit := (F38_39 x).fn
noncomputable def F38_39.pre (x : List (List UInt8) × (Wdt × (List Spt) × Unit) × Unit) : Prop := (F38_39 x).pre
theorem F38_39ok : DataOk Tryz.prog 38 F38_39A F38_39B F38_39.pre F38_39.fn := data_of_tree F38_39A F38_39B F38_39 cfg56ok (.of_all cfg56ok (.cons (rule_of_tree F38_39L0S F38_39L0X F38_39L0 (F38_39L0is)) .nil)) F38_39is
noncomputable def F38_39C : Con Tryz.prog := conD 38 F38_39A F38_39B F38_39.pre F38_39.fn F38_39ok (by kernel_rfl)
noncomputable def cfgL57 : List (Con Tryz.prog) := F38_39C :: cfgL56
noncomputable def cfg57 : Cfg := cfgOf cfgL57
theorem cfg57ok : CfgOk Tryz.prog cfg57 := cfgOf_ok cfgnamed cfgmixed _
/-! 18 veneer/seen.Names -/
def F18L1S : Shape := ⟨[(2, .val (.ptr 0 0)), (3, .val (.ptr 1 0)), (5, .own (.one .str)), (10, .v (.one (.row Sp))), (11, .v (.one (.int .i64))), (12, .v (.one (.int .i64))), (19, .v (.one (.row Nm))), (20, .v (.one (.int .i64))), (21, .v (.one (.int .i64)))], [(0, 7, [.v (.one (.row (.one (.int .i64)))), .v (.one (.int .i64)), .v (.one (.row Dk)), .v (.one (.int .i64)), .v (.one (.row Rw)), .v (.one (.row Rw)), .v (.one (.int .i64))]), (1, 1, [.v (.one (.row Sp))])], 4⟩
def F18L1S0 : Shape := ⟨[(2, .val (.ptr 0 0)), (3, .val (.ptr 1 0)), (5, .own (.one .str)), (10, .v (.one (.row Sp))), (11, .v (.one (.int .i64))), (12, .v (.one (.int .i64)))], [(0, 7, [.v (.one (.row (.one (.int .i64)))), .v (.one (.int .i64)), .v (.one (.row Dk)), .v (.one (.int .i64)), .v (.one (.row Rw)), .v (.one (.row Rw)), .v (.one (.int .i64))]), (1, 1, [.v (.one (.row Sp))])], 4⟩
def F18L1X : List (Option Nat × Shape) := [(some 2, F18L1S0)]
noncomputable def F18L1 (x : Unit × Unit × List (List UInt8) × List Spt × Int × Int × List Nmt × Int × Int × List (Int) × Int × List Dkt × Int × List Rwt × List Rwt × Int × List Spt × Unit) : DT ((Unit × Unit × List (List UInt8) × List Spt × Int × Int × List Nmt × Int × Int × List (Int) × Int × List Dkt × Int × List Rwt × List Rwt × Int × List Spt × Unit) ⊕ ((Unit × Unit × List (List UInt8) × List Spt × Int × Int × List (Int) × Int × List Dkt × Int × List Rwt × List Rwt × Int × List Spt × Unit) ⊕ Empty)) :=
  .node [] (decide (x.2.2.2.2.2.2.2.2.1 < x.2.2.2.2.2.2.2.1))
    (.leaf [(List.length (x.2.2.1 ++ ((@id (Nmt) (xsAt Nm x.2.2.2.2.2.2.1 (Int.toNat x.2.2.2.2.2.2.2.2.1))).1 :: []))) * 16 ≤ Room, 0 ≤ x.2.2.2.2.2.2.2.2.1, x.2.2.2.2.2.2.2.2.1 < Int.ofNat (List.length x.2.2.2.2.2.2.1)] (.inl ((), (), (x.2.2.1 ++ ((@id (Nmt) (xsAt Nm x.2.2.2.2.2.2.1 (Int.toNat x.2.2.2.2.2.2.2.2.1))).1 :: [])), x.2.2.2.1, x.2.2.2.2.1, x.2.2.2.2.2.1, x.2.2.2.2.2.2.1, x.2.2.2.2.2.2.2.1, (wrp .i64 (x.2.2.2.2.2.2.2.2.1 + (1 : Int))), x.2.2.2.2.2.2.2.2.2.1, x.2.2.2.2.2.2.2.2.2.2.1, x.2.2.2.2.2.2.2.2.2.2.2.1, x.2.2.2.2.2.2.2.2.2.2.2.2.1, x.2.2.2.2.2.2.2.2.2.2.2.2.2.1, x.2.2.2.2.2.2.2.2.2.2.2.2.2.2.1, x.2.2.2.2.2.2.2.2.2.2.2.2.2.2.2.1, x.2.2.2.2.2.2.2.2.2.2.2.2.2.2.2.2.1, ())))
    (.leaf [] (.inr (.inl ((), (), x.2.2.1, x.2.2.2.1, x.2.2.2.2.1, x.2.2.2.2.2.1, x.2.2.2.2.2.2.2.2.2.1, x.2.2.2.2.2.2.2.2.2.2.1, x.2.2.2.2.2.2.2.2.2.2.2.1, x.2.2.2.2.2.2.2.2.2.2.2.2.1, x.2.2.2.2.2.2.2.2.2.2.2.2.2.1, x.2.2.2.2.2.2.2.2.2.2.2.2.2.2.1, x.2.2.2.2.2.2.2.2.2.2.2.2.2.2.2.1, x.2.2.2.2.2.2.2.2.2.2.2.2.2.2.2.2.1, ()))))
def F18L0S : Shape := ⟨[(2, .val (.ptr 0 0)), (3, .val (.ptr 1 0)), (5, .own (.one .str)), (10, .v (.one (.row Sp))), (11, .v (.one (.int .i64))), (12, .v (.one (.int .i64)))], [(0, 7, [.v (.one (.row (.one (.int .i64)))), .v (.one (.int .i64)), .v (.one (.row Dk)), .v (.one (.int .i64)), .v (.one (.row Rw)), .v (.one (.row Rw)), .v (.one (.int .i64))]), (1, 1, [.v (.one (.row Sp))])], 2⟩
def F18L0S0 : Shape := ⟨[(2, .val (.ptr 0 0)), (3, .val (.ptr 1 0)), (5, .own (.one .str))], [(0, 7, [.v (.one (.row (.one (.int .i64)))), .v (.one (.int .i64)), .v (.one (.row Dk)), .v (.one (.int .i64)), .v (.one (.row Rw)), .v (.one (.row Rw)), .v (.one (.int .i64))]), (1, 1, [.v (.one (.row Sp))])], 2⟩
def F18L0X : List (Option Nat × Shape) := [(some 0, F18L0S0)]
noncomputable def F18L0 (x : Unit × Unit × List (List UInt8) × List Spt × Int × Int × List (Int) × Int × List Dkt × Int × List Rwt × List Rwt × Int × List Spt × Unit) : DT ((Unit × Unit × List (List UInt8) × List Spt × Int × Int × List (Int) × Int × List Dkt × Int × List Rwt × List Rwt × Int × List Spt × Unit) ⊕ ((Unit × Unit × List (List UInt8) × List (Int) × Int × List Dkt × Int × List Rwt × List Rwt × Int × List Spt × Unit) ⊕ Empty)) :=
  .node [] (decide (x.2.2.2.2.2.1 < x.2.2.2.2.1))
    (let y0 := F35.fn ((x.2.2.2.2.2.2.1, (x.2.2.2.2.2.2.2.1, (x.2.2.2.2.2.2.2.2.1, (x.2.2.2.2.2.2.2.2.2.1, (x.2.2.2.2.2.2.2.2.2.2.1, (x.2.2.2.2.2.2.2.2.2.2.2.1, x.2.2.2.2.2.2.2.2.2.2.2.2.1)))))), (@id (Spt) (xsAt Sp x.2.2.2.1 (Int.toNat x.2.2.2.2.2.1))), ())
    let y1 := loopOut F18L1 ((), (), x.2.2.1, x.2.2.2.1, x.2.2.2.2.1, x.2.2.2.2.2.1, y0.1.2.2.2.2.2.2.2, (Int.ofNat (List.length y0.1.2.2.2.2.2.2.2)), (0 : Int), x.2.2.2.2.2.2.1, x.2.2.2.2.2.2.2.1, x.2.2.2.2.2.2.2.2.1, x.2.2.2.2.2.2.2.2.2.1, x.2.2.2.2.2.2.2.2.2.2.1, x.2.2.2.2.2.2.2.2.2.2.2.1, x.2.2.2.2.2.2.2.2.2.2.2.2.1, x.2.2.2.2.2.2.2.2.2.2.2.2.2.1, ())
    let y2 : Unit × Unit × List (List UInt8) × List Spt × Int × Int × List (Int) × Int × List Dkt × Int × List Rwt × List Rwt × Int × List Spt × Unit := getL (Shape.z F18L1S0) y1
    .leaf [loopInv F18L1 ((), (), x.2.2.1, x.2.2.2.1, x.2.2.2.2.1, x.2.2.2.2.2.1, y0.1.2.2.2.2.2.2.2, (Int.ofNat (List.length y0.1.2.2.2.2.2.2.2)), (0 : Int), x.2.2.2.2.2.2.1, x.2.2.2.2.2.2.2.1, x.2.2.2.2.2.2.2.2.1, x.2.2.2.2.2.2.2.2.2.1, x.2.2.2.2.2.2.2.2.2.2.1, x.2.2.2.2.2.2.2.2.2.2.2.1, x.2.2.2.2.2.2.2.2.2.2.2.2.1, x.2.2.2.2.2.2.2.2.2.2.2.2.2.1, ()), F35.pre ((x.2.2.2.2.2.2.1, (x.2.2.2.2.2.2.2.1, (x.2.2.2.2.2.2.2.2.1, (x.2.2.2.2.2.2.2.2.2.1, (x.2.2.2.2.2.2.2.2.2.2.1, (x.2.2.2.2.2.2.2.2.2.2.2.1, x.2.2.2.2.2.2.2.2.2.2.2.2.1)))))), (@id (Spt) (xsAt Sp x.2.2.2.1 (Int.toNat x.2.2.2.2.2.1))), ()), 0 ≤ x.2.2.2.2.2.1, x.2.2.2.2.2.1 < Int.ofNat (List.length x.2.2.2.1)] (.inl ((), (), y2.2.2.1, y2.2.2.2.1, y2.2.2.2.2.1, (wrp .i64 (y2.2.2.2.2.2.1 + (1 : Int))), y2.2.2.2.2.2.2.1, y2.2.2.2.2.2.2.2.1, y2.2.2.2.2.2.2.2.2.1, y2.2.2.2.2.2.2.2.2.2.1, y2.2.2.2.2.2.2.2.2.2.2.1, y2.2.2.2.2.2.2.2.2.2.2.2.1, y2.2.2.2.2.2.2.2.2.2.2.2.2.1, y2.2.2.2.2.2.2.2.2.2.2.2.2.2.1, ())))
    (.leaf [] (.inr (.inl ((), (), x.2.2.1, x.2.2.2.2.2.2.1, x.2.2.2.2.2.2.2.1, x.2.2.2.2.2.2.2.2.1, x.2.2.2.2.2.2.2.2.2.1, x.2.2.2.2.2.2.2.2.2.2.1, x.2.2.2.2.2.2.2.2.2.2.2.1, x.2.2.2.2.2.2.2.2.2.2.2.2.1, x.2.2.2.2.2.2.2.2.2.2.2.2.2.1, ()))))
noncomputable def F18 (x : Wdt × List Spt × Unit) : DT (List (List UInt8) × Unit) :=
  let y0 := loopOut F18L0 ((), (), [], x.2.1, (Int.ofNat (List.length x.2.1)), (0 : Int), x.1.1, x.1.2.1, x.1.2.2.1, x.1.2.2.2.1, x.1.2.2.2.2.1, x.1.2.2.2.2.2.1, x.1.2.2.2.2.2.2, x.2.1, ())
  let y1 : Unit × Unit × List (List UInt8) × List (Int) × Int × List Dkt × Int × List Rwt × List Rwt × Int × List Spt × Unit := getL (Shape.z F18L0S0) y0
  let y2 := F36.fn y1.2.2.1
  let y3 := F37.fn (y2, ())
  let y4 := F38_39.fn (y3.1, ((y1.2.2.2.1, (y1.2.2.2.2.1, (y1.2.2.2.2.2.1, (y1.2.2.2.2.2.2.1, (y1.2.2.2.2.2.2.2.1, (y1.2.2.2.2.2.2.2.2.1, y1.2.2.2.2.2.2.2.2.2.1)))))), y1.2.2.2.2.2.2.2.2.2.2.1, ()), ())
  .leaf [F38_39.pre (y3.1, ((y1.2.2.2.1, (y1.2.2.2.2.1, (y1.2.2.2.2.2.1, (y1.2.2.2.2.2.2.1, (y1.2.2.2.2.2.2.2.1, (y1.2.2.2.2.2.2.2.2.1, y1.2.2.2.2.2.2.2.2.2.1)))))), y1.2.2.2.2.2.2.2.2.2.2.1, ()), ()), F37.pre (y2, ()), F36.pre y1.2.2.1, loopInv F18L0 ((), (), [], x.2.1, (Int.ofNat (List.length x.2.1)), (0 : Int), x.1.1, x.1.2.1, x.1.2.2.1, x.1.2.2.2.1, x.1.2.2.2.2.1, x.1.2.2.2.2.2.1, x.1.2.2.2.2.2.2, x.2.1, ())] (y4.1, ())
abbrev F18A : List AT := [.v (.agg Wd), .v (.one (.row Sp))]
abbrev F18B : List AT := [.v (.one (.row (.one .str)))]
noncomputable def F18R : List (Nat × Rule) := [(1, ruleOf F18L1S F18L1X F18L1), (0, ruleOf F18L0S F18L0X F18L0)]
theorem F18L1is : ∀ x, DT.Is (runL Tryz.prog cfg57 1000 (lsOf F18R) 18 1 F18L1S F18L1X x) (F18L1 x) := fun x => by unfold DT.Is; kernel_rfl
theorem F18L0is : ∀ x, DT.Is (runL Tryz.prog cfg57 1000 (lsOf F18R) 18 0 F18L0S F18L0X x) (F18L0 x) := fun x => by unfold DT.Is; kernel_rfl
theorem F18is : ∀ x, DT.Is (runF Tryz.prog cfg57 1000 (lsOf F18R) 18 F18A F18B x) (F18 x) := fun x => by unfold DT.Is; kernel_rfl
noncomputable def F18.fn (x : Wdt × List Spt × Unit) : List (List UInt8) × Unit := (F18 x).fn
noncomputable def F18.pre (x : Wdt × List Spt × Unit) : Prop := (F18 x).pre
theorem F18ok : DataOk Tryz.prog 18 F18A F18B F18.pre F18.fn := data_of_tree F18A F18B F18 cfg57ok (.of_all cfg57ok (.cons (rule_of_tree F18L1S F18L1X F18L1 (F18L1is)) (.cons (rule_of_tree F18L0S F18L0X F18L0 (F18L0is)) .nil))) F18is
noncomputable def F18C : Con Tryz.prog := conD 18 F18A F18B F18.pre F18.fn F18ok (by kernel_rfl)
noncomputable def cfgL58 : List (Con Tryz.prog) := F18C :: cfgL57
noncomputable def cfg58 : Cfg := cfgOf cfgL58
theorem cfg58ok : CfgOk Tryz.prog cfg58 := cfgOf_ok cfgnamed cfgmixed _
/-! 22 veneer/veneerref1.Same -/
def F22L0S : Shape := ⟨[(0, .v (.one (.row (.one .str)))), (1, .v (.one (.row (.one .str)))), (5, .v (.one (.int .i64)))], [], 0⟩
def F22L0S0 : Shape := ⟨[(4, .v (.one .bool))], [], 0⟩
def F22L0S1 : Shape := ⟨[], [], 0⟩
def F22L0X : List (Option Nat × Shape) := [(none, F22L0S0), (some 0, F22L0S1)]
noncomputable def F22L0 (x : List (List UInt8) × List (List UInt8) × Int × Unit) : DT ((List (List UInt8) × List (List UInt8) × Int × Unit) ⊕ ((Bool × Unit) ⊕ (Unit) ⊕ Empty)) :=
  .node [] (decide (x.2.2.1 < (Int.ofNat (List.length x.1))))
    (.node [0 ≤ x.2.2.1, x.2.2.1 < Int.ofNat (List.length x.2.1), 0 ≤ x.2.2.1, x.2.2.1 < Int.ofNat (List.length x.1)] (!((@id (List UInt8) (xsAt (.one .str) x.1 (Int.toNat x.2.2.1))) == (@id (List UInt8) (xsAt (.one .str) x.2.1 (Int.toNat x.2.2.1)))))
      (.leaf [] (.inr (.inl (false, ()))))
      (.leaf [] (.inl (x.1, x.2.1, (wrp .i64 (x.2.2.1 + (1 : Int))), ()))))
    (.leaf [] (.inr (.inr (.inl ()))))
noncomputable def F22 (x : List (List UInt8) × List (List UInt8) × Unit) : DT (Bool × Unit) :=
  .node [] ((Int.ofNat (List.length x.1)) != (Int.ofNat (List.length x.2.1)))
    (.leaf [] (false, ()))
    (let y0 := loopOut F22L0 (x.1, x.2.1, (0 : Int), ())
    .node [loopInv F22L0 (x.1, x.2.1, (0 : Int), ())] (isL y0)
      (let y1 : Bool × Unit := getL (Shape.z F22L0S0) y0
      .leaf [] (y1.1, ()))
      (let y1 : Unit := getL (Shape.z F22L0S1) (restR y0)
      .leaf [] (true, ())))
abbrev F22A : List AT := [.v (.one (.row (.one .str))), .v (.one (.row (.one .str)))]
abbrev F22B : List AT := [.v (.one .bool)]
noncomputable def F22R : List (Nat × Rule) := [(0, ruleOf F22L0S F22L0X F22L0)]
theorem F22L0is : ∀ x, DT.Is (runL Tryz.prog cfg58 1000 (lsOf F22R) 22 0 F22L0S F22L0X x) (F22L0 x) := fun x => by unfold DT.Is; kernel_rfl
theorem F22is : ∀ x, DT.Is (runF Tryz.prog cfg58 1000 (lsOf F22R) 22 F22A F22B x) (F22 x) := fun x => by unfold DT.Is; kernel_rfl
noncomputable def F22.fn (x : List (List UInt8) × List (List UInt8) × Unit) : Bool × Unit := (F22 x).fn
noncomputable def F22.pre (x : List (List UInt8) × List (List UInt8) × Unit) : Prop := (F22 x).pre
theorem F22ok : DataOk Tryz.prog 22 F22A F22B F22.pre F22.fn := data_of_tree F22A F22B F22 cfg58ok (.of_all cfg58ok (.cons (rule_of_tree F22L0S F22L0X F22L0 (F22L0is)) .nil)) F22is
noncomputable def F22C : Con Tryz.prog := conD 22 F22A F22B F22.pre F22.fn F22ok (by kernel_rfl)
noncomputable def cfgL59 : List (Con Tryz.prog) := F22C :: cfgL58
noncomputable def cfg59 : Cfg := cfgOf cfgL59
theorem cfg59ok : CfgOk Tryz.prog cfg59 := cfgOf_ok cfgnamed cfgmixed _
/-! 9 veneer/veneerlaw11.told -/
noncomputable def F9 (x : Wdt × List Spt × List UInt8 × Unit) : DT (Bool × Unit) :=
  let y0 := F10.fn (x.1, x.2.1, x.2.2.1, ())
  let y1 := F16.fn (x.1, x.2.1, x.2.2.1, ())
  let y2 := F7.fn (y1.1, y0.1, ())
  .node [F10.pre (x.1, x.2.1, x.2.2.1, ())] y2.1
    (let y3 := F18.fn (x.1, x.2.1, ())
    let y4 := F23.fn (x.1, x.2.1, ())
    let y5 := F22.fn (y3.1, y4.1, ())
    .node [] y5.1
      (let y6 := F24.fn (x.1, x.2.1, x.2.2.1, ())
      let y7 := F25.fn (x.1, x.2.1, x.2.2.1, ())
      .node [] (y6.1 == y7.1)
        (.node [] ((Int.ofNat (List.length y0.1)) == (0 : Int))
          (.leaf [F25.pre (x.1, x.2.1, x.2.2.1, ()), F24.pre (x.1, x.2.1, x.2.2.1, ()), F22.pre (y3.1, y4.1, ()), F23.pre (x.1, x.2.1, ()), F18.pre (x.1, x.2.1, ()), F7.pre (y1.1, y0.1, ()), F16.pre (x.1, x.2.1, x.2.2.1, ()), (let r : List AV := [.agg [.x (.row (.one (.int .i64)) x.1.1), .x (.i .i64 x.1.2.1), .x (.row Dk x.1.2.2.1), .x (.i .i64 x.1.2.2.2.1), .x (.row (.cons (.int .i64) Sp) x.1.2.2.2.2.1), .x (.row (.cons (.int .i64) Sp) x.1.2.2.2.2.2.1), .x (.i .i64 x.1.2.2.2.2.2.2)]]; r = r), (let r : List AV := [.agg [.x (.row (.one (.int .i64)) x.1.1), .x (.i .i64 x.1.2.1), .x (.row Dk x.1.2.2.1), .x (.i .i64 x.1.2.2.2.1), .x (.row (.cons (.int .i64) Sp) x.1.2.2.2.2.1), .x (.row (.cons (.int .i64) Sp) x.1.2.2.2.2.2.1), .x (.i .i64 x.1.2.2.2.2.2.2)]]; r = r)] (true, ()))
          (let y8 := F17.fn (x.1, x.2.1, x.2.2.1, ())
          let y9 := F26.fn (x.1, x.2.1, x.2.2.1, ())
          .leaf [F26.pre (x.1, x.2.1, x.2.2.1, ()), F17.pre (x.1, x.2.1, x.2.2.1, ()), F25.pre (x.1, x.2.1, x.2.2.1, ()), F24.pre (x.1, x.2.1, x.2.2.1, ()), F22.pre (y3.1, y4.1, ()), F23.pre (x.1, x.2.1, ()), F18.pre (x.1, x.2.1, ()), F7.pre (y1.1, y0.1, ()), F16.pre (x.1, x.2.1, x.2.2.1, ()), (let r : List AV := [.agg [.x (.row (.one (.int .i64)) x.1.1), .x (.i .i64 x.1.2.1), .x (.row Dk x.1.2.2.1), .x (.i .i64 x.1.2.2.2.1), .x (.row (.cons (.int .i64) Sp) x.1.2.2.2.2.1), .x (.row (.cons (.int .i64) Sp) x.1.2.2.2.2.2.1), .x (.i .i64 x.1.2.2.2.2.2.2)]]; r = r), (let r : List AV := [.agg [.x (.row (.one (.int .i64)) x.1.1), .x (.i .i64 x.1.2.1), .x (.row Dk x.1.2.2.1), .x (.i .i64 x.1.2.2.2.1), .x (.row (.cons (.int .i64) Sp) x.1.2.2.2.2.1), .x (.row (.cons (.int .i64) Sp) x.1.2.2.2.2.2.1), .x (.i .i64 x.1.2.2.2.2.2.2)]]; r = r), (let r : List AV := [.agg [.x (.row (.one (.int .i64)) x.1.1), .x (.i .i64 x.1.2.1), .x (.row Dk x.1.2.2.1), .x (.i .i64 x.1.2.2.2.1), .x (.row (.cons (.int .i64) Sp) x.1.2.2.2.2.1), .x (.row (.cons (.int .i64) Sp) x.1.2.2.2.2.2.1), .x (.i .i64 x.1.2.2.2.2.2.2)]]; r = r)] ((y8.1 == y9.1), ())))
        (.leaf [F25.pre (x.1, x.2.1, x.2.2.1, ()), F24.pre (x.1, x.2.1, x.2.2.1, ()), F22.pre (y3.1, y4.1, ()), F23.pre (x.1, x.2.1, ()), F18.pre (x.1, x.2.1, ()), F7.pre (y1.1, y0.1, ()), F16.pre (x.1, x.2.1, x.2.2.1, ()), (let r : List AV := [.agg [.x (.row (.one (.int .i64)) x.1.1), .x (.i .i64 x.1.2.1), .x (.row Dk x.1.2.2.1), .x (.i .i64 x.1.2.2.2.1), .x (.row (.cons (.int .i64) Sp) x.1.2.2.2.2.1), .x (.row (.cons (.int .i64) Sp) x.1.2.2.2.2.2.1), .x (.i .i64 x.1.2.2.2.2.2.2)]]; r = r), (let r : List AV := [.agg [.x (.row (.one (.int .i64)) x.1.1), .x (.i .i64 x.1.2.1), .x (.row Dk x.1.2.2.1), .x (.i .i64 x.1.2.2.2.1), .x (.row (.cons (.int .i64) Sp) x.1.2.2.2.2.1), .x (.row (.cons (.int .i64) Sp) x.1.2.2.2.2.2.1), .x (.i .i64 x.1.2.2.2.2.2.2)]]; r = r)] (false, ())))
      (.leaf [F22.pre (y3.1, y4.1, ()), F23.pre (x.1, x.2.1, ()), F18.pre (x.1, x.2.1, ()), F7.pre (y1.1, y0.1, ()), F16.pre (x.1, x.2.1, x.2.2.1, ()), (let r : List AV := [.agg [.x (.row (.one (.int .i64)) x.1.1), .x (.i .i64 x.1.2.1), .x (.row Dk x.1.2.2.1), .x (.i .i64 x.1.2.2.2.1), .x (.row (.cons (.int .i64) Sp) x.1.2.2.2.2.1), .x (.row (.cons (.int .i64) Sp) x.1.2.2.2.2.2.1), .x (.i .i64 x.1.2.2.2.2.2.2)]]; r = r)] (false, ())))
    (.leaf [F7.pre (y1.1, y0.1, ()), F16.pre (x.1, x.2.1, x.2.2.1, ())] (false, ()))
abbrev F9A : List AT := [.v (.agg Wd), .v (.one (.row Sp)), .v (.one .str)]
abbrev F9B : List AT := [.v (.one .bool)]
theorem F9is : ∀ x, DT.Is (runF Tryz.prog cfg59 1000 noL 9 F9A F9B x) (F9 x) := fun x => by unfold DT.Is; kernel_rfl
noncomputable def F9.fn (x : Wdt × List Spt × List UInt8 × Unit) : Bool × Unit := (F9 x).fn
noncomputable def F9.pre (x : Wdt × List Spt × List UInt8 × Unit) : Prop := (F9 x).pre
theorem F9ok : DataOk Tryz.prog 9 F9A F9B F9.pre F9.fn := data_of_tree F9A F9B F9 cfg59ok FnLoops.none F9is
noncomputable def F9C : Con Tryz.prog := conD 9 F9A F9B F9.pre F9.fn F9ok (by kernel_rfl)
noncomputable def cfgL60 : List (Con Tryz.prog) := F9C :: cfgL59
noncomputable def cfg60 : Cfg := cfgOf cfgL60
theorem cfg60ok : CfgOk Tryz.prog cfg60 := cfgOf_ok cfgnamed cfgmixed _
/-! 3 veneer/veneerlaw11.SeenTells -/
noncomputable def F3 (x : Wdt × List UInt8 × List UInt8 × Unit) : DT (Bool × Unit) :=
  let y0 := F5.fn (x.1, ())
  .node [F5.pre (x.1, ())] (!y0.1)
    (.leaf [] (true, ()))
    (.node [] (decide ((Int.ofNat (List.length x.2.1)) > (40 : Int)))
      (.leaf [] (true, ()))
      (.node [] (decide ((Int.ofNat (List.length x.2.2.1)) > (40 : Int)))
        (.leaf [] (true, ()))
        (let y1 := F6.fn (x.1, ())
        let y2 := F8.fn (x.1, ())
        let y3 := F7.fn (y1.1, y2.1, ())
        .node [F7.pre (y1.1, y2.1, ()), F8.pre (x.1, ()), F6.pre (x.1, ())] (!y3.1)
          (.leaf [] (false, ()))
          (let y4 := F9.fn (x.1, y1.1, x.2.1, ())
          .node [F9.pre (x.1, y1.1, x.2.1, ())] (!y4.1)
            (.leaf [] (false, ()))
            (let y5 := F10.fn (x.1, y1.1, x.2.1, ())
            .node [F10.pre (x.1, y1.1, x.2.1, ())] ((Int.ofNat (List.length y5.1)) == (0 : Int))
              (let y6 := F11.fn ()
              .leaf [F11.pre ()] (y6.1, ()))
              (let y6 := F12.fn ((@id (Dkt) (xsAt Dk x.1.2.2.1 (Int.toNat (@id (Spt) (xsAt Sp y5.1 (0 + Int.toNat (0 : Int)))).1))), (@id (Spt) (xsAt Sp y5.1 (0 + Int.toNat (0 : Int)))).2, ())
              .node [F12.pre ((@id (Dkt) (xsAt Dk x.1.2.2.1 (Int.toNat (@id (Spt) (xsAt Sp y5.1 (0 + Int.toNat (0 : Int)))).1))), (@id (Spt) (xsAt Sp y5.1 (0 + Int.toNat (0 : Int)))).2, ()), 0 ≤ (0 : Int), (0 : Int) < Int.ofNat (List.length y5.1), 0 ≤ (@id (Spt) (xsAt Sp y5.1 (0 + Int.toNat (0 : Int)))).1, (@id (Spt) (xsAt Sp y5.1 (0 + Int.toNat (0 : Int)))).1 < Int.ofNat (List.length x.1.2.2.1), 0 ≤ (0 : Int), (0 : Int) < Int.ofNat (List.length y5.1)] (y6.1.2.1 != (2 : Int))
                (let y7 := F11.fn ()
                .leaf [F11.pre ()] (y7.1, ()))
                (let y7 := F9.fn (x.1, y5.1, x.2.2.1, ())
                .node [F9.pre (x.1, y5.1, x.2.2.1, ())] y7.1
                  (let y8 := F11.fn ()
                  .leaf [F11.pre ()] (y8.1, ()))
                  (.leaf [] (false, ())))))))))
abbrev F3A : List AT := [.v (.agg Wd), .v (.one .str), .v (.one .str)]
abbrev F3B : List AT := [.v (.one .bool)]
theorem F3is : ∀ x, DT.Is (runF Tryz.prog cfg60 1000 noL 3 F3A F3B x) (F3 x) := fun x => by unfold DT.Is; kernel_rfl
noncomputable def F3.fn (x : Wdt × List UInt8 × List UInt8 × Unit) : Bool × Unit := (F3 x).fn
noncomputable def F3.pre (x : Wdt × List UInt8 × List UInt8 × Unit) : Prop := (F3 x).pre
theorem F3ok : DataOk Tryz.prog 3 F3A F3B F3.pre F3.fn := data_of_tree F3A F3B F3 cfg60ok FnLoops.none F3is
end Go.Proofs.YtkccnomdfkhfnaaGreat
