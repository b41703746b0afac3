/- What functions of the program compute, written down; read off their code. -/
import Derived.Test.YtkccnomdfkhfnaaSHK
set_option linter.unusedSimpArgs false
set_option maxRecDepth 100000
set_option linter.unusedVariables false
namespace Go.Proofs.Ytkccnomdfkhfnaa
open Go.RowKit Go.Proofs.Ytkccnomdfkhfnaa.Ev
noncomputable def cfgL2 : List (Con Try.prog) := F21C :: cfgL1
noncomputable def cfg2 : Cfg := cfgOf cfgL2
theorem cfg2ok : CfgOk Try.prog cfg2 := cfgOf_ok cfgnamed cfgmixed _
noncomputable def cfgL3 : List (Con Try.prog) := F22C :: cfgL2
noncomputable def cfg3 : Cfg := cfgOf cfgL3
theorem cfg3ok : CfgOk Try.prog cfg3 := cfgOf_ok cfgnamed cfgmixed _
/-! 14 veneer/veneerref9.Is -/
def F14L0S : Shape := ⟨[(1, .val (.ptr 0 0)), (3, .v (.one (.int .i64)))], [(0, 2, [.v (.one (.row (.one (.int .i64)))), .v (.one (.int .i64))])], 1⟩
def F14L0S0 : Shape := ⟨[(2, .v (.one .bool))], [], 1⟩
def F14L0S1 : Shape := ⟨[(1, .val (.ptr 0 0))], [(0, 2, [.v (.one (.row (.one (.int .i64)))), .v (.one (.int .i64))])], 1⟩
def F14L0X : List (Option Nat × Shape) := [(none, F14L0S0), (some 0, F14L0S1)]
noncomputable def F14L0 (x : Unit × Int × List (Int) × Int × Unit) : DT ((Unit × Int × List (Int) × Int × Unit) ⊕ ((Bool × Unit) ⊕ (Unit × List (Int) × Int × Unit) ⊕ Empty)) :=
  .node [] (decide (x.2.1 < (Int.ofNat (List.length x.2.2.1))))
    (.node [0 ≤ x.2.1, x.2.1 < Int.ofNat (List.length x.2.2.1)] (decide ((@id (Int) (xsAt (.one (.int .i64)) x.2.2.1 (Int.toNat x.2.1))) < (1 : Int)))
      (.leaf [] (.inr (.inl (false, ()))))
      (.node [0 ≤ x.2.1, x.2.1 < Int.ofNat (List.length x.2.2.1)] (decide ((@id (Int) (xsAt (.one (.int .i64)) x.2.2.1 (Int.toNat x.2.1))) > (3 : Int)))
        (.leaf [] (.inr (.inl (false, ()))))
        (.leaf [] (.inl ((), (wrp .i64 (x.2.1 + (1 : Int))), x.2.2.1, x.2.2.2.1, ())))))
    (.leaf [] (.inr (.inr (.inl ((), x.2.2.1, x.2.2.2.1, ())))))
noncomputable def F14 (x : Cft × Unit) : DT (Bool × Unit) :=
  let y0 := loopOut F14L0 ((), (0 : Int), x.1.1, x.1.2, ())
  .node [loopInv F14L0 ((), (0 : Int), x.1.1, x.1.2, ())] (isL y0)
    (let y1 : Bool × Unit := getL (Shape.z F14L0S0) y0
    .leaf [] (y1.1, ()))
    (let y1 : Unit × List (Int) × Int × Unit := getL (Shape.z F14L0S1) (restR y0)
    .node [] (decide ((Int.ofNat (List.length y1.2.1)) ≥ (1 : Int)))
      (.node [] (decide ((Int.ofNat (List.length y1.2.1)) ≤ (8 : Int)))
        (.node [0 ≤ (0 : Int), (0 : Int) < Int.ofNat (List.length y1.2.1)] ((@id (Int) (xsAt (.one (.int .i64)) y1.2.1 (Int.toNat (0 : Int)))) == (1 : Int))
          (.node [] (decide (y1.2.2.1 ≥ (1 : Int)))
            (.leaf [] ((decide (y1.2.2.1 ≤ (4 : Int))), ()))
            (.leaf [] (false, ())))
          (.leaf [] (false, ())))
        (.leaf [] (false, ())))
      (.leaf [] (false, ())))
abbrev F14A : List AT := [.v (.agg Cf)]
abbrev F14B : List AT := [.v (.one .bool)]
noncomputable def F14R : List (Nat × Rule) := [(0, ruleOf F14L0S F14L0X F14L0)]
theorem F14L0is : ∀ x, DT.Is (runL Try.prog cfg3 1000 (lsOf F14R) 14 0 F14L0S F14L0X x) (F14L0 x) := fun x => by unfold DT.Is; kernel_rfl
theorem F14is : ∀ x, DT.Is (runF Try.prog cfg3 1000 (lsOf F14R) 14 F14A F14B x) (F14 x) := fun x => by unfold DT.Is; kernel_rfl
noncomputable def F14.fn (x : Cft × Unit) : Bool × Unit := (F14 x).fn
noncomputable def F14.pre (x : Cft × Unit) : Prop := (F14 x).pre
theorem F14ok : DataOk Try.prog 14 F14A F14B F14.pre F14.fn := data_of_tree F14A F14B F14 cfg3ok (.of_all cfg3ok (.cons (rule_of_tree F14L0S F14L0X F14L0 (F14L0is)) .nil)) F14is
noncomputable def F14C : Con Try.prog := conD 14 F14A F14B F14.pre F14.fn F14ok (by kernel_rfl)
noncomputable def cfgL4 : List (Con Try.prog) := F14C :: cfgL3
noncomputable def cfg4 : Cfg := cfgOf cfgL4
theorem cfg4ok : CfgOk Try.prog cfg4 := cfgOf_ok cfgnamed cfgmixed _
/-! 5 veneer/veneerref3.New -/
noncomputable def F5 (x : Int × Int × Unit) : DT (Dkt × Unit) :=
  .leaf [] ((x.1, (x.2.1, ((2 : Int), (((1 : Int), ((2 : Int), ((493 : Int), ((1 : Int), ((0 : Int), ([], ((dec 0 0 []), []))))))) :: [])))), ())
abbrev F5A : List AT := [.v (.one (.int .i64)), .v (.one (.int .i64))]
abbrev F5B : List AT := [.v (.agg Dk)]
theorem F5is : ∀ x, DT.Is (runF Try.prog cfg4 1000 noL 5 F5A F5B x) (F5 x) := fun x => by unfold DT.Is; kernel_rfl
noncomputable def F5.fn (x : Int × Int × Unit) : Dkt × Unit := (F5 x).fn
noncomputable def F5.pre (x : Int × Int × Unit) : Prop := (F5 x).pre
theorem F5ok : DataOk Try.prog 5 F5A F5B F5.pre F5.fn := data_of_tree F5A F5B F5 cfg4ok FnLoops.none F5is
noncomputable def F5C : Con Try.prog := conD 5 F5A F5B F5.pre F5.fn F5ok (by kernel_rfl)
noncomputable def cfgL5 : List (Con Try.prog) := F5C :: cfgL4
noncomputable def cfg5 : Cfg := cfgOf cfgL5
theorem cfg5ok : CfgOk Try.prog cfg5 := cfgOf_ok cfgnamed cfgmixed _
/-! 82 veneer/veneerref2.Copy -/
def F82L0S : Shape := ⟨[(1, .val (.ptr 0 0)), (2, .val (.ptr 1 0)), (3, .val (.ptr 2 0)), (4, .v (.one (.int .i64)))], [(0, 2, [.v (.one (.int .i64)), .v (.one (.row Bk))]), (1, 2, [.v (.one (.int .i64)), .val .nils]), (2, 2, [.v (.one (.int .i64)), .own Bk])], 3⟩
def F82L0S0 : Shape := ⟨[(2, .val (.ptr 1 0)), (3, .val (.ptr 2 0))], [(1, 2, [.v (.one (.int .i64)), .val .nils]), (2, 2, [.v (.one (.int .i64)), .own Bk])], 3⟩
def F82L0X : List (Option Nat × Shape) := [(some 0, F82L0S0)]
noncomputable def F82L0 (x : Unit × Unit × Unit × Int × Int × List Bkt × Int × Unit × Int × List Bkt × Unit) : DT ((Unit × Unit × Unit × Int × Int × List Bkt × Int × Unit × Int × List Bkt × Unit) ⊕ ((Unit × Unit × Int × Unit × Int × List Bkt × Unit) ⊕ Empty)) :=
  .node [] (decide (x.2.2.2.1 < (Int.ofNat (List.length x.2.2.2.2.2.1))))
    (.leaf [(List.length (x.2.2.2.2.2.2.2.2.2.1 ++ (((@id (Bkt) (xsAt Bk x.2.2.2.2.2.1 (Int.toNat x.2.2.2.1))).1, ([] ++ (@id (Bkt) (xsAt Bk x.2.2.2.2.2.1 (Int.toNat x.2.2.2.1))).2)) :: []))) * 32 ≤ Room, (List.length ([] ++ (@id (Bkt) (xsAt Bk x.2.2.2.2.2.1 (Int.toNat x.2.2.2.1))).2)) * 1 ≤ Room, (let r : List AV := [.x (.own 3 0 Bk true 0 (List.length x.2.2.2.2.2.2.2.2.2.1))]; r = r), (let r : List AV := [.x (.row Bk x.2.2.2.2.2.1)]; r = r), (let r : List AV := [.x (.i .i64 (@id (Bkt) (xsAt Bk x.2.2.2.2.2.1 (Int.toNat x.2.2.2.1))).1)]; r = r), (let r : List AV := [.x (.i .i64 (@id (Bkt) (xsAt Bk x.2.2.2.2.2.1 (Int.toNat x.2.2.2.1))).1), .x (.own 6 1 (.one (.int .u8)) true 0 (List.length ([] ++ (@id (Bkt) (xsAt Bk x.2.2.2.2.2.1 (Int.toNat x.2.2.2.1))).2)))]; r = r), 0 ≤ x.2.2.2.1, x.2.2.2.1 < Int.ofNat (List.length x.2.2.2.2.2.1), 0 ≤ x.2.2.2.1, x.2.2.2.1 < Int.ofNat (List.length x.2.2.2.2.2.1)] (.inl ((), (), (), (wrp .i64 (x.2.2.2.1 + (1 : Int))), x.2.2.2.2.1, x.2.2.2.2.2.1, x.2.2.2.2.2.2.1, (), x.2.2.2.2.2.2.2.2.1, (x.2.2.2.2.2.2.2.2.2.1 ++ (((@id (Bkt) (xsAt Bk x.2.2.2.2.2.1 (Int.toNat x.2.2.2.1))).1, ([] ++ (@id (Bkt) (xsAt Bk x.2.2.2.2.2.1 (Int.toNat x.2.2.2.1))).2)) :: [])), ())))
    (.leaf [] (.inr (.inl ((), (), x.2.2.2.2.2.2.1, (), x.2.2.2.2.2.2.2.2.1, x.2.2.2.2.2.2.2.2.2.1, ()))))
noncomputable def F82 (x : (Int × List Bkt) × Unit) : DT ((Int × List Bkt) × Unit) :=
  let y0 := loopOut F82L0 ((), (), (), (0 : Int), x.1.1, x.1.2, (0 : Int), (), x.1.1, [], ())
  let y1 : Unit × Unit × Int × Unit × Int × List Bkt × Unit := getL (Shape.z F82L0S0) y0
  .leaf [loopInv F82L0 ((), (), (), (0 : Int), x.1.1, x.1.2, (0 : Int), (), x.1.1, [], ())] ((y1.2.2.2.2.1, y1.2.2.2.2.2.1), ())
abbrev F82A : List AT := [.v (.agg (.cons (.int .i64) (.one (.row Bk))))]
abbrev F82B : List AT := [.v (.agg (.cons (.int .i64) (.one (.row Bk))))]
noncomputable def F82R : List (Nat × Rule) := [(0, ruleOf F82L0S F82L0X F82L0)]
theorem F82L0is : ∀ x, DT.Is (runL Try.prog cfg5 1000 (lsOf F82R) 82 0 F82L0S F82L0X x) (F82L0 x) := fun x => by unfold DT.Is; kernel_rfl
theorem F82is : ∀ x, DT.Is (runF Try.prog cfg5 1000 (lsOf F82R) 82 F82A F82B x) (F82 x) := fun x => by unfold DT.Is; kernel_rfl
noncomputable def F82.fn (x : (Int × List Bkt) × Unit) : (Int × List Bkt) × Unit := (F82 x).fn
noncomputable def F82.pre (x : (Int × List Bkt) × Unit) : Prop := (F82 x).pre
theorem F82ok : DataOk Try.prog 82 F82A F82B F82.pre F82.fn := data_of_tree F82A F82B F82 cfg5ok (.of_all cfg5ok (.cons (rule_of_tree F82L0S F82L0X F82L0 (F82L0is)) .nil)) F82is
noncomputable def F82C : Con Try.prog := conD 82 F82A F82B F82.pre F82.fn F82ok (by kernel_rfl)
noncomputable def cfgL6 : List (Con Try.prog) := F82C :: cfgL5
noncomputable def cfg6 : Cfg := cfgOf cfgL6
theorem cfg6ok : CfgOk Try.prog cfg6 := cfgOf_ok cfgnamed cfgmixed _
/-! 52 veneer/veneerref3.node -/
noncomputable def F52 (x : Ndt × Unit) : DT (Ndt × Unit) :=
  let y0 := F82.fn ((x.1.2.2.2.2.1, x.1.2.2.2.2.2.1), ())
  .leaf [(List.length ([] ++ x.1.2.2.2.2.2.2.2)) * 24 ≤ Room, F82.pre ((x.1.2.2.2.2.1, x.1.2.2.2.2.2.1), ())] ((x.1.1, (x.1.2.1, (x.1.2.2.1, (x.1.2.2.2.1, (y0.1.1, (y0.1.2, (x.1.2.2.2.2.2.2.1, ([] ++ x.1.2.2.2.2.2.2.2)))))))), ())
abbrev F52A : List AT := [.v (.agg Nd)]
abbrev F52B : List AT := [.v (.agg Nd)]
theorem F52is : ∀ x, DT.Is (runF Try.prog cfg6 1000 noL 52 F52A F52B x) (F52 x) := fun x => by unfold DT.Is; kernel_rfl
noncomputable def F52.fn (x : Ndt × Unit) : Ndt × Unit := (F52 x).fn
noncomputable def F52.pre (x : Ndt × Unit) : Prop := (F52 x).pre
theorem F52ok : DataOk Try.prog 52 F52A F52B F52.pre F52.fn := data_of_tree F52A F52B F52 cfg6ok FnLoops.none F52is
noncomputable def F52C : Con Try.prog := conD 52 F52A F52B F52.pre F52.fn F52ok (by kernel_rfl)
noncomputable def cfgL7 : List (Con Try.prog) := F52C :: cfgL6
noncomputable def cfg7 : Cfg := cfgOf cfgL7
theorem cfg7ok : CfgOk Try.prog cfg7 := cfgOf_ok cfgnamed cfgmixed _
/-! 49 veneer/veneerref3.Get -/
def F49L0S : Shape := ⟨[(1, .v (.one (.int .i64))), (2, .val (.ptr 0 0)), (4, .val (.ptr 1 0)), (6, .v (.one (.int .i64)))], [(0, 4, [.v (.one (.int .i64)), .v (.one (.int .i64)), .v (.one (.int .i64)), .v (.one (.row Nd))]), (1, 8, [.v (.one (.int .i64)), .v (.one (.int .i64)), .v (.one (.int .i64)), .v (.one (.int .i64)), .v (.one (.int .i64)), .val .nils, .v (.one .str), .val .nils])], 2⟩
def F49L0S0 : Shape := ⟨[(4, .val (.ptr 1 0)), (5, .v (.one .bool))], [(1, 8, [.v (.one (.int .i64)), .v (.one (.int .i64)), .v (.one (.int .i64)), .v (.one (.int .i64)), .v (.one (.int .i64)), .v (.one (.row Bk)), .v (.one .str), .v (.one (.row Nm))])], 2⟩
def F49L0S1 : Shape := ⟨[(4, .val (.ptr 1 0))], [(1, 8, [.v (.one (.int .i64)), .v (.one (.int .i64)), .v (.one (.int .i64)), .v (.one (.int .i64)), .v (.one (.int .i64)), .val .nils, .v (.one .str), .val .nils])], 2⟩
def F49L0X : List (Option Nat × Shape) := [(none, F49L0S0), (some 0, F49L0S1)]
noncomputable def F49L0 (x : Int × Unit × Unit × Int × Int × Int × Int × List Ndt × Int × Int × Int × Int × Int × Unit × List UInt8 × Unit × Unit) : DT ((Int × Unit × Unit × Int × Int × Int × Int × List Ndt × Int × Int × Int × Int × Int × Unit × List UInt8 × Unit × Unit) ⊕ ((Unit × Bool × Int × Int × Int × Int × Int × List Bkt × List UInt8 × List Nmt × Unit) ⊕ (Unit × Int × Int × Int × Int × Int × Unit × List UInt8 × Unit × Unit) ⊕ Empty)) :=
  .node [] (decide (x.2.2.2.1 < (Int.ofNat (List.length x.2.2.2.2.2.2.2.1))))
    (.node [0 ≤ x.2.2.2.1, x.2.2.2.1 < Int.ofNat (List.length x.2.2.2.2.2.2.2.1)] ((@id (Ndt) (xsAt Nd x.2.2.2.2.2.2.2.1 (Int.toNat x.2.2.2.1))).1 == x.1)
      (let y0 := F52.fn ((@id (Ndt) (xsAt Nd x.2.2.2.2.2.2.2.1 (Int.toNat x.2.2.2.1))), ())
      .leaf [F52.pre ((@id (Ndt) (xsAt Nd x.2.2.2.2.2.2.2.1 (Int.toNat x.2.2.2.1))), ()), 0 ≤ x.2.2.2.1, x.2.2.2.1 < Int.ofNat (List.length x.2.2.2.2.2.2.2.1)] (.inr (.inl ((), true, y0.1.1, y0.1.2.1, y0.1.2.2.1, y0.1.2.2.2.1, y0.1.2.2.2.2.1, y0.1.2.2.2.2.2.1, y0.1.2.2.2.2.2.2.1, y0.1.2.2.2.2.2.2.2, ()))))
      (.leaf [] (.inl (x.1, (), (), (wrp .i64 (x.2.2.2.1 + (1 : Int))), x.2.2.2.2.1, x.2.2.2.2.2.1, x.2.2.2.2.2.2.1, x.2.2.2.2.2.2.2.1, x.2.2.2.2.2.2.2.2.1, x.2.2.2.2.2.2.2.2.2.1, x.2.2.2.2.2.2.2.2.2.2.1, x.2.2.2.2.2.2.2.2.2.2.2.1, x.2.2.2.2.2.2.2.2.2.2.2.2.1, (), x.2.2.2.2.2.2.2.2.2.2.2.2.2.2.1, (), ()))))
    (.leaf [] (.inr (.inr (.inl ((), x.2.2.2.2.2.2.2.2.1, x.2.2.2.2.2.2.2.2.2.1, x.2.2.2.2.2.2.2.2.2.2.1, x.2.2.2.2.2.2.2.2.2.2.2.1, x.2.2.2.2.2.2.2.2.2.2.2.2.1, (), x.2.2.2.2.2.2.2.2.2.2.2.2.2.2.1, (), ())))))
noncomputable def F49 (x : Dkt × Int × Unit) : DT (Ndt × Bool × Unit) :=
  let y0 := loopOut F49L0 (x.2.1, (), (), (0 : Int), x.1.1, x.1.2.1, x.1.2.2.1, x.1.2.2.2, (0 : Int), (0 : Int), (0 : Int), (0 : Int), (0 : Int), (), (dec 0 0 []), (), ())
  .node [loopInv F49L0 (x.2.1, (), (), (0 : Int), x.1.1, x.1.2.1, x.1.2.2.1, x.1.2.2.2, (0 : Int), (0 : Int), (0 : Int), (0 : Int), (0 : Int), (), (dec 0 0 []), (), ())] (isL y0)
    (let y1 : Unit × Bool × Int × Int × Int × Int × Int × List Bkt × List UInt8 × List Nmt × Unit := getL (Shape.z F49L0S0) y0
    .leaf [] ((y1.2.2.1, (y1.2.2.2.1, (y1.2.2.2.2.1, (y1.2.2.2.2.2.1, (y1.2.2.2.2.2.2.1, (y1.2.2.2.2.2.2.2.1, (y1.2.2.2.2.2.2.2.2.1, y1.2.2.2.2.2.2.2.2.2.1))))))), y1.2.1, ()))
    (let y1 : Unit × Int × Int × Int × Int × Int × Unit × List UInt8 × Unit × Unit := getL (Shape.z F49L0S1) (restR y0)
    .leaf [] (((0 : Int), ((0 : Int), ((0 : Int), ((0 : Int), ((0 : Int), ([], ((dec 0 0 []), []))))))), false, ()))
abbrev F49A : List AT := [.v (.agg Dk), .v (.one (.int .i64))]
abbrev F49B : List AT := [.v (.agg Nd), .v (.one .bool)]
noncomputable def F49R : List (Nat × Rule) := [(0, ruleOf F49L0S F49L0X F49L0)]
theorem F49L0is : ∀ x, DT.Is (runL Try.prog cfg7 1000 (lsOf F49R) 49 0 F49L0S F49L0X x) (F49L0 x) := fun x => by unfold DT.Is; kernel_rfl
theorem F49is : ∀ x, DT.Is (runF Try.prog cfg7 1000 (lsOf F49R) 49 F49A F49B x) (F49 x) := fun x => by unfold DT.Is; kernel_rfl
noncomputable def F49.fn (x : Dkt × Int × Unit) : Ndt × Bool × Unit := (F49 x).fn
noncomputable def F49.pre (x : Dkt × Int × Unit) : Prop := (F49 x).pre
theorem F49ok : DataOk Try.prog 49 F49A F49B F49.pre F49.fn := data_of_tree F49A F49B F49 cfg7ok (.of_all cfg7ok (.cons (rule_of_tree F49L0S F49L0X F49L0 (F49L0is)) .nil)) F49is
noncomputable def F49C : Con Try.prog := conD 49 F49A F49B F49.pre F49.fn F49ok (by kernel_rfl)
noncomputable def cfgL8 : List (Con Try.prog) := F49C :: cfgL7
noncomputable def cfg8 : Cfg := cfgOf cfgL8
theorem cfg8ok : CfgOk Try.prog cfg8 := cfgOf_ok cfgnamed cfgmixed _
/-! 50 veneer/veneerref5.Name -/
def F50L0S : Shape := ⟨[(1, .v (.one .str)), (2, .val (.ptr 0 0)), (6, .v (.one (.int .i64)))], [(0, 8, [.v (.one (.int .i64)), .v (.one (.int .i64)), .v (.one (.int .i64)), .v (.one (.int .i64)), .v (.one (.int .i64)), .v (.one (.row Bk)), .v (.one .str), .v (.one (.row Nm))])], 1⟩
def F50L0S0 : Shape := ⟨[(4, .v (.one (.int .i64))), (5, .v (.one .bool))], [], 1⟩
def F50L0S1 : Shape := ⟨[], [], 1⟩
def F50L0X : List (Option Nat × Shape) := [(none, F50L0S0), (some 0, F50L0S1)]
noncomputable def F50L0 (x : List UInt8 × Unit × Int × Int × Int × Int × Int × Int × List Bkt × List UInt8 × List Nmt × Unit) : DT ((List UInt8 × Unit × Int × Int × Int × Int × Int × Int × List Bkt × List UInt8 × List Nmt × Unit) ⊕ ((Int × Bool × Unit) ⊕ (Unit) ⊕ Empty)) :=
  .node [] (decide (x.2.2.1 < (Int.ofNat (List.length x.2.2.2.2.2.2.2.2.2.2.1))))
    (.node [0 ≤ x.2.2.1, x.2.2.1 < Int.ofNat (List.length x.2.2.2.2.2.2.2.2.2.2.1)] ((@id (Nmt) (xsAt Nm x.2.2.2.2.2.2.2.2.2.2.1 (Int.toNat x.2.2.1))).1 == x.1)
      (.leaf [0 ≤ x.2.2.1, x.2.2.1 < Int.ofNat (List.length x.2.2.2.2.2.2.2.2.2.2.1)] (.inr (.inl ((@id (Nmt) (xsAt Nm x.2.2.2.2.2.2.2.2.2.2.1 (Int.toNat x.2.2.1))).2, true, ()))))
      (.leaf [] (.inl (x.1, (), (wrp .i64 (x.2.2.1 + (1 : Int))), x.2.2.2.1, x.2.2.2.2.1, x.2.2.2.2.2.1, x.2.2.2.2.2.2.1, x.2.2.2.2.2.2.2.1, x.2.2.2.2.2.2.2.2.1, x.2.2.2.2.2.2.2.2.2.1, x.2.2.2.2.2.2.2.2.2.2.1, ()))))
    (.leaf [] (.inr (.inr (.inl ()))))
noncomputable def F50 (x : Ndt × List UInt8 × Unit) : DT (Int × Bool × Unit) :=
  let y0 := loopOut F50L0 (x.2.1, (), (0 : Int), x.1.1, x.1.2.1, x.1.2.2.1, x.1.2.2.2.1, x.1.2.2.2.2.1, x.1.2.2.2.2.2.1, x.1.2.2.2.2.2.2.1, x.1.2.2.2.2.2.2.2, ())
  .node [loopInv F50L0 (x.2.1, (), (0 : Int), x.1.1, x.1.2.1, x.1.2.2.1, x.1.2.2.2.1, x.1.2.2.2.2.1, x.1.2.2.2.2.2.1, x.1.2.2.2.2.2.2.1, x.1.2.2.2.2.2.2.2, ())] (isL y0)
    (let y1 : Int × Bool × Unit := getL (Shape.z F50L0S0) y0
    .leaf [] (y1.1, y1.2.1, ()))
    (let y1 : Unit := getL (Shape.z F50L0S1) (restR y0)
    .leaf [] ((0 : Int), false, ()))
abbrev F50A : List AT := [.v (.agg Nd), .v (.one .str)]
abbrev F50B : List AT := [.v (.one (.int .i64)), .v (.one .bool)]
noncomputable def F50R : List (Nat × Rule) := [(0, ruleOf F50L0S F50L0X F50L0)]
theorem F50L0is : ∀ x, DT.Is (runL Try.prog cfg8 1000 (lsOf F50R) 50 0 F50L0S F50L0X x) (F50L0 x) := fun x => by unfold DT.Is; kernel_rfl
theorem F50is : ∀ x, DT.Is (runF Try.prog cfg8 1000 (lsOf F50R) 50 F50A F50B x) (F50 x) := fun x => by unfold DT.Is; kernel_rfl
noncomputable def F50.fn (x : Ndt × List UInt8 × Unit) : Int × Bool × Unit := (F50 x).fn
noncomputable def F50.pre (x : Ndt × List UInt8 × Unit) : Prop := (F50 x).pre
theorem F50ok : DataOk Try.prog 50 F50A F50B F50.pre F50.fn := data_of_tree F50A F50B F50 cfg8ok (.of_all cfg8ok (.cons (rule_of_tree F50L0S F50L0X F50L0 (F50L0is)) .nil)) F50is
noncomputable def F50C : Con Try.prog := conD 50 F50A F50B F50.pre F50.fn F50ok (by kernel_rfl)
noncomputable def cfgL9 : List (Con Try.prog) := F50C :: cfgL8
noncomputable def cfg9 : Cfg := cfgOf cfgL9
theorem cfg9ok : CfgOk Try.prog cfg9 := cfgOf_ok cfgnamed cfgmixed _
/-! 28 veneer/veneerref6.had -/
noncomputable def F28 (x : Dkt × Int × List UInt8 × Unit) : DT (Int × Bool × Unit) :=
  let y0 := F49.fn (x.1, x.2.1, ())
  let y1 := F50.fn (y0.1, x.2.2.1, ())
  .leaf [F50.pre (y0.1, x.2.2.1, ()), F49.pre (x.1, x.2.1, ())] (y1.1, y1.2.1, ())
abbrev F28A : List AT := [.v (.agg Dk), .v (.one (.int .i64)), .v (.one .str)]
abbrev F28B : List AT := [.v (.one (.int .i64)), .v (.one .bool)]
theorem F28is : ∀ x, DT.Is (runF Try.prog cfg9 1000 noL 28 F28A F28B x) (F28 x) := fun x => by unfold DT.Is; kernel_rfl
noncomputable def F28.fn (x : Dkt × Int × List UInt8 × Unit) : Int × Bool × Unit := (F28 x).fn
noncomputable def F28.pre (x : Dkt × Int × List UInt8 × Unit) : Prop := (F28 x).pre
theorem F28ok : DataOk Try.prog 28 F28A F28B F28.pre F28.fn := data_of_tree F28A F28B F28 cfg9ok FnLoops.none F28is
noncomputable def F28C : Con Try.prog := conD 28 F28A F28B F28.pre F28.fn F28ok (by kernel_rfl)
noncomputable def cfgL10 : List (Con Try.prog) := F28C :: cfgL9
noncomputable def cfg10 : Cfg := cfgOf cfgL10
theorem cfg10ok : CfgOk Try.prog cfg10 := cfgOf_ok cfgnamed cfgmixed _
/-! 29 veneer/veneerref3.Used -/
def F29L0S : Shape := ⟨[(1, .val (.ptr 0 0)), (4, .v (.one (.int .i64))), (5, .v (.one (.int .i64)))], [(0, 4, [.v (.one (.int .i64)), .v (.one (.int .i64)), .v (.one (.int .i64)), .v (.one (.row Nd))])], 1⟩
def F29L0S0 : Shape := ⟨[(1, .val (.ptr 0 0)), (4, .v (.one (.int .i64)))], [(0, 4, [.v (.one (.int .i64)), .v (.one (.int .i64)), .v (.one (.int .i64)), .v (.one (.row Nd))])], 1⟩
def F29L0X : List (Option Nat × Shape) := [(some 0, F29L0S0)]
noncomputable def F29L0 (x : Unit × Int × Int × Int × Int × Int × List Ndt × Unit) : DT ((Unit × Int × Int × Int × Int × Int × List Ndt × Unit) ⊕ ((Unit × Int × Int × Int × Int × List Ndt × Unit) ⊕ Empty)) :=
  .node [] (decide (x.2.2.1 < (Int.ofNat (List.length x.2.2.2.2.2.2.1))))
    (.leaf [0 ≤ x.2.2.1, x.2.2.1 < Int.ofNat (List.length x.2.2.2.2.2.2.1)] (.inl ((), (wrp .i64 (x.2.1 + (Int.ofNat (List.length (@id (Ndt) (xsAt Nd x.2.2.2.2.2.2.1 (Int.toNat x.2.2.1))).2.2.2.2.2.1)))), (wrp .i64 (x.2.2.1 + (1 : Int))), x.2.2.2.1, x.2.2.2.2.1, x.2.2.2.2.2.1, x.2.2.2.2.2.2.1, ())))
    (.leaf [] (.inr (.inl ((), x.2.1, x.2.2.2.1, x.2.2.2.2.1, x.2.2.2.2.2.1, x.2.2.2.2.2.2.1, ()))))
noncomputable def F29 (x : Dkt × Unit) : DT (Int × Int × Unit) :=
  let y0 := loopOut F29L0 ((), (0 : Int), (0 : Int), x.1.1, x.1.2.1, x.1.2.2.1, x.1.2.2.2, ())
  let y1 : Unit × Int × Int × Int × Int × List Ndt × Unit := getL (Shape.z F29L0S0) y0
  .leaf [loopInv F29L0 ((), (0 : Int), (0 : Int), x.1.1, x.1.2.1, x.1.2.2.1, x.1.2.2.2, ())] (y1.2.1, (Int.ofNat (List.length y1.2.2.2.2.2.1)), ())
abbrev F29A : List AT := [.v (.agg Dk)]
abbrev F29B : List AT := [.v (.one (.int .i64)), .v (.one (.int .i64))]
noncomputable def F29R : List (Nat × Rule) := [(0, ruleOf F29L0S F29L0X F29L0)]
theorem F29L0is : ∀ x, DT.Is (runL Try.prog cfg10 1000 (lsOf F29R) 29 0 F29L0S F29L0X x) (F29L0 x) := fun x => by unfold DT.Is; kernel_rfl
theorem F29is : ∀ x, DT.Is (runF Try.prog cfg10 1000 (lsOf F29R) 29 F29A F29B x) (F29 x) := fun x => by unfold DT.Is; kernel_rfl
noncomputable def F29.fn (x : Dkt × Unit) : Int × Int × Unit := (F29 x).fn
noncomputable def F29.pre (x : Dkt × Unit) : Prop := (F29 x).pre
theorem F29ok : DataOk Try.prog 29 F29A F29B F29.pre F29.fn := data_of_tree F29A F29B F29 cfg10ok (.of_all cfg10ok (.cons (rule_of_tree F29L0S F29L0X F29L0 (F29L0is)) .nil)) F29is
noncomputable def F29C : Con Try.prog := conD 29 F29A F29B F29.pre F29.fn F29ok (by kernel_rfl)
noncomputable def cfgL11 : List (Con Try.prog) := F29C :: cfgL10
noncomputable def cfg11 : Cfg := cfgOf cfgL11
theorem cfg11ok : CfgOk Try.prog cfg11 := cfgOf_ok cfgnamed cfgmixed _
/-! 51 veneer/veneerref3.Drop -/
def F51L0S : Shape := ⟨[(1, .v (.one (.int .i64))), (2, .val (.ptr 0 0)), (4, .val (.ptr 1 0)), (5, .own Nd), (6, .v (.one (.int .i64)))], [(0, 4, [.v (.one (.int .i64)), .v (.one (.int .i64)), .v (.one (.int .i64)), .v (.one (.row Nd))]), (1, 4, [.v (.one (.int .i64)), .v (.one (.int .i64)), .v (.one (.int .i64)), .val .nils])], 2⟩
def F51L0S0 : Shape := ⟨[(2, .val (.ptr 0 0)), (4, .val (.ptr 1 0)), (5, .own Nd)], [(0, 4, [.v (.one (.int .i64)), .v (.one (.int .i64)), .v (.one (.int .i64)), .v (.one (.row Nd))]), (1, 4, [.v (.one (.int .i64)), .v (.one (.int .i64)), .v (.one (.int .i64)), .val .nils])], 2⟩
def F51L0X : List (Option Nat × Shape) := [(some 0, F51L0S0)]
noncomputable def F51L0 (x : Int × Unit × Unit × List Ndt × Int × Int × Int × Int × List Ndt × Int × Int × Int × Unit × Unit) : DT ((Int × Unit × Unit × List Ndt × Int × Int × Int × Int × List Ndt × Int × Int × Int × Unit × Unit) ⊕ ((Unit × Unit × List Ndt × Int × Int × Int × List Ndt × Int × Int × Int × Unit × Unit) ⊕ Empty)) :=
  .node [] (decide (x.2.2.2.2.1 < (Int.ofNat (List.length x.2.2.2.2.2.2.2.2.1))))
    (.node [0 ≤ x.2.2.2.2.1, x.2.2.2.2.1 < Int.ofNat (List.length x.2.2.2.2.2.2.2.2.1)] ((@id (Ndt) (xsAt Nd x.2.2.2.2.2.2.2.2.1 (Int.toNat x.2.2.2.2.1))).1 != x.1)
      (.leaf [(List.length (x.2.2.2.1 ++ ((@id (Ndt) (xsAt Nd x.2.2.2.2.2.2.2.2.1 (Int.toNat x.2.2.2.2.1))) :: []))) * 104 ≤ Room, 0 ≤ x.2.2.2.2.1, x.2.2.2.2.1 < Int.ofNat (List.length x.2.2.2.2.2.2.2.2.1)] (.inl (x.1, (), (), (x.2.2.2.1 ++ ((@id (Ndt) (xsAt Nd x.2.2.2.2.2.2.2.2.1 (Int.toNat x.2.2.2.2.1))) :: [])), (wrp .i64 (x.2.2.2.2.1 + (1 : Int))), x.2.2.2.2.2.1, x.2.2.2.2.2.2.1, x.2.2.2.2.2.2.2.1, x.2.2.2.2.2.2.2.2.1, x.2.2.2.2.2.2.2.2.2.1, x.2.2.2.2.2.2.2.2.2.2.1, x.2.2.2.2.2.2.2.2.2.2.2.1, (), ())))
      (.leaf [] (.inl (x.1, (), (), x.2.2.2.1, (wrp .i64 (x.2.2.2.2.1 + (1 : Int))), x.2.2.2.2.2.1, x.2.2.2.2.2.2.1, x.2.2.2.2.2.2.2.1, x.2.2.2.2.2.2.2.2.1, x.2.2.2.2.2.2.2.2.2.1, x.2.2.2.2.2.2.2.2.2.2.1, x.2.2.2.2.2.2.2.2.2.2.2.1, (), ()))))
    (.leaf [] (.inr (.inl ((), (), x.2.2.2.1, x.2.2.2.2.2.1, x.2.2.2.2.2.2.1, x.2.2.2.2.2.2.2.1, x.2.2.2.2.2.2.2.2.1, x.2.2.2.2.2.2.2.2.2.1, x.2.2.2.2.2.2.2.2.2.2.1, x.2.2.2.2.2.2.2.2.2.2.2.1, (), ()))))
noncomputable def F51 (x : Dkt × Int × Unit) : DT (Dkt × Unit) :=
  let y0 := loopOut F51L0 (x.2.1, (), (), [], (0 : Int), x.1.1, x.1.2.1, x.1.2.2.1, x.1.2.2.2, (0 : Int), (0 : Int), (0 : Int), (), ())
  let y1 : Unit × Unit × List Ndt × Int × Int × Int × List Ndt × Int × Int × Int × Unit × Unit := getL (Shape.z F51L0S0) y0
  .leaf [loopInv F51L0 (x.2.1, (), (), [], (0 : Int), x.1.1, x.1.2.1, x.1.2.2.1, x.1.2.2.2, (0 : Int), (0 : Int), (0 : Int), (), ())] ((y1.2.2.2.1, (y1.2.2.2.2.1, (y1.2.2.2.2.2.1, y1.2.2.1))), ())
abbrev F51A : List AT := [.v (.agg Dk), .v (.one (.int .i64))]
abbrev F51B : List AT := [.v (.agg Dk)]
noncomputable def F51R : List (Nat × Rule) := [(0, ruleOf F51L0S F51L0X F51L0)]
theorem F51L0is : ∀ x, DT.Is (runL Try.prog cfg11 1000 (lsOf F51R) 51 0 F51L0S F51L0X x) (F51L0 x) := fun x => by unfold DT.Is; kernel_rfl
theorem F51is : ∀ x, DT.Is (runF Try.prog cfg11 1000 (lsOf F51R) 51 F51A F51B x) (F51 x) := fun x => by unfold DT.Is; kernel_rfl
noncomputable def F51.fn (x : Dkt × Int × Unit) : Dkt × Unit := (F51 x).fn
noncomputable def F51.pre (x : Dkt × Int × Unit) : Prop := (F51 x).pre
theorem F51ok : DataOk Try.prog 51 F51A F51B F51.pre F51.fn := data_of_tree F51A F51B F51 cfg11ok (.of_all cfg11ok (.cons (rule_of_tree F51L0S F51L0X F51L0 (F51L0is)) .nil)) F51is
noncomputable def F51C : Con Try.prog := conD 51 F51A F51B F51.pre F51.fn F51ok (by kernel_rfl)
noncomputable def cfgL12 : List (Con Try.prog) := F51C :: cfgL11
noncomputable def cfg12 : Cfg := cfgOf cfgL12
theorem cfg12ok : CfgOk Try.prog cfg12 := cfgOf_ok cfgnamed cfgmixed _
/-! 30 veneer/veneerref3.Put -/
def F30L0S : Shape := ⟨[(2, .val (.ptr 0 0)), (3, .val (.ptr 1 0)), (4, .val (.ptr 2 0)), (5, .v (.one (.int .i64)))], [(0, 4, [.v (.one (.int .i64)), .v (.one (.int .i64)), .v (.one (.int .i64)), .v (.one (.row Nd))]), (1, 8, [.v (.one (.int .i64)), .v (.one (.int .i64)), .v (.one (.int .i64)), .v (.one (.int .i64)), .v (.one (.int .i64)), .v (.one (.row Bk)), .v (.one .str), .v (.one (.row Nm))]), (2, 4, [.v (.one (.int .i64)), .v (.one (.int .i64)), .v (.one (.int .i64)), .val .nils])], 3⟩
def F30L0S0 : Shape := ⟨[(2, .val (.ptr 0 0)), (3, .val (.ptr 1 0)), (4, .val (.ptr 2 0)), (5, .v (.one (.int .i64)))], [(0, 4, [.v (.one (.int .i64)), .v (.one (.int .i64)), .v (.one (.int .i64)), .v (.one (.row Nd))]), (1, 8, [.v (.one (.int .i64)), .v (.one (.int .i64)), .v (.one (.int .i64)), .v (.one (.int .i64)), .v (.one (.int .i64)), .v (.one (.row Bk)), .v (.one .str), .v (.one (.row Nm))]), (2, 4, [.v (.one (.int .i64)), .v (.one (.int .i64)), .v (.one (.int .i64)), .val .nils])], 3⟩
def F30L0X : List (Option Nat × Shape) := [(some 0, F30L0S0)]
noncomputable def F30L0 (x : Unit × Unit × Unit × Int × Int × Int × Int × List Ndt × Int × Int × Int × Int × Int × List Bkt × List UInt8 × List Nmt × Int × Int × Int × Unit × Unit) : DT ((Unit × Unit × Unit × Int × Int × Int × Int × List Ndt × Int × Int × Int × Int × Int × List Bkt × List UInt8 × List Nmt × Int × Int × Int × Unit × Unit) ⊕ ((Unit × Unit × Unit × Int × Int × Int × Int × List Ndt × Int × Int × Int × Int × Int × List Bkt × List UInt8 × List Nmt × Int × Int × Int × Unit × Unit) ⊕ Empty)) :=
  .node [] (decide (x.2.2.2.1 < (Int.ofNat (List.length x.2.2.2.2.2.2.2.1))))
    (.node [0 ≤ x.2.2.2.1, x.2.2.2.1 < Int.ofNat (List.length x.2.2.2.2.2.2.2.1)] (decide ((@id (Ndt) (xsAt Nd x.2.2.2.2.2.2.2.1 (Int.toNat x.2.2.2.1))).1 < x.2.2.2.2.2.2.2.2.1))
      (.leaf [] (.inl ((), (), (), (wrp .i64 (x.2.2.2.1 + (1 : Int))), x.2.2.2.2.1, x.2.2.2.2.2.1, x.2.2.2.2.2.2.1, x.2.2.2.2.2.2.2.1, x.2.2.2.2.2.2.2.2.1, x.2.2.2.2.2.2.2.2.2.1, x.2.2.2.2.2.2.2.2.2.2.1, x.2.2.2.2.2.2.2.2.2.2.2.1, x.2.2.2.2.2.2.2.2.2.2.2.2.1, x.2.2.2.2.2.2.2.2.2.2.2.2.2.1, x.2.2.2.2.2.2.2.2.2.2.2.2.2.2.1, x.2.2.2.2.2.2.2.2.2.2.2.2.2.2.2.1, x.2.2.2.2.2.2.2.2.2.2.2.2.2.2.2.2.1, x.2.2.2.2.2.2.2.2.2.2.2.2.2.2.2.2.2.1, x.2.2.2.2.2.2.2.2.2.2.2.2.2.2.2.2.2.2.1, (), ())))
      (.leaf [] (.inr (.inl ((), (), (), x.2.2.2.1, x.2.2.2.2.1, x.2.2.2.2.2.1, x.2.2.2.2.2.2.1, x.2.2.2.2.2.2.2.1, x.2.2.2.2.2.2.2.2.1, x.2.2.2.2.2.2.2.2.2.1, x.2.2.2.2.2.2.2.2.2.2.1, x.2.2.2.2.2.2.2.2.2.2.2.1, x.2.2.2.2.2.2.2.2.2.2.2.2.1, x.2.2.2.2.2.2.2.2.2.2.2.2.2.1, x.2.2.2.2.2.2.2.2.2.2.2.2.2.2.1, x.2.2.2.2.2.2.2.2.2.2.2.2.2.2.2.1, x.2.2.2.2.2.2.2.2.2.2.2.2.2.2.2.2.1, x.2.2.2.2.2.2.2.2.2.2.2.2.2.2.2.2.2.1, x.2.2.2.2.2.2.2.2.2.2.2.2.2.2.2.2.2.2.1, (), ())))))
    (.leaf [] (.inr (.inl ((), (), (), x.2.2.2.1, x.2.2.2.2.1, x.2.2.2.2.2.1, x.2.2.2.2.2.2.1, x.2.2.2.2.2.2.2.1, x.2.2.2.2.2.2.2.2.1, x.2.2.2.2.2.2.2.2.2.1, x.2.2.2.2.2.2.2.2.2.2.1, x.2.2.2.2.2.2.2.2.2.2.2.1, x.2.2.2.2.2.2.2.2.2.2.2.2.1, x.2.2.2.2.2.2.2.2.2.2.2.2.2.1, x.2.2.2.2.2.2.2.2.2.2.2.2.2.2.1, x.2.2.2.2.2.2.2.2.2.2.2.2.2.2.2.1, x.2.2.2.2.2.2.2.2.2.2.2.2.2.2.2.2.1, x.2.2.2.2.2.2.2.2.2.2.2.2.2.2.2.2.2.1, x.2.2.2.2.2.2.2.2.2.2.2.2.2.2.2.2.2.2.1, (), ()))))
noncomputable def F30 (x : Dkt × Ndt × Unit) : DT (Dkt × Unit) :=
  let y0 := F51.fn (x.1, x.2.1.1, ())
  let y1 := loopOut F30L0 ((), (), (), (0 : Int), y0.1.1, y0.1.2.1, y0.1.2.2.1, y0.1.2.2.2, x.2.1.1, x.2.1.2.1, x.2.1.2.2.1, x.2.1.2.2.2.1, x.2.1.2.2.2.2.1, x.2.1.2.2.2.2.2.1, x.2.1.2.2.2.2.2.2.1, x.2.1.2.2.2.2.2.2.2, (0 : Int), (0 : Int), (0 : Int), (), ())
  let y2 : Unit × Unit × Unit × Int × Int × Int × Int × List Ndt × Int × Int × Int × Int × Int × List Bkt × List UInt8 × List Nmt × Int × Int × Int × Unit × Unit := getL (Shape.z F30L0S0) y1
  let y3 := F52.fn ((y2.2.2.2.2.2.2.2.2.1, (y2.2.2.2.2.2.2.2.2.2.1, (y2.2.2.2.2.2.2.2.2.2.2.1, (y2.2.2.2.2.2.2.2.2.2.2.2.1, (y2.2.2.2.2.2.2.2.2.2.2.2.2.1, (y2.2.2.2.2.2.2.2.2.2.2.2.2.2.1, (y2.2.2.2.2.2.2.2.2.2.2.2.2.2.2.1, y2.2.2.2.2.2.2.2.2.2.2.2.2.2.2.2.1))))))), ())
  .leaf [(List.length ((([] ++ (List.take (Int.toNat y2.2.2.2.1) y2.2.2.2.2.2.2.2.1)) ++ (y3.1 :: [])) ++ (List.drop (Int.toNat y2.2.2.2.1) y2.2.2.2.2.2.2.2.1))) * 104 ≤ Room, 0 ≤ y2.2.2.2.1, y2.2.2.2.1 ≤ Int.ofNat (List.length y2.2.2.2.2.2.2.2.1), (List.length (([] ++ (List.take (Int.toNat y2.2.2.2.1) y2.2.2.2.2.2.2.2.1)) ++ (y3.1 :: []))) * 104 ≤ Room, F52.pre ((y2.2.2.2.2.2.2.2.2.1, (y2.2.2.2.2.2.2.2.2.2.1, (y2.2.2.2.2.2.2.2.2.2.2.1, (y2.2.2.2.2.2.2.2.2.2.2.2.1, (y2.2.2.2.2.2.2.2.2.2.2.2.2.1, (y2.2.2.2.2.2.2.2.2.2.2.2.2.2.1, (y2.2.2.2.2.2.2.2.2.2.2.2.2.2.2.1, y2.2.2.2.2.2.2.2.2.2.2.2.2.2.2.2.1))))))), ()), (List.length ([] ++ (List.take (Int.toNat y2.2.2.2.1) y2.2.2.2.2.2.2.2.1))) * 104 ≤ Room, (let r : List AV := [.agg [.x (.i .i64 y2.2.2.2.2.2.2.2.2.1), .x (.i .i64 y2.2.2.2.2.2.2.2.2.2.1), .x (.i .i64 y2.2.2.2.2.2.2.2.2.2.2.1), .x (.i .i64 y2.2.2.2.2.2.2.2.2.2.2.2.1), .x (.i .i64 y2.2.2.2.2.2.2.2.2.2.2.2.2.1), .x (.row Bk y2.2.2.2.2.2.2.2.2.2.2.2.2.2.1), .x (.s y2.2.2.2.2.2.2.2.2.2.2.2.2.2.2.1), .x (.row Nm y2.2.2.2.2.2.2.2.2.2.2.2.2.2.2.2.1)]]; r = r), (let r : List AV := [.x (.i .i64 y3.1.1), .x (.i .i64 y3.1.2.1), .x (.i .i64 y3.1.2.2.1), .x (.i .i64 y3.1.2.2.2.1), .x (.i .i64 y3.1.2.2.2.2.1), .x (.row Bk y3.1.2.2.2.2.2.1), .x (.s y3.1.2.2.2.2.2.2.1), .x (.row Nm y3.1.2.2.2.2.2.2.2)]; r = r), 0 ≤ y2.2.2.2.1, y2.2.2.2.1 ≤ Int.ofNat (List.length y2.2.2.2.2.2.2.2.1), loopInv F30L0 ((), (), (), (0 : Int), y0.1.1, y0.1.2.1, y0.1.2.2.1, y0.1.2.2.2, x.2.1.1, x.2.1.2.1, x.2.1.2.2.1, x.2.1.2.2.2.1, x.2.1.2.2.2.2.1, x.2.1.2.2.2.2.2.1, x.2.1.2.2.2.2.2.2.1, x.2.1.2.2.2.2.2.2.2, (0 : Int), (0 : Int), (0 : Int), (), ()), F51.pre (x.1, x.2.1.1, ())] ((y2.2.2.2.2.1, (y2.2.2.2.2.2.1, (y2.2.2.2.2.2.2.1, ((([] ++ (List.take (Int.toNat y2.2.2.2.1) y2.2.2.2.2.2.2.2.1)) ++ (y3.1 :: [])) ++ (List.drop (Int.toNat y2.2.2.2.1) y2.2.2.2.2.2.2.2.1))))), ())
abbrev F30A : List AT := [.v (.agg Dk), .v (.agg Nd)]
abbrev F30B : List AT := [.v (.agg Dk)]
noncomputable def F30R : List (Nat × Rule) := [(0, ruleOf F30L0S F30L0X F30L0)]
theorem F30L0is : ∀ x, DT.Is (runL Try.prog cfg12 1000 (lsOf F30R) 30 0 F30L0S F30L0X x) (F30L0 x) := fun x => by unfold DT.Is; kernel_rfl
theorem F30is : ∀ x, DT.Is (runF Try.prog cfg12 1000 (lsOf F30R) 30 F30A F30B x) (F30 x) := fun x => by unfold DT.Is; kernel_rfl
noncomputable def F30.fn (x : Dkt × Ndt × Unit) : Dkt × Unit := (F30 x).fn
noncomputable def F30.pre (x : Dkt × Ndt × Unit) : Prop := (F30 x).pre
theorem F30ok : DataOk Try.prog 30 F30A F30B F30.pre F30.fn := data_of_tree F30A F30B F30 cfg12ok (.of_all cfg12ok (.cons (rule_of_tree F30L0S F30L0X F30L0 (F30L0is)) .nil)) F30is
noncomputable def F30C : Con Try.prog := conD 30 F30A F30B F30.pre F30.fn F30ok (by kernel_rfl)
noncomputable def cfgL13 : List (Con Try.prog) := F30C :: cfgL12
noncomputable def cfg13 : Cfg := cfgOf cfgL13
theorem cfg13ok : CfgOk Try.prog cfg13 := cfgOf_ok cfgnamed cfgmixed _
/-! 83 veneer/veneerref5.Without -/
def F83L0S : Shape := ⟨[(1, .v (.one .str)), (2, .val (.ptr 0 0)), (4, .val (.ptr 1 0)), (5, .own Nm), (6, .v (.one (.int .i64)))], [(0, 8, [.v (.one (.int .i64)), .v (.one (.int .i64)), .v (.one (.int .i64)), .v (.one (.int .i64)), .v (.one (.int .i64)), .v (.one (.row Bk)), .v (.one .str), .v (.one (.row Nm))]), (1, 8, [.v (.one (.int .i64)), .v (.one (.int .i64)), .v (.one (.int .i64)), .v (.one (.int .i64)), .v (.one (.int .i64)), .val .nils, .v (.one .str), .val .nils])], 2⟩
def F83L0S0 : Shape := ⟨[(2, .val (.ptr 0 0)), (4, .val (.ptr 1 0)), (5, .own Nm)], [(0, 8, [.v (.one (.int .i64)), .v (.one (.int .i64)), .v (.one (.int .i64)), .v (.one (.int .i64)), .v (.one (.int .i64)), .v (.one (.row Bk)), .v (.one .str), .v (.one (.row Nm))]), (1, 8, [.v (.one (.int .i64)), .v (.one (.int .i64)), .v (.one (.int .i64)), .v (.one (.int .i64)), .v (.one (.int .i64)), .val .nils, .v (.one .str), .val .nils])], 2⟩
def F83L0X : List (Option Nat × Shape) := [(some 0, F83L0S0)]
noncomputable def F83L0 (x : List UInt8 × Unit × Unit × List Nmt × Int × Int × Int × Int × Int × Int × List Bkt × List UInt8 × List Nmt × Int × Int × Int × Int × Int × Unit × List UInt8 × Unit × Unit) : DT ((List UInt8 × Unit × Unit × List Nmt × Int × Int × Int × Int × Int × Int × List Bkt × List UInt8 × List Nmt × Int × Int × Int × Int × Int × Unit × List UInt8 × Unit × Unit) ⊕ ((Unit × Unit × List Nmt × Int × Int × Int × Int × Int × List Bkt × List UInt8 × List Nmt × Int × Int × Int × Int × Int × Unit × List UInt8 × Unit × Unit) ⊕ Empty)) :=
  .node [] (decide (x.2.2.2.2.1 < (Int.ofNat (List.length x.2.2.2.2.2.2.2.2.2.2.2.2.1))))
    (.node [0 ≤ x.2.2.2.2.1, x.2.2.2.2.1 < Int.ofNat (List.length x.2.2.2.2.2.2.2.2.2.2.2.2.1)] (!((@id (Nmt) (xsAt Nm x.2.2.2.2.2.2.2.2.2.2.2.2.1 (Int.toNat x.2.2.2.2.1))).1 == x.1))
      (.leaf [(List.length (x.2.2.2.1 ++ ((@id (Nmt) (xsAt Nm x.2.2.2.2.2.2.2.2.2.2.2.2.1 (Int.toNat x.2.2.2.2.1))) :: []))) * 24 ≤ Room, 0 ≤ x.2.2.2.2.1, x.2.2.2.2.1 < Int.ofNat (List.length x.2.2.2.2.2.2.2.2.2.2.2.2.1)] (.inl (x.1, (), (), (x.2.2.2.1 ++ ((@id (Nmt) (xsAt Nm x.2.2.2.2.2.2.2.2.2.2.2.2.1 (Int.toNat x.2.2.2.2.1))) :: [])), (wrp .i64 (x.2.2.2.2.1 + (1 : Int))), x.2.2.2.2.2.1, x.2.2.2.2.2.2.1, x.2.2.2.2.2.2.2.1, x.2.2.2.2.2.2.2.2.1, x.2.2.2.2.2.2.2.2.2.1, x.2.2.2.2.2.2.2.2.2.2.1, x.2.2.2.2.2.2.2.2.2.2.2.1, x.2.2.2.2.2.2.2.2.2.2.2.2.1, x.2.2.2.2.2.2.2.2.2.2.2.2.2.1, x.2.2.2.2.2.2.2.2.2.2.2.2.2.2.1, x.2.2.2.2.2.2.2.2.2.2.2.2.2.2.2.1, x.2.2.2.2.2.2.2.2.2.2.2.2.2.2.2.2.1, x.2.2.2.2.2.2.2.2.2.2.2.2.2.2.2.2.2.1, (), x.2.2.2.2.2.2.2.2.2.2.2.2.2.2.2.2.2.2.2.1, (), ())))
      (.leaf [] (.inl (x.1, (), (), x.2.2.2.1, (wrp .i64 (x.2.2.2.2.1 + (1 : Int))), x.2.2.2.2.2.1, x.2.2.2.2.2.2.1, x.2.2.2.2.2.2.2.1, x.2.2.2.2.2.2.2.2.1, x.2.2.2.2.2.2.2.2.2.1, x.2.2.2.2.2.2.2.2.2.2.1, x.2.2.2.2.2.2.2.2.2.2.2.1, x.2.2.2.2.2.2.2.2.2.2.2.2.1, x.2.2.2.2.2.2.2.2.2.2.2.2.2.1, x.2.2.2.2.2.2.2.2.2.2.2.2.2.2.1, x.2.2.2.2.2.2.2.2.2.2.2.2.2.2.2.1, x.2.2.2.2.2.2.2.2.2.2.2.2.2.2.2.2.1, x.2.2.2.2.2.2.2.2.2.2.2.2.2.2.2.2.2.1, (), x.2.2.2.2.2.2.2.2.2.2.2.2.2.2.2.2.2.2.2.1, (), ()))))
    (.leaf [] (.inr (.inl ((), (), x.2.2.2.1, x.2.2.2.2.2.1, x.2.2.2.2.2.2.1, x.2.2.2.2.2.2.2.1, x.2.2.2.2.2.2.2.2.1, x.2.2.2.2.2.2.2.2.2.1, x.2.2.2.2.2.2.2.2.2.2.1, x.2.2.2.2.2.2.2.2.2.2.2.1, x.2.2.2.2.2.2.2.2.2.2.2.2.1, x.2.2.2.2.2.2.2.2.2.2.2.2.2.1, x.2.2.2.2.2.2.2.2.2.2.2.2.2.2.1, x.2.2.2.2.2.2.2.2.2.2.2.2.2.2.2.1, x.2.2.2.2.2.2.2.2.2.2.2.2.2.2.2.2.1, x.2.2.2.2.2.2.2.2.2.2.2.2.2.2.2.2.2.1, (), x.2.2.2.2.2.2.2.2.2.2.2.2.2.2.2.2.2.2.2.1, (), ()))))
noncomputable def F83 (x : Ndt × List UInt8 × Unit) : DT (Ndt × Unit) :=
  let y0 := loopOut F83L0 (x.2.1, (), (), [], (0 : Int), x.1.1, x.1.2.1, x.1.2.2.1, x.1.2.2.2.1, x.1.2.2.2.2.1, x.1.2.2.2.2.2.1, x.1.2.2.2.2.2.2.1, x.1.2.2.2.2.2.2.2, (0 : Int), (0 : Int), (0 : Int), (0 : Int), (0 : Int), (), (dec 0 0 []), (), ())
  let y1 : Unit × Unit × List Nmt × Int × Int × Int × Int × Int × List Bkt × List UInt8 × List Nmt × Int × Int × Int × Int × Int × Unit × List UInt8 × Unit × Unit := getL (Shape.z F83L0S0) y0
  .leaf [loopInv F83L0 (x.2.1, (), (), [], (0 : Int), x.1.1, x.1.2.1, x.1.2.2.1, x.1.2.2.2.1, x.1.2.2.2.2.1, x.1.2.2.2.2.2.1, x.1.2.2.2.2.2.2.1, x.1.2.2.2.2.2.2.2, (0 : Int), (0 : Int), (0 : Int), (0 : Int), (0 : Int), (), (dec 0 0 []), (), ())] ((y1.2.2.2.1, (y1.2.2.2.2.1, (y1.2.2.2.2.2.1, (y1.2.2.2.2.2.2.1, (y1.2.2.2.2.2.2.2.1, (y1.2.2.2.2.2.2.2.2.1, (y1.2.2.2.2.2.2.2.2.2.1, y1.2.2.1))))))), ())
abbrev F83A : List AT := [.v (.agg Nd), .v (.one .str)]
abbrev F83B : List AT := [.v (.agg Nd)]
noncomputable def F83R : List (Nat × Rule) := [(0, ruleOf F83L0S F83L0X F83L0)]
theorem F83L0is : ∀ x, DT.Is (runL Try.prog cfg13 1000 (lsOf F83R) 83 0 F83L0S F83L0X x) (F83L0 x) := fun x => by unfold DT.Is; kernel_rfl
theorem F83is : ∀ x, DT.Is (runF Try.prog cfg13 1000 (lsOf F83R) 83 F83A F83B x) (F83 x) := fun x => by unfold DT.Is; kernel_rfl
noncomputable def F83.fn (x : Ndt × List UInt8 × Unit) : Ndt × Unit := (F83 x).fn
noncomputable def F83.pre (x : Ndt × List UInt8 × Unit) : Prop := (F83 x).pre
theorem F83ok : DataOk Try.prog 83 F83A F83B F83.pre F83.fn := data_of_tree F83A F83B F83 cfg13ok (.of_all cfg13ok (.cons (rule_of_tree F83L0S F83L0X F83L0 (F83L0is)) .nil)) F83is
noncomputable def F83C : Con Try.prog := conD 83 F83A F83B F83.pre F83.fn F83ok (by kernel_rfl)
noncomputable def cfgL14 : List (Con Try.prog) := F83C :: cfgL13
noncomputable def cfg14 : Cfg := cfgOf cfgL14
theorem cfg14ok : CfgOk Try.prog cfg14 := cfgOf_ok cfgnamed cfgmixed _
/-! 53 veneer/veneerref5.With -/
def F53L0S : Shape := ⟨[(1, .v (.one .str)), (2, .v (.one (.int .i64))), (3, .val (.ptr 0 0)), (6, .val (.ptr 1 0)), (7, .v (.one (.int .i64)))], [(0, 8, [.v (.one (.int .i64)), .v (.one (.int .i64)), .v (.one (.int .i64)), .v (.one (.int .i64)), .v (.one (.int .i64)), .v (.one (.row Bk)), .v (.one .str), .v (.one (.row Nm))]), (1, 8, [.v (.one (.int .i64)), .v (.one (.int .i64)), .v (.one (.int .i64)), .v (.one (.int .i64)), .v (.one (.int .i64)), .val .nils, .v (.one .str), .val .nils])], 2⟩
def F53L0S0 : Shape := ⟨[(1, .v (.one .str)), (2, .v (.one (.int .i64))), (3, .val (.ptr 0 0)), (6, .val (.ptr 1 0)), (7, .v (.one (.int .i64)))], [(0, 8, [.v (.one (.int .i64)), .v (.one (.int .i64)), .v (.one (.int .i64)), .v (.one (.int .i64)), .v (.one (.int .i64)), .v (.one (.row Bk)), .v (.one .str), .v (.one (.row Nm))]), (1, 8, [.v (.one (.int .i64)), .v (.one (.int .i64)), .v (.one (.int .i64)), .v (.one (.int .i64)), .v (.one (.int .i64)), .val .nils, .v (.one .str), .val .nils])], 2⟩
def F53L0X : List (Option Nat × Shape) := [(some 0, F53L0S0)]
noncomputable def F53L0 (x : List UInt8 × Int × Unit × Unit × Int × Int × Int × Int × Int × Int × List Bkt × List UInt8 × List Nmt × Int × Int × Int × Int × Int × Unit × List UInt8 × Unit × Unit) : DT ((List UInt8 × Int × Unit × Unit × Int × Int × Int × Int × Int × Int × List Bkt × List UInt8 × List Nmt × Int × Int × Int × Int × Int × Unit × List UInt8 × Unit × Unit) ⊕ ((List UInt8 × Int × Unit × Unit × Int × Int × Int × Int × Int × Int × List Bkt × List UInt8 × List Nmt × Int × Int × Int × Int × Int × Unit × List UInt8 × Unit × Unit) ⊕ Empty)) :=
  .node [] (decide (x.2.2.2.2.1 < (Int.ofNat (List.length x.2.2.2.2.2.2.2.2.2.2.2.2.1))))
    (.node [0 ≤ x.2.2.2.2.1, x.2.2.2.2.1 < Int.ofNat (List.length x.2.2.2.2.2.2.2.2.2.2.2.2.1)] (Op.bytesLess (@id (Nmt) (xsAt Nm x.2.2.2.2.2.2.2.2.2.2.2.2.1 (Int.toNat x.2.2.2.2.1))).1 x.1)
      (.leaf [] (.inl (x.1, x.2.1, (), (), (wrp .i64 (x.2.2.2.2.1 + (1 : Int))), x.2.2.2.2.2.1, x.2.2.2.2.2.2.1, x.2.2.2.2.2.2.2.1, x.2.2.2.2.2.2.2.2.1, x.2.2.2.2.2.2.2.2.2.1, x.2.2.2.2.2.2.2.2.2.2.1, x.2.2.2.2.2.2.2.2.2.2.2.1, x.2.2.2.2.2.2.2.2.2.2.2.2.1, x.2.2.2.2.2.2.2.2.2.2.2.2.2.1, x.2.2.2.2.2.2.2.2.2.2.2.2.2.2.1, x.2.2.2.2.2.2.2.2.2.2.2.2.2.2.2.1, x.2.2.2.2.2.2.2.2.2.2.2.2.2.2.2.2.1, x.2.2.2.2.2.2.2.2.2.2.2.2.2.2.2.2.2.1, (), x.2.2.2.2.2.2.2.2.2.2.2.2.2.2.2.2.2.2.2.1, (), ())))
      (.leaf [] (.inr (.inl (x.1, x.2.1, (), (), x.2.2.2.2.1, x.2.2.2.2.2.1, x.2.2.2.2.2.2.1, x.2.2.2.2.2.2.2.1, x.2.2.2.2.2.2.2.2.1, x.2.2.2.2.2.2.2.2.2.1, x.2.2.2.2.2.2.2.2.2.2.1, x.2.2.2.2.2.2.2.2.2.2.2.1, x.2.2.2.2.2.2.2.2.2.2.2.2.1, x.2.2.2.2.2.2.2.2.2.2.2.2.2.1, x.2.2.2.2.2.2.2.2.2.2.2.2.2.2.1, x.2.2.2.2.2.2.2.2.2.2.2.2.2.2.2.1, x.2.2.2.2.2.2.2.2.2.2.2.2.2.2.2.2.1, x.2.2.2.2.2.2.2.2.2.2.2.2.2.2.2.2.2.1, (), x.2.2.2.2.2.2.2.2.2.2.2.2.2.2.2.2.2.2.2.1, (), ())))))
    (.leaf [] (.inr (.inl (x.1, x.2.1, (), (), x.2.2.2.2.1, x.2.2.2.2.2.1, x.2.2.2.2.2.2.1, x.2.2.2.2.2.2.2.1, x.2.2.2.2.2.2.2.2.1, x.2.2.2.2.2.2.2.2.2.1, x.2.2.2.2.2.2.2.2.2.2.1, x.2.2.2.2.2.2.2.2.2.2.2.1, x.2.2.2.2.2.2.2.2.2.2.2.2.1, x.2.2.2.2.2.2.2.2.2.2.2.2.2.1, x.2.2.2.2.2.2.2.2.2.2.2.2.2.2.1, x.2.2.2.2.2.2.2.2.2.2.2.2.2.2.2.1, x.2.2.2.2.2.2.2.2.2.2.2.2.2.2.2.2.1, x.2.2.2.2.2.2.2.2.2.2.2.2.2.2.2.2.2.1, (), x.2.2.2.2.2.2.2.2.2.2.2.2.2.2.2.2.2.2.2.1, (), ()))))
noncomputable def F53 (x : Ndt × List UInt8 × Int × Unit) : DT (Ndt × Unit) :=
  let y0 := F83.fn (x.1, x.2.1, ())
  let y1 := loopOut F53L0 (x.2.1, x.2.2.1, (), (), (0 : Int), y0.1.1, y0.1.2.1, y0.1.2.2.1, y0.1.2.2.2.1, y0.1.2.2.2.2.1, y0.1.2.2.2.2.2.1, y0.1.2.2.2.2.2.2.1, y0.1.2.2.2.2.2.2.2, (0 : Int), (0 : Int), (0 : Int), (0 : Int), (0 : Int), (), (dec 0 0 []), (), ())
  let y2 : List UInt8 × Int × Unit × Unit × Int × Int × Int × Int × Int × Int × List Bkt × List UInt8 × List Nmt × Int × Int × Int × Int × Int × Unit × List UInt8 × Unit × Unit := getL (Shape.z F53L0S0) y1
  .leaf [(List.length ((([] ++ (List.take (Int.toNat y2.2.2.2.2.1) y2.2.2.2.2.2.2.2.2.2.2.2.2.1)) ++ ((y2.1, y2.2.1) :: [])) ++ (List.drop (Int.toNat y2.2.2.2.2.1) y2.2.2.2.2.2.2.2.2.2.2.2.2.1))) * 24 ≤ Room, 0 ≤ y2.2.2.2.2.1, y2.2.2.2.2.1 ≤ Int.ofNat (List.length y2.2.2.2.2.2.2.2.2.2.2.2.2.1), (List.length (([] ++ (List.take (Int.toNat y2.2.2.2.2.1) y2.2.2.2.2.2.2.2.2.2.2.2.2.1)) ++ ((y2.1, y2.2.1) :: []))) * 24 ≤ Room, (List.length ([] ++ (List.take (Int.toNat y2.2.2.2.2.1) y2.2.2.2.2.2.2.2.2.2.2.2.2.1))) * 24 ≤ Room, 0 ≤ y2.2.2.2.2.1, y2.2.2.2.2.1 ≤ Int.ofNat (List.length y2.2.2.2.2.2.2.2.2.2.2.2.2.1), loopInv F53L0 (x.2.1, x.2.2.1, (), (), (0 : Int), y0.1.1, y0.1.2.1, y0.1.2.2.1, y0.1.2.2.2.1, y0.1.2.2.2.2.1, y0.1.2.2.2.2.2.1, y0.1.2.2.2.2.2.2.1, y0.1.2.2.2.2.2.2.2, (0 : Int), (0 : Int), (0 : Int), (0 : Int), (0 : Int), (), (dec 0 0 []), (), ()), F83.pre (x.1, x.2.1, ())] ((y2.2.2.2.2.2.1, (y2.2.2.2.2.2.2.1, (y2.2.2.2.2.2.2.2.1, (y2.2.2.2.2.2.2.2.2.1, (y2.2.2.2.2.2.2.2.2.2.1, (y2.2.2.2.2.2.2.2.2.2.2.1, (y2.2.2.2.2.2.2.2.2.2.2.2.1, ((([] ++ (List.take (Int.toNat y2.2.2.2.2.1) y2.2.2.2.2.2.2.2.2.2.2.2.2.1)) ++ ((y2.1, y2.2.1) :: [])) ++ (List.drop (Int.toNat y2.2.2.2.2.1) y2.2.2.2.2.2.2.2.2.2.2.2.2.1))))))))), ())
abbrev F53A : List AT := [.v (.agg Nd), .v (.one .str), .v (.one (.int .i64))]
abbrev F53B : List AT := [.v (.agg Nd)]
noncomputable def F53R : List (Nat × Rule) := [(0, ruleOf F53L0S F53L0X F53L0)]
theorem F53L0is : ∀ x, DT.Is (runL Try.prog cfg14 1000 (lsOf F53R) 53 0 F53L0S F53L0X x) (F53L0 x) := fun x => by unfold DT.Is; kernel_rfl
theorem F53is : ∀ x, DT.Is (runF Try.prog cfg14 1000 (lsOf F53R) 53 F53A F53B x) (F53 x) := fun x => by unfold DT.Is; kernel_rfl
noncomputable def F53.fn (x : Ndt × List UInt8 × Int × Unit) : Ndt × Unit := (F53 x).fn
noncomputable def F53.pre (x : Ndt × List UInt8 × Int × Unit) : Prop := (F53 x).pre
theorem F53ok : DataOk Try.prog 53 F53A F53B F53.pre F53.fn := data_of_tree F53A F53B F53 cfg14ok (.of_all cfg14ok (.cons (rule_of_tree F53L0S F53L0X F53L0 (F53L0is)) .nil)) F53is
noncomputable def F53C : Con Try.prog := conD 53 F53A F53B F53.pre F53.fn F53ok (by kernel_rfl)
noncomputable def cfgL15 : List (Con Try.prog) := F53C :: cfgL14
noncomputable def cfg15 : Cfg := cfgOf cfgL15
theorem cfg15ok : CfgOk Try.prog cfg15 := cfgOf_ok cfgnamed cfgmixed _
/-! 31 veneer/veneerref6.with -/
noncomputable def F31 (x : Dkt × Int × List UInt8 × Int × Unit) : DT (Dkt × Unit) :=
  let y0 := F49.fn (x.1, x.2.1, ())
  let y1 := F53.fn (y0.1, x.2.2.1, x.2.2.2.1, ())
  let y2 := F30.fn (x.1, y1.1, ())
  .leaf [F30.pre (x.1, y1.1, ()), F53.pre (y0.1, x.2.2.1, x.2.2.2.1, ()), (let r : List AV := [.agg [.x (.i .i64 x.1.1), .x (.i .i64 x.1.2.1), .x (.i .i64 x.1.2.2.1), .x (.row Nd x.1.2.2.2)]]; r = r), F49.pre (x.1, x.2.1, ())] (y2.1, ())
abbrev F31A : List AT := [.v (.agg Dk), .v (.one (.int .i64)), .v (.one .str), .v (.one (.int .i64))]
abbrev F31B : List AT := [.v (.agg Dk)]
theorem F31is : ∀ x, DT.Is (runF Try.prog cfg15 1000 noL 31 F31A F31B x) (F31 x) := fun x => by unfold DT.Is; kernel_rfl
noncomputable def F31.fn (x : Dkt × Int × List UInt8 × Int × Unit) : Dkt × Unit := (F31 x).fn
noncomputable def F31.pre (x : Dkt × Int × List UInt8 × Int × Unit) : Prop := (F31 x).pre
theorem F31ok : DataOk Try.prog 31 F31A F31B F31.pre F31.fn := data_of_tree F31A F31B F31 cfg15ok FnLoops.none F31is
noncomputable def F31C : Con Try.prog := conD 31 F31A F31B F31.pre F31.fn F31ok (by kernel_rfl)
noncomputable def cfgL16 : List (Con Try.prog) := F31C :: cfgL15
noncomputable def cfg16 : Cfg := cfgOf cfgL16
theorem cfg16ok : CfgOk Try.prog cfg16 := cfgOf_ok cfgnamed cfgmixed _
/-! 15 veneer/veneerref6.Make -/
noncomputable def F15 (x : Dkt × Int × List UInt8 × Ndt × Unit) : DT (Dkt × Int × Int × Unit) :=
  let y0 := F28.fn (x.1, x.2.1, x.2.2.1, ())
  .node [F28.pre (x.1, x.2.1, x.2.2.1, ())] y0.2.1
    (.leaf [] (x.1, (0 : Int), (3 : Int), ()))
    (let y1 := F29.fn (x.1, ())
    .node [F29.pre (x.1, ())] (decide (y1.2.1 ≥ x.1.2.1))
      (.leaf [] (x.1, (0 : Int), (8 : Int), ()))
      (.node [] (decide ((wrp .i64 (y1.1 + (Int.ofNat (List.length x.2.2.2.1.2.2.2.2.2.1)))) > x.1.1))
        (.leaf [] (x.1, (0 : Int), (8 : Int), ()))
        (let y2 := F30.fn ((x.1.1, (x.1.2.1, ((wrp .i64 (x.1.2.2.1 + (1 : Int))), x.1.2.2.2))), (x.1.2.2.1, (x.2.2.2.1.2.1, (x.2.2.2.1.2.2.1, ((1 : Int), (x.2.2.2.1.2.2.2.2.1, (x.2.2.2.1.2.2.2.2.2.1, (x.2.2.2.1.2.2.2.2.2.2.1, []))))))), ())
        let y3 := F31.fn (y2.1, x.2.1, x.2.2.1, x.1.2.2.1, ())
        .leaf [F31.pre (y2.1, x.2.1, x.2.2.1, x.1.2.2.1, ()), F30.pre ((x.1.1, (x.1.2.1, ((wrp .i64 (x.1.2.2.1 + (1 : Int))), x.1.2.2.2))), (x.1.2.2.1, (x.2.2.2.1.2.1, (x.2.2.2.1.2.2.1, ((1 : Int), (x.2.2.2.1.2.2.2.2.1, (x.2.2.2.1.2.2.2.2.2.1, (x.2.2.2.1.2.2.2.2.2.2.1, []))))))), ())] (y3.1, x.1.2.2.1, (0 : Int), ()))))
abbrev F15A : List AT := [.v (.agg Dk), .v (.one (.int .i64)), .v (.one .str), .v (.agg Nd)]
abbrev F15B : List AT := [.v (.agg Dk), .v (.one (.int .i64)), .v (.one (.int .i64))]
theorem F15is : ∀ x, DT.Is (runF Try.prog cfg16 1000 noL 15 F15A F15B x) (F15 x) := fun x => by unfold DT.Is; kernel_rfl
noncomputable def F15.fn (x : Dkt × Int × List UInt8 × Ndt × Unit) : Dkt × Int × Int × Unit := (F15 x).fn
noncomputable def F15.pre (x : Dkt × Int × List UInt8 × Ndt × Unit) : Prop := (F15 x).pre
theorem F15ok : DataOk Try.prog 15 F15A F15B F15.pre F15.fn := data_of_tree F15A F15B F15 cfg16ok FnLoops.none F15is
noncomputable def F15C : Con Try.prog := conD 15 F15A F15B F15.pre F15.fn F15ok (by kernel_rfl)
noncomputable def cfgL17 : List (Con Try.prog) := F15C :: cfgL16
noncomputable def cfg17 : Cfg := cfgOf cfgL17
theorem cfg17ok : CfgOk Try.prog cfg17 := cfgOf_ok cfgnamed cfgmixed _
/-! 16 veneer/veneerref10.White -/
noncomputable def F16 (x : List UInt8 × Unit) : DT (List UInt8 × Unit) :=
  .leaf [List.length (dec 4 779577390 []) + List.length x.1 ≤ Room] (((dec 4 779577390 []) ++ x.1), ())
abbrev F16A : List AT := [.v (.one .str)]
abbrev F16B : List AT := [.v (.one .str)]
theorem F16is : ∀ x, DT.Is (runF Try.prog cfg17 1000 noL 16 F16A F16B x) (F16 x) := fun x => by unfold DT.Is; kernel_rfl
noncomputable def F16.fn (x : List UInt8 × Unit) : List UInt8 × Unit := (F16 x).fn
noncomputable def F16.pre (x : List UInt8 × Unit) : Prop := (F16 x).pre
theorem F16ok : DataOk Try.prog 16 F16A F16B F16.pre F16.fn := data_of_tree F16A F16B F16 cfg17ok FnLoops.none F16is
noncomputable def F16C : Con Try.prog := conD 16 F16A F16B F16.pre F16.fn F16ok (by kernel_rfl)
noncomputable def cfgL18 : List (Con Try.prog) := F16C :: cfgL17
noncomputable def cfg18 : Cfg := cfgOf cfgL18
theorem cfg18ok : CfgOk Try.prog cfg18 := cfgOf_ok cfgnamed cfgmixed _
/-! 9 veneer/seen.Roots -/
def F9L0S : Shape := ⟨[(3, .own Sp), (7, .v (.one (.int .i64))), (8, .v (.one (.int .i64)))], [], 1⟩
def F9L0S0 : Shape := ⟨[(3, .own Sp)], [], 1⟩
def F9L0X : List (Option Nat × Shape) := [(some 0, F9L0S0)]
noncomputable def F9L0 (x : List Spt × Int × Int × Unit) : DT ((List Spt × Int × Int × Unit) ⊕ ((List Spt × Unit) ⊕ Empty)) :=
  .node [] (decide (x.2.2.1 < x.2.1))
    (.leaf [(List.length (x.1 ++ ((x.2.2.1, (1 : Int)) :: []))) * 16 ≤ Room] (.inl ((x.1 ++ ((x.2.2.1, (1 : Int)) :: [])), x.2.1, (wrp .i64 (x.2.2.1 + (1 : Int))), ())))
    (.leaf [] (.inr (.inl (x.1, ()))))
noncomputable def F9 (x : Wdt × Unit) : DT (List Spt × Unit) :=
  let y0 := loopOut F9L0 ([], (Int.ofNat (List.length x.1.2.2.1)), (0 : Int), ())
  let y1 : List Spt × Unit := getL (Shape.z F9L0S0) y0
  .leaf [loopInv F9L0 ([], (Int.ofNat (List.length x.1.2.2.1)), (0 : Int), ())] (y1.1, ())
abbrev F9A : List AT := [.v (.agg Wd)]
abbrev F9B : List AT := [.own Sp]
noncomputable def F9R : List (Nat × Rule) := [(0, ruleOf F9L0S F9L0X F9L0)]
theorem F9L0is : ∀ x, DT.Is (runL Try.prog cfg18 1000 (lsOf F9R) 9 0 F9L0S F9L0X x) (F9L0 x) := fun x => by unfold DT.Is; kernel_rfl
theorem F9is : ∀ x, DT.Is (runF Try.prog cfg18 1000 (lsOf F9R) 9 F9A F9B x) (F9 x) := fun x => by unfold DT.Is; kernel_rfl
noncomputable def F9.fn (x : Wdt × Unit) : List Spt × Unit := (F9 x).fn
noncomputable def F9.pre (x : Wdt × Unit) : Prop := (F9 x).pre
theorem F9ok : DataOk Try.prog 9 F9A F9B F9.pre F9.fn := data_of_tree F9A F9B F9 cfg18ok (.of_all cfg18ok (.cons (rule_of_tree F9L0S F9L0X F9L0 (F9L0is)) .nil)) F9is
noncomputable def F9C : Con Try.prog := conD 9 F9A F9B F9.pre F9.fn F9ok (by kernel_rfl)
noncomputable def cfgL19 : List (Con Try.prog) := F9C :: cfgL18
noncomputable def cfg19 : Cfg := cfgOf cfgL19
theorem cfg19ok : CfgOk Try.prog cfg19 := cfgOf_ok cfgnamed cfgmixed _
/-! 70 cmp.isNaN[int64] -/
noncomputable def F70 (x : Int × Unit) : DT (Bool × Unit) :=
  .leaf [] ((x.1 != x.1), ())
abbrev F70A : List AT := [.v (.one (.int .i64))]
abbrev F70B : List AT := [.v (.one .bool)]
theorem F70is : ∀ x, DT.Is (runF Try.prog cfg19 1000 noL 70 F70A F70B x) (F70 x) := fun x => by unfold DT.Is; kernel_rfl
noncomputable def F70.fn (x : Int × Unit) : Bool × Unit := (F70 x).fn
noncomputable def F70.pre (x : Int × Unit) : Prop := (F70 x).pre
theorem F70ok : DataOk Try.prog 70 F70A F70B F70.pre F70.fn := data_of_tree F70A F70B F70 cfg19ok FnLoops.none F70is
noncomputable def F70C : Con Try.prog := conD 70 F70A F70B F70.pre F70.fn F70ok (by kernel_rfl)
noncomputable def cfgL20 : List (Con Try.prog) := F70C :: cfgL19
noncomputable def cfg20 : Cfg := cfgOf cfgL20
theorem cfg20ok : CfgOk Try.prog cfg20 := cfgOf_ok cfgnamed cfgmixed _
/-! 45 cmp.Compare[int64] -/
noncomputable def F45 (x : Int × Int × Unit) : DT (Int × Unit) :=
  let y0 := F70.fn (x.1, ())
  let y1 := F70.fn (x.2.1, ())
  .node [F70.pre (x.2.1, ()), F70.pre (x.1, ())] y0.1
    (.node [] y1.1
      (.leaf [] ((0 : Int), ()))
      (.leaf [] ((-1 : Int), ())))
    (.node [] y1.1
      (.leaf [] ((1 : Int), ()))
      (.node [] (decide (x.1 < x.2.1))
        (.leaf [] ((-1 : Int), ()))
        (.node [] (decide (x.1 > x.2.1))
          (.leaf [] ((1 : Int), ()))
          (.leaf [] ((0 : Int), ())))))
abbrev F45A : List AT := [.v (.one (.int .i64)), .v (.one (.int .i64))]
abbrev F45B : List AT := [.v (.one (.int .i64))]
theorem F45is : ∀ x, DT.Is (runF Try.prog cfg20 1000 noL 45 F45A F45B x) (F45 x) := fun x => by unfold DT.Is; kernel_rfl
noncomputable def F45.fn (x : Int × Int × Unit) : Int × Unit := (F45 x).fn
noncomputable def F45.pre (x : Int × Int × Unit) : Prop := (F45 x).pre
theorem F45ok : DataOk Try.prog 45 F45A F45B F45.pre F45.fn := data_of_tree F45A F45B F45 cfg20ok FnLoops.none F45is
noncomputable def F45C : Con Try.prog := conD 45 F45A F45B F45.pre F45.fn F45ok (by kernel_rfl)
noncomputable def cfgL21 : List (Con Try.prog) := F45C :: cfgL20
noncomputable def cfg21 : Cfg := cfgOf cfgL21
theorem cfg21ok : CfgOk Try.prog cfg21 := cfgOf_ok cfgnamed cfgmixed _
/-! 44 veneer/seen.node$1 -/
noncomputable def F44 (x : Ndt × Int × Unit) : DT (Int × Unit) :=
  let y0 := F45.fn (x.1.1, x.2.1, ())
  .leaf [F45.pre (x.1.1, x.2.1, ())] (y0.1, ())
abbrev F44A : List AT := [.v (.agg Nd), .v (.one (.int .i64))]
abbrev F44B : List AT := [.v (.one (.int .i64))]
theorem F44is : ∀ x, DT.Is (runF Try.prog cfg21 1000 noL 44 F44A F44B x) (F44 x) := fun x => by unfold DT.Is; kernel_rfl
noncomputable def F44.fn (x : Ndt × Int × Unit) : Int × Unit := (F44 x).fn
noncomputable def F44.pre (x : Ndt × Int × Unit) : Prop := (F44 x).pre
theorem F44ok : DataOk Try.prog 44 F44A F44B F44.pre F44.fn := data_of_tree F44A F44B F44 cfg21ok FnLoops.none F44is
noncomputable def F44C : Con Try.prog := conD 44 F44A F44B F44.pre F44.fn F44ok (by kernel_rfl)
noncomputable def cfgL22 : List (Con Try.prog) := F44C :: cfgL21
noncomputable def cfg22 : Cfg := cfgOf cfgL22
theorem cfg22ok : CfgOk Try.prog cfg22 := cfgOf_ok cfgnamed cfgmixed _
/-! 43 slices.BinarySearchFunc[[]veneer/api.Node,veneer/api.Node,int64] -/
def F43_44L0S : Shape := ⟨[(0, .v (.one (.row Nd))), (1, .v (.one (.int .i64))), (2, .val (.fn 44 [] [])), (8, .v (.one (.int .i64))), (9, .v (.one (.int .i64))), (10, .v (.one (.int .i64)))], [], 0⟩
def F43_44L0S0 : Shape := ⟨[(0, .v (.one (.row Nd))), (1, .v (.one (.int .i64))), (2, .val (.fn 44 [] [])), (8, .v (.one (.int .i64))), (9, .v (.one (.int .i64)))], [], 0⟩
def F43_44L0X : List (Option Nat × Shape) := [(some 0, F43_44L0S0)]
noncomputable def F43_44L0 (x : List Ndt × Int × Unit × Int × Int × Int × Unit) : DT ((List Ndt × Int × Unit × Int × Int × Int × Unit) ⊕ ((List Ndt × Int × Unit × Int × Int × Unit) ⊕ Empty)) :=
  .node [] (decide (x.2.2.2.2.1 < x.2.2.2.2.2.1))
    (let y0 := F44.fn ((@id (Ndt) (xsAt Nd x.1 (Int.toNat (wrp .i64 (shrI .u64 (wrp .u64 (wrp .i64 (x.2.2.2.2.1 + x.2.2.2.2.2.1))) (1 : Int)))))), x.2.1, ())
    .node [F44.pre ((@id (Ndt) (xsAt Nd x.1 (Int.toNat (wrp .i64 (shrI .u64 (wrp .u64 (wrp .i64 (x.2.2.2.2.1 + x.2.2.2.2.2.1))) (1 : Int)))))), x.2.1, ()), 0 ≤ (wrp .i64 (shrI .u64 (wrp .u64 (wrp .i64 (x.2.2.2.2.1 + x.2.2.2.2.2.1))) (1 : Int))), (wrp .i64 (shrI .u64 (wrp .u64 (wrp .i64 (x.2.2.2.2.1 + x.2.2.2.2.2.1))) (1 : Int))) < Int.ofNat (List.length x.1), 0 ≤ (1 : Int), wrp .u64 (shrI .u64 (wrp .u64 (wrp .i64 (x.2.2.2.2.1 + x.2.2.2.2.2.1))) (1 : Int)) = shrI .u64 (wrp .u64 (wrp .i64 (x.2.2.2.2.1 + x.2.2.2.2.2.1))) (1 : Int)] (decide (y0.1 < (0 : Int)))
      (.leaf [] (.inl (x.1, x.2.1, (), x.2.2.2.1, (wrp .i64 ((wrp .i64 (shrI .u64 (wrp .u64 (wrp .i64 (x.2.2.2.2.1 + x.2.2.2.2.2.1))) (1 : Int))) + (1 : Int))), x.2.2.2.2.2.1, ())))
      (.leaf [] (.inl (x.1, x.2.1, (), x.2.2.2.1, x.2.2.2.2.1, (wrp .i64 (shrI .u64 (wrp .u64 (wrp .i64 (x.2.2.2.2.1 + x.2.2.2.2.2.1))) (1 : Int))), ()))))
    (.leaf [] (.inr (.inl (x.1, x.2.1, (), x.2.2.2.1, x.2.2.2.2.1, ()))))
noncomputable def F43_44 (x : List Ndt × Int × Unit × Unit) : DT (Int × Bool × Unit) :=
  let y0 := loopOut F43_44L0 (x.1, x.2.1, (), (Int.ofNat (List.length x.1)), (0 : Int), (Int.ofNat (List.length x.1)), ())
  let y1 : List Ndt × Int × Unit × Int × Int × Unit := getL (Shape.z F43_44L0S0) y0
  .node [loopInv F43_44L0 (x.1, x.2.1, (), (Int.ofNat (List.length x.1)), (0 : Int), (Int.ofNat (List.length x.1)), ())] (decide (y1.2.2.2.2.1 < y1.2.2.2.1))
    (let y2 := F44.fn ((@id (Ndt) (xsAt Nd y1.1 (Int.toNat y1.2.2.2.2.1))), y1.2.1, ())
    .leaf [F44.pre ((@id (Ndt) (xsAt Nd y1.1 (Int.toNat y1.2.2.2.2.1))), y1.2.1, ()), 0 ≤ y1.2.2.2.2.1, y1.2.2.2.2.1 < Int.ofNat (List.length y1.1)] (y1.2.2.2.2.1, (y2.1 == (0 : Int)), ()))
    (.leaf [] (y1.2.2.2.2.1, false, ()))
abbrev F43_44A : List AT := [.v (.one (.row Nd)), .v (.one (.int .i64)), .f 44]
abbrev F43_44B : List AT := [.v (.one (.int .i64)), .v (.one .bool)]
noncomputable def F43_44R : List (Nat × Rule) := [(0, ruleOf F43_44L0S F43_44L0X F43_44L0)]
theorem F43_44L0is : ∀ x, DT.Is (runL Try.prog cfg22 1000 (lsOf F43_44R) 43 0 F43_44L0S F43_44L0X x) (F43_44L0 x) := fun x => by unfold DT.Is; kernel_rfl
theorem F43_44is : ∀ x, DT.Is (runF Try.prog cfg22 1000 (lsOf F43_44R) 43 F43_44A F43_44B x) (F43_44 x) := fun x => by unfold DT.Is; kernel_rfl
noncomputable def F43_44.fn (x : List Ndt × Int × Unit × Unit) : Int × Bool × Unit := (F43_44 x).fn
noncomputable def F43_44.pre (x : List Ndt × Int × Unit × Unit) : Prop := (F43_44 x).pre
theorem F43_44ok : DataOk Try.prog 43 F43_44A F43_44B F43_44.pre F43_44.fn := data_of_tree F43_44A F43_44B F43_44 cfg22ok (.of_all cfg22ok (.cons (rule_of_tree F43_44L0S F43_44L0X F43_44L0 (F43_44L0is)) .nil)) F43_44is
noncomputable def F43_44C : Con Try.prog := conD 43 F43_44A F43_44B F43_44.pre F43_44.fn F43_44ok (by kernel_rfl)
noncomputable def cfgL23 : List (Con Try.prog) := F43_44C :: cfgL22
noncomputable def cfg23 : Cfg := cfgOf cfgL23
theorem cfg23ok : CfgOk Try.prog cfg23 := cfgOf_ok cfgnamed cfgmixed _
/-! 20 veneer/seen.node -/
noncomputable def F20 (x : Wdt × Spt × Unit) : DT (Ndt × Unit) :=
  let y0 := F43_44.fn ((@id (Dkt) (xsAt Dk x.1.2.2.1 (Int.toNat x.2.1.1))).2.2.2, x.2.1.2, (), ())
  .node [F43_44.pre ((@id (Dkt) (xsAt Dk x.1.2.2.1 (Int.toNat x.2.1.1))).2.2.2, x.2.1.2, (), ()), 0 ≤ x.2.1.1, x.2.1.1 < Int.ofNat (List.length x.1.2.2.1)] (!y0.2.1)
    (.leaf [] (((0 : Int), ((0 : Int), ((0 : Int), ((0 : Int), ((0 : Int), ([], ((dec 0 0 []), []))))))), ()))
    (.leaf [0 ≤ y0.1, y0.1 < Int.ofNat (List.length (@id (Dkt) (xsAt Dk x.1.2.2.1 (Int.toNat x.2.1.1))).2.2.2)] ((@id (Ndt) (xsAt Nd (@id (Dkt) (xsAt Dk x.1.2.2.1 (Int.toNat x.2.1.1))).2.2.2 (Int.toNat y0.1))), ()))
abbrev F20A : List AT := [.v (.agg Wd), .v (.agg Sp)]
abbrev F20B : List AT := [.v (.agg Nd)]
theorem F20is : ∀ x, DT.Is (runF Try.prog cfg23 1000 noL 20 F20A F20B x) (F20 x) := fun x => by unfold DT.Is; kernel_rfl
noncomputable def F20.fn (x : Wdt × Spt × Unit) : Ndt × Unit := (F20 x).fn
noncomputable def F20.pre (x : Wdt × Spt × Unit) : Prop := (F20 x).pre
theorem F20ok : DataOk Try.prog 20 F20A F20B F20.pre F20.fn := data_of_tree F20A F20B F20 cfg23ok FnLoops.none F20is
noncomputable def F20C : Con Try.prog := conD 20 F20A F20B F20.pre F20.fn F20ok (by kernel_rfl)
noncomputable def cfgL24 : List (Con Try.prog) := F20C :: cfgL23
noncomputable def cfg24 : Cfg := cfgOf cfgL24
theorem cfg24ok : CfgOk Try.prog cfg24 := cfgOf_ok cfgnamed cfgmixed _
/-! 99 cmp.isNaN[string] -/
noncomputable def F99 (x : List UInt8 × Unit) : DT (Bool × Unit) :=
  .leaf [] ((!(x.1 == x.1)), ())
abbrev F99A : List AT := [.v (.one .str)]
abbrev F99B : List AT := [.v (.one .bool)]
theorem F99is : ∀ x, DT.Is (runF Try.prog cfg24 1000 noL 99 F99A F99B x) (F99 x) := fun x => by unfold DT.Is; kernel_rfl
noncomputable def F99.fn (x : List UInt8 × Unit) : Bool × Unit := (F99 x).fn
noncomputable def F99.pre (x : List UInt8 × Unit) : Prop := (F99 x).pre
theorem F99ok : DataOk Try.prog 99 F99A F99B F99.pre F99.fn := data_of_tree F99A F99B F99 cfg24ok FnLoops.none F99is
noncomputable def F99C : Con Try.prog := conD 99 F99A F99B F99.pre F99.fn F99ok (by kernel_rfl)
noncomputable def cfgL25 : List (Con Try.prog) := F99C :: cfgL24
noncomputable def cfg25 : Cfg := cfgOf cfgL25
theorem cfg25ok : CfgOk Try.prog cfg25 := cfgOf_ok cfgnamed cfgmixed _
/-! 92 cmp.Compare[string] -/
noncomputable def F92 (x : List UInt8 × List UInt8 × Unit) : DT (Int × Unit) :=
  let y0 := F99.fn (x.1, ())
  let y1 := F99.fn (x.2.1, ())
  .node [F99.pre (x.2.1, ()), F99.pre (x.1, ())] y0.1
    (.node [] y1.1
      (.leaf [] ((0 : Int), ()))
      (.leaf [] ((-1 : Int), ())))
    (.node [] y1.1
      (.leaf [] ((1 : Int), ()))
      (.node [] (Op.bytesLess x.1 x.2.1)
        (.leaf [] ((-1 : Int), ()))
        (.node [] (!(Op.bytesLess x.1 x.2.1 || x.1 == x.2.1))
          (.leaf [] ((1 : Int), ()))
          (.leaf [] ((0 : Int), ())))))
abbrev F92A : List AT := [.v (.one .str), .v (.one .str)]
abbrev F92B : List AT := [.v (.one (.int .i64))]
theorem F92is : ∀ x, DT.Is (runF Try.prog cfg25 1000 noL 92 F92A F92B x) (F92 x) := fun x => by unfold DT.Is; kernel_rfl
noncomputable def F92.fn (x : List UInt8 × List UInt8 × Unit) : Int × Unit := (F92 x).fn
noncomputable def F92.pre (x : List UInt8 × List UInt8 × Unit) : Prop := (F92 x).pre
theorem F92ok : DataOk Try.prog 92 F92A F92B F92.pre F92.fn := data_of_tree F92A F92B F92 cfg25ok FnLoops.none F92is
noncomputable def F92C : Con Try.prog := conD 92 F92A F92B F92.pre F92.fn F92ok (by kernel_rfl)
noncomputable def cfgL26 : List (Con Try.prog) := F92C :: cfgL25
noncomputable def cfg26 : Cfg := cfgOf cfgL26
theorem cfg26ok : CfgOk Try.prog cfg26 := cfgOf_ok cfgnamed cfgmixed _
/-! 91 veneer/find.place$1 -/
noncomputable def F91 (x : Nmt × List UInt8 × Unit) : DT (Int × Unit) :=
  let y0 := F92.fn (x.1.1, x.2.1, ())
  .leaf [F92.pre (x.1.1, x.2.1, ())] (y0.1, ())
abbrev F91A : List AT := [.v (.agg Nm), .v (.one .str)]
abbrev F91B : List AT := [.v (.one (.int .i64))]
theorem F91is : ∀ x, DT.Is (runF Try.prog cfg26 1000 noL 91 F91A F91B x) (F91 x) := fun x => by unfold DT.Is; kernel_rfl
noncomputable def F91.fn (x : Nmt × List UInt8 × Unit) : Int × Unit := (F91 x).fn
noncomputable def F91.pre (x : Nmt × List UInt8 × Unit) : Prop := (F91 x).pre
theorem F91ok : DataOk Try.prog 91 F91A F91B F91.pre F91.fn := data_of_tree F91A F91B F91 cfg26ok FnLoops.none F91is
noncomputable def F91C : Con Try.prog := conD 91 F91A F91B F91.pre F91.fn F91ok (by kernel_rfl)
noncomputable def cfgL27 : List (Con Try.prog) := F91C :: cfgL26
noncomputable def cfg27 : Cfg := cfgOf cfgL27
theorem cfg27ok : CfgOk Try.prog cfg27 := cfgOf_ok cfgnamed cfgmixed _
/-! 90 slices.BinarySearchFunc[[]veneer/api.Name,veneer/api.Name,string] -/
def F90_91L0S : Shape := ⟨[(0, .v (.one (.row Nm))), (1, .v (.one .str)), (2, .val (.fn 91 [] [])), (8, .v (.one (.int .i64))), (9, .v (.one (.int .i64))), (10, .v (.one (.int .i64)))], [], 0⟩
def F90_91L0S0 : Shape := ⟨[(0, .v (.one (.row Nm))), (1, .v (.one .str)), (2, .val (.fn 91 [] [])), (8, .v (.one (.int .i64))), (9, .v (.one (.int .i64)))], [], 0⟩
def F90_91L0X : List (Option Nat × Shape) := [(some 0, F90_91L0S0)]
noncomputable def F90_91L0 (x : List Nmt × List UInt8 × Unit × Int × Int × Int × Unit) : DT ((List Nmt × List UInt8 × Unit × Int × Int × Int × Unit) ⊕ ((List Nmt × List UInt8 × Unit × Int × Int × Unit) ⊕ Empty)) :=
  .node [] (decide (x.2.2.2.2.1 < x.2.2.2.2.2.1))
    (let y0 := F91.fn ((@id (Nmt) (xsAt Nm x.1 (Int.toNat (wrp .i64 (shrI .u64 (wrp .u64 (wrp .i64 (x.2.2.2.2.1 + x.2.2.2.2.2.1))) (1 : Int)))))), x.2.1, ())
    .node [F91.pre ((@id (Nmt) (xsAt Nm x.1 (Int.toNat (wrp .i64 (shrI .u64 (wrp .u64 (wrp .i64 (x.2.2.2.2.1 + x.2.2.2.2.2.1))) (1 : Int)))))), x.2.1, ()), 0 ≤ (wrp .i64 (shrI .u64 (wrp .u64 (wrp .i64 (x.2.2.2.2.1 + x.2.2.2.2.2.1))) (1 : Int))), (wrp .i64 (shrI .u64 (wrp .u64 (wrp .i64 (x.2.2.2.2.1 + x.2.2.2.2.2.1))) (1 : Int))) < Int.ofNat (List.length x.1), 0 ≤ (1 : Int), wrp .u64 (shrI .u64 (wrp .u64 (wrp .i64 (x.2.2.2.2.1 + x.2.2.2.2.2.1))) (1 : Int)) = shrI .u64 (wrp .u64 (wrp .i64 (x.2.2.2.2.1 + x.2.2.2.2.2.1))) (1 : Int)] (decide (y0.1 < (0 : Int)))
      (.leaf [] (.inl (x.1, x.2.1, (), x.2.2.2.1, (wrp .i64 ((wrp .i64 (shrI .u64 (wrp .u64 (wrp .i64 (x.2.2.2.2.1 + x.2.2.2.2.2.1))) (1 : Int))) + (1 : Int))), x.2.2.2.2.2.1, ())))
      (.leaf [] (.inl (x.1, x.2.1, (), x.2.2.2.1, x.2.2.2.2.1, (wrp .i64 (shrI .u64 (wrp .u64 (wrp .i64 (x.2.2.2.2.1 + x.2.2.2.2.2.1))) (1 : Int))), ()))))
    (.leaf [] (.inr (.inl (x.1, x.2.1, (), x.2.2.2.1, x.2.2.2.2.1, ()))))
noncomputable def F90_91 (x : List Nmt × List UInt8 × Unit × Unit) : DT (Int × Bool × Unit) :=
  let y0 := loopOut F90_91L0 (x.1, x.2.1, (), (Int.ofNat (List.length x.1)), (0 : Int), (Int.ofNat (List.length x.1)), ())
  let y1 : List Nmt × List UInt8 × Unit × Int × Int × Unit := getL (Shape.z F90_91L0S0) y0
  .node [loopInv F90_91L0 (x.1, x.2.1, (), (Int.ofNat (List.length x.1)), (0 : Int), (Int.ofNat (List.length x.1)), ())] (decide (y1.2.2.2.2.1 < y1.2.2.2.1))
    (let y2 := F91.fn ((@id (Nmt) (xsAt Nm y1.1 (Int.toNat y1.2.2.2.2.1))), y1.2.1, ())
    .leaf [F91.pre ((@id (Nmt) (xsAt Nm y1.1 (Int.toNat y1.2.2.2.2.1))), y1.2.1, ()), 0 ≤ y1.2.2.2.2.1, y1.2.2.2.2.1 < Int.ofNat (List.length y1.1)] (y1.2.2.2.2.1, (y2.1 == (0 : Int)), ()))
    (.leaf [] (y1.2.2.2.2.1, false, ()))
abbrev F90_91A : List AT := [.v (.one (.row Nm)), .v (.one .str), .f 91]
abbrev F90_91B : List AT := [.v (.one (.int .i64)), .v (.one .bool)]
noncomputable def F90_91R : List (Nat × Rule) := [(0, ruleOf F90_91L0S F90_91L0X F90_91L0)]
theorem F90_91L0is : ∀ x, DT.Is (runL Try.prog cfg27 1000 (lsOf F90_91R) 90 0 F90_91L0S F90_91L0X x) (F90_91L0 x) := fun x => by unfold DT.Is; kernel_rfl
theorem F90_91is : ∀ x, DT.Is (runF Try.prog cfg27 1000 (lsOf F90_91R) 90 F90_91A F90_91B x) (F90_91 x) := fun x => by unfold DT.Is; kernel_rfl
noncomputable def F90_91.fn (x : List Nmt × List UInt8 × Unit × Unit) : Int × Bool × Unit := (F90_91 x).fn
noncomputable def F90_91.pre (x : List Nmt × List UInt8 × Unit × Unit) : Prop := (F90_91 x).pre
theorem F90_91ok : DataOk Try.prog 90 F90_91A F90_91B F90_91.pre F90_91.fn := data_of_tree F90_91A F90_91B F90_91 cfg27ok (.of_all cfg27ok (.cons (rule_of_tree F90_91L0S F90_91L0X F90_91L0 (F90_91L0is)) .nil)) F90_91is
noncomputable def F90_91C : Con Try.prog := conD 90 F90_91A F90_91B F90_91.pre F90_91.fn F90_91ok (by kernel_rfl)
noncomputable def cfgL28 : List (Con Try.prog) := F90_91C :: cfgL27
noncomputable def cfg28 : Cfg := cfgOf cfgL28
theorem cfg28ok : CfgOk Try.prog cfg28 := cfgOf_ok cfgnamed cfgmixed _
/-! 68 veneer/find.place -/
noncomputable def F68 (x : Ndt × List UInt8 × Unit) : DT (Int × Bool × Unit) :=
  let y0 := F90_91.fn (x.1.2.2.2.2.2.2.2, x.2.1, (), ())
  .leaf [F90_91.pre (x.1.2.2.2.2.2.2.2, x.2.1, (), ())] (y0.1, y0.2.1, ())
abbrev F68A : List AT := [.v (.agg Nd), .v (.one .str)]
abbrev F68B : List AT := [.v (.one (.int .i64)), .v (.one .bool)]
theorem F68is : ∀ x, DT.Is (runF Try.prog cfg28 1000 noL 68 F68A F68B x) (F68 x) := fun x => by unfold DT.Is; kernel_rfl
noncomputable def F68.fn (x : Ndt × List UInt8 × Unit) : Int × Bool × Unit := (F68 x).fn
noncomputable def F68.pre (x : Ndt × List UInt8 × Unit) : Prop := (F68 x).pre
theorem F68ok : DataOk Try.prog 68 F68A F68B F68.pre F68.fn := data_of_tree F68A F68B F68 cfg28ok FnLoops.none F68is
noncomputable def F68C : Con Try.prog := conD 68 F68A F68B F68.pre F68.fn F68ok (by kernel_rfl)
noncomputable def cfgL29 : List (Con Try.prog) := F68C :: cfgL28
noncomputable def cfg29 : Cfg := cfgOf cfgL29
theorem cfg29ok : CfgOk Try.prog cfg29 := cfgOf_ok cfgnamed cfgmixed _
/-! 40 veneer/find.Name -/
noncomputable def F40 (x : Ndt × List UInt8 × Unit) : DT (Int × Bool × Unit) :=
  let y0 := F68.fn (x.1, x.2.1, ())
  .node [F68.pre (x.1, x.2.1, ())] (!y0.2.1)
    (.leaf [] ((0 : Int), false, ()))
    (.leaf [0 ≤ y0.1, y0.1 < Int.ofNat (List.length x.1.2.2.2.2.2.2.2)] ((@id (Nmt) (xsAt Nm x.1.2.2.2.2.2.2.2 (Int.toNat y0.1))).2, true, ()))
abbrev F40A : List AT := [.v (.agg Nd), .v (.one .str)]
abbrev F40B : List AT := [.v (.one (.int .i64)), .v (.one .bool)]
theorem F40is : ∀ x, DT.Is (runF Try.prog cfg29 1000 noL 40 F40A F40B x) (F40 x) := fun x => by unfold DT.Is; kernel_rfl
noncomputable def F40.fn (x : Ndt × List UInt8 × Unit) : Int × Bool × Unit := (F40 x).fn
noncomputable def F40.pre (x : Ndt × List UInt8 × Unit) : Prop := (F40 x).pre
theorem F40ok : DataOk Try.prog 40 F40A F40B F40.pre F40.fn := data_of_tree F40A F40B F40 cfg29ok FnLoops.none F40is
noncomputable def F40C : Con Try.prog := conD 40 F40A F40B F40.pre F40.fn F40ok (by kernel_rfl)
noncomputable def cfgL30 : List (Con Try.prog) := F40C :: cfgL29
noncomputable def cfg30 : Cfg := cfgOf cfgL30
theorem cfg30ok : CfgOk Try.prog cfg30 := cfgOf_ok cfgnamed cfgmixed _
/-! 93 veneer/conf.is -/
noncomputable def F93 (x : Cft × Int × Int × Unit) : DT (Bool × Unit) :=
  .node [] (decide (x.2.1 ≥ (0 : Int)))
    (.node [] (decide (x.2.1 < (Int.ofNat (List.length x.1.1))))
      (.leaf [0 ≤ x.2.1, x.2.1 < Int.ofNat (List.length x.1.1)] (((@id (Int) (xsAt (.one (.int .i64)) x.1.1 (Int.toNat x.2.1))) == x.2.2.1), ()))
      (.leaf [] (false, ())))
    (.leaf [] (false, ()))
abbrev F93A : List AT := [.v (.agg Cf), .v (.one (.int .i64)), .v (.one (.int .i64))]
abbrev F93B : List AT := [.v (.one .bool)]
theorem F93is : ∀ x, DT.Is (runF Try.prog cfg30 1000 noL 93 F93A F93B x) (F93 x) := fun x => by unfold DT.Is; kernel_rfl
noncomputable def F93.fn (x : Cft × Int × Int × Unit) : Bool × Unit := (F93 x).fn
noncomputable def F93.pre (x : Cft × Int × Int × Unit) : Prop := (F93 x).pre
theorem F93ok : DataOk Try.prog 93 F93A F93B F93.pre F93.fn := data_of_tree F93A F93B F93 cfg30ok FnLoops.none F93is
noncomputable def F93C : Con Try.prog := conD 93 F93A F93B F93.pre F93.fn F93ok (by kernel_rfl)
noncomputable def cfgL31 : List (Con Try.prog) := F93C :: cfgL30
noncomputable def cfg31 : Cfg := cfgOf cfgL31
theorem cfg31ok : CfgOk Try.prog cfg31 := cfgOf_ok cfgnamed cfgmixed _
/-! 69 veneer/conf.Heeds -/
noncomputable def F69 (x : Cft × Int × Unit) : DT (Bool × Unit) :=
  let y0 := F93.fn (x.1, x.2.1, (1 : Int), ())
  .node [F93.pre (x.1, x.2.1, (1 : Int), ())] y0.1
    (.leaf [] (true, ()))
    (let y1 := F93.fn (x.1, x.2.1, (3 : Int), ())
    .leaf [F93.pre (x.1, x.2.1, (3 : Int), ())] (y1.1, ()))
abbrev F69A : List AT := [.v (.agg Cf), .v (.one (.int .i64))]
abbrev F69B : List AT := [.v (.one .bool)]
theorem F69is : ∀ x, DT.Is (runF Try.prog cfg31 1000 noL 69 F69A F69B x) (F69 x) := fun x => by unfold DT.Is; kernel_rfl
noncomputable def F69.fn (x : Cft × Int × Unit) : Bool × Unit := (F69 x).fn
noncomputable def F69.pre (x : Cft × Int × Unit) : Prop := (F69 x).pre
theorem F69ok : DataOk Try.prog 69 F69A F69B F69.pre F69.fn := data_of_tree F69A F69B F69 cfg31ok FnLoops.none F69is
noncomputable def F69C : Con Try.prog := conD 69 F69A F69B F69.pre F69.fn F69ok (by kernel_rfl)
noncomputable def cfgL32 : List (Con Try.prog) := F69C :: cfgL31
noncomputable def cfg32 : Cfg := cfgOf cfgL32
theorem cfg32ok : CfgOk Try.prog cfg32 := cfgOf_ok cfgnamed cfgmixed _
/-! 41 veneer/seen.has -/
noncomputable def F41 (x : Wdt × Spt × List UInt8 × Unit) : DT (Bool × Unit) :=
  let y0 := F20.fn (x.1, x.2.1, ())
  let y1 := F40.fn (y0.1, x.2.2.1, ())
  .node [F40.pre (y0.1, x.2.2.1, ()), F20.pre (x.1, x.2.1, ())] y1.2.1
    (.node [] (y0.1.2.1 == (2 : Int))
      (let y2 := F69.fn ((x.1.1, x.1.2.1), x.2.1.1, ())
      .leaf [F69.pre ((x.1.1, x.1.2.1), x.2.1.1, ())] (y2.1, ()))
      (.leaf [] (false, ())))
    (.leaf [] (false, ()))
abbrev F41A : List AT := [.v (.agg Wd), .v (.agg Sp), .v (.one .str)]
abbrev F41B : List AT := [.v (.one .bool)]
theorem F41is : ∀ x, DT.Is (runF Try.prog cfg32 1000 noL 41 F41A F41B x) (F41 x) := fun x => by unfold DT.Is; kernel_rfl
noncomputable def F41.fn (x : Wdt × Spt × List UInt8 × Unit) : Bool × Unit := (F41 x).fn
noncomputable def F41.pre (x : Wdt × Spt × List UInt8 × Unit) : Prop := (F41 x).pre
theorem F41ok : DataOk Try.prog 41 F41A F41B F41.pre F41.fn := data_of_tree F41A F41B F41 cfg32ok FnLoops.none F41is
noncomputable def F41C : Con Try.prog := conD 41 F41A F41B F41.pre F41.fn F41ok (by kernel_rfl)
noncomputable def cfgL33 : List (Con Try.prog) := F41C :: cfgL32
noncomputable def cfg33 : Cfg := cfgOf cfgL33
theorem cfg33ok : CfgOk Try.prog cfg33 := cfgOf_ok cfgnamed cfgmixed _
/-! 42 veneer/mark.White -/
noncomputable def F42 (x : List UInt8 × Unit) : DT (List UInt8 × Unit) :=
  .leaf [List.length (dec 4 779577390 []) + List.length x.1 ≤ Room] (((dec 4 779577390 []) ++ x.1), ())
abbrev F42A : List AT := [.v (.one .str)]
abbrev F42B : List AT := [.v (.one .str)]
theorem F42is : ∀ x, DT.Is (runF Try.prog cfg33 1000 noL 42 F42A F42B x) (F42 x) := fun x => by unfold DT.Is; kernel_rfl
noncomputable def F42.fn (x : List UInt8 × Unit) : List UInt8 × Unit := (F42 x).fn
noncomputable def F42.pre (x : List UInt8 × Unit) : Prop := (F42 x).pre
theorem F42ok : DataOk Try.prog 42 F42A F42B F42.pre F42.fn := data_of_tree F42A F42B F42 cfg33ok FnLoops.none F42is
noncomputable def F42C : Con Try.prog := conD 42 F42A F42B F42.pre F42.fn F42ok (by kernel_rfl)
noncomputable def cfgL34 : List (Con Try.prog) := F42C :: cfgL33
noncomputable def cfg34 : Cfg := cfgOf cfgL34
theorem cfg34ok : CfgOk Try.prog cfg34 := cfgOf_ok cfgnamed cfgmixed _
/-! 19 veneer/seen.scan -/
def F19L0S : Shape := ⟨[(2, .v (.one .str)), (3, .val (.ptr 0 0)), (6, .own Sp), (14, .v (.one (.row Sp))), (15, .v (.one (.int .i64))), (16, .v (.one (.int .i64)))], [(0, 7, [.v (.one (.row (.one (.int .i64)))), .v (.one (.int .i64)), .v (.one (.row Dk)), .v (.one (.int .i64)), .v (.one (.row Rw)), .v (.one (.row Rw)), .v (.one (.int .i64))])], 1⟩
def F19L0S0 : Shape := ⟨[(6, .own Sp), (7, .v (.one (.int .i64)))], [], 1⟩
def F19L0S1 : Shape := ⟨[(3, .val (.ptr 0 0)), (6, .own Sp)], [(0, 7, [.v (.one (.row (.one (.int .i64)))), .v (.one (.int .i64)), .v (.one (.row Dk)), .v (.one (.int .i64)), .v (.one (.row Rw)), .v (.one (.row Rw)), .v (.one (.int .i64))])], 1⟩
def F19L0X : List (Option Nat × Shape) := [(none, F19L0S0), (some 0, F19L0S1)]
noncomputable def F19L0 (x : List UInt8 × Unit × List Spt × List Spt × Int × Int × List (Int) × Int × List Dkt × Int × List Rwt × List Rwt × Int × Unit) : DT ((List UInt8 × Unit × List Spt × List Spt × Int × Int × List (Int) × Int × List Dkt × Int × List Rwt × List Rwt × Int × Unit) ⊕ ((List Spt × Int × Unit) ⊕ (Unit × List Spt × List (Int) × Int × List Dkt × Int × List Rwt × List Rwt × Int × Unit) ⊕ Empty)) :=
  .node [] (decide (x.2.2.2.2.2.1 < x.2.2.2.2.1))
    (let y0 := F20.fn ((x.2.2.2.2.2.2.1, (x.2.2.2.2.2.2.2.1, (x.2.2.2.2.2.2.2.2.1, (x.2.2.2.2.2.2.2.2.2.1, (x.2.2.2.2.2.2.2.2.2.2.1, (x.2.2.2.2.2.2.2.2.2.2.2.1, x.2.2.2.2.2.2.2.2.2.2.2.2.1)))))), (@id (Spt) (xsAt Sp x.2.2.2.1 (Int.toNat x.2.2.2.2.2.1))), ())
    let y1 := F40.fn (y0.1, x.1, ())
    .node [F40.pre (y0.1, x.1, ()), F20.pre ((x.2.2.2.2.2.2.1, (x.2.2.2.2.2.2.2.1, (x.2.2.2.2.2.2.2.2.1, (x.2.2.2.2.2.2.2.2.2.1, (x.2.2.2.2.2.2.2.2.2.2.1, (x.2.2.2.2.2.2.2.2.2.2.2.1, x.2.2.2.2.2.2.2.2.2.2.2.2.1)))))), (@id (Spt) (xsAt Sp x.2.2.2.1 (Int.toNat x.2.2.2.2.2.1))), ()), 0 ≤ x.2.2.2.2.2.1, x.2.2.2.2.2.1 < Int.ofNat (List.length x.2.2.2.1)] y1.2.1
      (let y2 := F20.fn ((x.2.2.2.2.2.2.1, (x.2.2.2.2.2.2.2.1, (x.2.2.2.2.2.2.2.2.1, (x.2.2.2.2.2.2.2.2.2.1, (x.2.2.2.2.2.2.2.2.2.2.1, (x.2.2.2.2.2.2.2.2.2.2.2.1, x.2.2.2.2.2.2.2.2.2.2.2.2.1)))))), ((@id (Spt) (xsAt Sp x.2.2.2.1 (Int.toNat x.2.2.2.2.2.1))).1, y1.1), ())
      .node [F20.pre ((x.2.2.2.2.2.2.1, (x.2.2.2.2.2.2.2.1, (x.2.2.2.2.2.2.2.2.1, (x.2.2.2.2.2.2.2.2.2.1, (x.2.2.2.2.2.2.2.2.2.2.1, (x.2.2.2.2.2.2.2.2.2.2.2.1, x.2.2.2.2.2.2.2.2.2.2.2.2.1)))))), ((@id (Spt) (xsAt Sp x.2.2.2.1 (Int.toNat x.2.2.2.2.2.1))).1, y1.1), ())] (y2.1.2.1 == (2 : Int))
        (.node [(List.length (x.2.2.1 ++ (((@id (Spt) (xsAt Sp x.2.2.2.1 (Int.toNat x.2.2.2.2.2.1))).1, y1.1) :: []))) * 16 ≤ Room] (!(y2.1.2.1 == (2 : Int)))
          (.leaf [] (.inr (.inl ((x.2.2.1 ++ (((@id (Spt) (xsAt Sp x.2.2.2.1 (Int.toNat x.2.2.2.2.2.1))).1, y1.1) :: [])), (wrp .i64 ((@id (Spt) (xsAt Sp x.2.2.2.1 (Int.toNat x.2.2.2.2.2.1))).1 - (1 : Int))), ()))))
          (let y3 := F41.fn ((x.2.2.2.2.2.2.1, (x.2.2.2.2.2.2.2.1, (x.2.2.2.2.2.2.2.2.1, (x.2.2.2.2.2.2.2.2.2.1, (x.2.2.2.2.2.2.2.2.2.2.1, (x.2.2.2.2.2.2.2.2.2.2.2.1, x.2.2.2.2.2.2.2.2.2.2.2.2.1)))))), ((@id (Spt) (xsAt Sp x.2.2.2.1 (Int.toNat x.2.2.2.2.2.1))).1, y1.1), (dec 12 14380664602328719262401654897 []), ())
          .node [F41.pre ((x.2.2.2.2.2.2.1, (x.2.2.2.2.2.2.2.1, (x.2.2.2.2.2.2.2.2.1, (x.2.2.2.2.2.2.2.2.2.1, (x.2.2.2.2.2.2.2.2.2.2.1, (x.2.2.2.2.2.2.2.2.2.2.2.1, x.2.2.2.2.2.2.2.2.2.2.2.2.1)))))), ((@id (Spt) (xsAt Sp x.2.2.2.1 (Int.toNat x.2.2.2.2.2.1))).1, y1.1), (dec 12 14380664602328719262401654897 []), ())] y3.1
            (.leaf [] (.inr (.inl ((x.2.2.1 ++ (((@id (Spt) (xsAt Sp x.2.2.2.1 (Int.toNat x.2.2.2.2.2.1))).1, y1.1) :: [])), (@id (Spt) (xsAt Sp x.2.2.2.1 (Int.toNat x.2.2.2.2.2.1))).1, ()))))
            (let y4 := F42.fn (x.1, ())
            let y5 := F41.fn ((x.2.2.2.2.2.2.1, (x.2.2.2.2.2.2.2.1, (x.2.2.2.2.2.2.2.2.1, (x.2.2.2.2.2.2.2.2.2.1, (x.2.2.2.2.2.2.2.2.2.2.1, (x.2.2.2.2.2.2.2.2.2.2.2.1, x.2.2.2.2.2.2.2.2.2.2.2.2.1)))))), (@id (Spt) (xsAt Sp x.2.2.2.1 (Int.toNat x.2.2.2.2.2.1))), y4.1, ())
            .node [F41.pre ((x.2.2.2.2.2.2.1, (x.2.2.2.2.2.2.2.1, (x.2.2.2.2.2.2.2.2.1, (x.2.2.2.2.2.2.2.2.2.1, (x.2.2.2.2.2.2.2.2.2.2.1, (x.2.2.2.2.2.2.2.2.2.2.2.1, x.2.2.2.2.2.2.2.2.2.2.2.2.1)))))), (@id (Spt) (xsAt Sp x.2.2.2.1 (Int.toNat x.2.2.2.2.2.1))), y4.1, ()), F42.pre (x.1, ()), (let r : List AV := [.agg [.x (.row (.one (.int .i64)) x.2.2.2.2.2.2.1), .x (.i .i64 x.2.2.2.2.2.2.2.1), .x (.row Dk x.2.2.2.2.2.2.2.2.1), .x (.i .i64 x.2.2.2.2.2.2.2.2.2.1), .x (.row (.cons (.int .i64) Sp) x.2.2.2.2.2.2.2.2.2.2.1), .x (.row (.cons (.int .i64) Sp) x.2.2.2.2.2.2.2.2.2.2.2.1), .x (.i .i64 x.2.2.2.2.2.2.2.2.2.2.2.2.1)]]; r = r), (let r : List AV := [.agg [.x (.i .i64 (@id (Spt) (xsAt Sp x.2.2.2.1 (Int.toNat x.2.2.2.2.2.1))).1), .x (.i .i64 (@id (Spt) (xsAt Sp x.2.2.2.1 (Int.toNat x.2.2.2.2.2.1))).2)]]; r = r)] y5.1
              (.leaf [] (.inr (.inl ((x.2.2.1 ++ (((@id (Spt) (xsAt Sp x.2.2.2.1 (Int.toNat x.2.2.2.2.2.1))).1, y1.1) :: [])), (@id (Spt) (xsAt Sp x.2.2.2.1 (Int.toNat x.2.2.2.2.2.1))).1, ()))))
              (.leaf [] (.inl (x.1, (), (x.2.2.1 ++ (((@id (Spt) (xsAt Sp x.2.2.2.1 (Int.toNat x.2.2.2.2.2.1))).1, y1.1) :: [])), x.2.2.2.1, x.2.2.2.2.1, (wrp .i64 (x.2.2.2.2.2.1 + (1 : Int))), x.2.2.2.2.2.2.1, x.2.2.2.2.2.2.2.1, x.2.2.2.2.2.2.2.2.1, x.2.2.2.2.2.2.2.2.2.1, x.2.2.2.2.2.2.2.2.2.2.1, x.2.2.2.2.2.2.2.2.2.2.2.1, x.2.2.2.2.2.2.2.2.2.2.2.2.1, ()))))))
        (.node [] ((Int.ofNat (List.length x.2.2.1)) == (0 : Int))
          (.node [(List.length (x.2.2.1 ++ (((@id (Spt) (xsAt Sp x.2.2.2.1 (Int.toNat x.2.2.2.2.2.1))).1, y1.1) :: []))) * 16 ≤ Room] (!(y2.1.2.1 == (2 : Int)))
            (.leaf [] (.inr (.inl ((x.2.2.1 ++ (((@id (Spt) (xsAt Sp x.2.2.2.1 (Int.toNat x.2.2.2.2.2.1))).1, y1.1) :: [])), (wrp .i64 ((@id (Spt) (xsAt Sp x.2.2.2.1 (Int.toNat x.2.2.2.2.2.1))).1 - (1 : Int))), ()))))
            (let y3 := F41.fn ((x.2.2.2.2.2.2.1, (x.2.2.2.2.2.2.2.1, (x.2.2.2.2.2.2.2.2.1, (x.2.2.2.2.2.2.2.2.2.1, (x.2.2.2.2.2.2.2.2.2.2.1, (x.2.2.2.2.2.2.2.2.2.2.2.1, x.2.2.2.2.2.2.2.2.2.2.2.2.1)))))), ((@id (Spt) (xsAt Sp x.2.2.2.1 (Int.toNat x.2.2.2.2.2.1))).1, y1.1), (dec 12 14380664602328719262401654897 []), ())
            .node [F41.pre ((x.2.2.2.2.2.2.1, (x.2.2.2.2.2.2.2.1, (x.2.2.2.2.2.2.2.2.1, (x.2.2.2.2.2.2.2.2.2.1, (x.2.2.2.2.2.2.2.2.2.2.1, (x.2.2.2.2.2.2.2.2.2.2.2.1, x.2.2.2.2.2.2.2.2.2.2.2.2.1)))))), ((@id (Spt) (xsAt Sp x.2.2.2.1 (Int.toNat x.2.2.2.2.2.1))).1, y1.1), (dec 12 14380664602328719262401654897 []), ())] y3.1
              (.leaf [] (.inr (.inl ((x.2.2.1 ++ (((@id (Spt) (xsAt Sp x.2.2.2.1 (Int.toNat x.2.2.2.2.2.1))).1, y1.1) :: [])), (@id (Spt) (xsAt Sp x.2.2.2.1 (Int.toNat x.2.2.2.2.2.1))).1, ()))))
              (let y4 := F42.fn (x.1, ())
              let y5 := F41.fn ((x.2.2.2.2.2.2.1, (x.2.2.2.2.2.2.2.1, (x.2.2.2.2.2.2.2.2.1, (x.2.2.2.2.2.2.2.2.2.1, (x.2.2.2.2.2.2.2.2.2.2.1, (x.2.2.2.2.2.2.2.2.2.2.2.1, x.2.2.2.2.2.2.2.2.2.2.2.2.1)))))), (@id (Spt) (xsAt Sp x.2.2.2.1 (Int.toNat x.2.2.2.2.2.1))), y4.1, ())
              .node [F41.pre ((x.2.2.2.2.2.2.1, (x.2.2.2.2.2.2.2.1, (x.2.2.2.2.2.2.2.2.1, (x.2.2.2.2.2.2.2.2.2.1, (x.2.2.2.2.2.2.2.2.2.2.1, (x.2.2.2.2.2.2.2.2.2.2.2.1, x.2.2.2.2.2.2.2.2.2.2.2.2.1)))))), (@id (Spt) (xsAt Sp x.2.2.2.1 (Int.toNat x.2.2.2.2.2.1))), y4.1, ()), F42.pre (x.1, ()), (let r : List AV := [.agg [.x (.row (.one (.int .i64)) x.2.2.2.2.2.2.1), .x (.i .i64 x.2.2.2.2.2.2.2.1), .x (.row Dk x.2.2.2.2.2.2.2.2.1), .x (.i .i64 x.2.2.2.2.2.2.2.2.2.1), .x (.row (.cons (.int .i64) Sp) x.2.2.2.2.2.2.2.2.2.2.1), .x (.row (.cons (.int .i64) Sp) x.2.2.2.2.2.2.2.2.2.2.2.1), .x (.i .i64 x.2.2.2.2.2.2.2.2.2.2.2.2.1)]]; r = r), (let r : List AV := [.agg [.x (.i .i64 (@id (Spt) (xsAt Sp x.2.2.2.1 (Int.toNat x.2.2.2.2.2.1))).1), .x (.i .i64 (@id (Spt) (xsAt Sp x.2.2.2.1 (Int.toNat x.2.2.2.2.2.1))).2)]]; r = r)] y5.1
                (.leaf [] (.inr (.inl ((x.2.2.1 ++ (((@id (Spt) (xsAt Sp x.2.2.2.1 (Int.toNat x.2.2.2.2.2.1))).1, y1.1) :: [])), (@id (Spt) (xsAt Sp x.2.2.2.1 (Int.toNat x.2.2.2.2.2.1))).1, ()))))
                (.leaf [] (.inl (x.1, (), (x.2.2.1 ++ (((@id (Spt) (xsAt Sp x.2.2.2.1 (Int.toNat x.2.2.2.2.2.1))).1, y1.1) :: [])), x.2.2.2.1, x.2.2.2.2.1, (wrp .i64 (x.2.2.2.2.2.1 + (1 : Int))), x.2.2.2.2.2.2.1, x.2.2.2.2.2.2.2.1, x.2.2.2.2.2.2.2.2.1, x.2.2.2.2.2.2.2.2.2.1, x.2.2.2.2.2.2.2.2.2.2.1, x.2.2.2.2.2.2.2.2.2.2.2.1, x.2.2.2.2.2.2.2.2.2.2.2.2.1, ()))))))
          (.node [] (!(y2.1.2.1 == (2 : Int)))
            (.leaf [] (.inr (.inl (x.2.2.1, (wrp .i64 ((@id (Spt) (xsAt Sp x.2.2.2.1 (Int.toNat x.2.2.2.2.2.1))).1 - (1 : Int))), ()))))
            (let y3 := F41.fn ((x.2.2.2.2.2.2.1, (x.2.2.2.2.2.2.2.1, (x.2.2.2.2.2.2.2.2.1, (x.2.2.2.2.2.2.2.2.2.1, (x.2.2.2.2.2.2.2.2.2.2.1, (x.2.2.2.2.2.2.2.2.2.2.2.1, x.2.2.2.2.2.2.2.2.2.2.2.2.1)))))), ((@id (Spt) (xsAt Sp x.2.2.2.1 (Int.toNat x.2.2.2.2.2.1))).1, y1.1), (dec 12 14380664602328719262401654897 []), ())
            .node [F41.pre ((x.2.2.2.2.2.2.1, (x.2.2.2.2.2.2.2.1, (x.2.2.2.2.2.2.2.2.1, (x.2.2.2.2.2.2.2.2.2.1, (x.2.2.2.2.2.2.2.2.2.2.1, (x.2.2.2.2.2.2.2.2.2.2.2.1, x.2.2.2.2.2.2.2.2.2.2.2.2.1)))))), ((@id (Spt) (xsAt Sp x.2.2.2.1 (Int.toNat x.2.2.2.2.2.1))).1, y1.1), (dec 12 14380664602328719262401654897 []), ())] y3.1
              (.leaf [] (.inr (.inl (x.2.2.1, (@id (Spt) (xsAt Sp x.2.2.2.1 (Int.toNat x.2.2.2.2.2.1))).1, ()))))
              (let y4 := F42.fn (x.1, ())
              let y5 := F41.fn ((x.2.2.2.2.2.2.1, (x.2.2.2.2.2.2.2.1, (x.2.2.2.2.2.2.2.2.1, (x.2.2.2.2.2.2.2.2.2.1, (x.2.2.2.2.2.2.2.2.2.2.1, (x.2.2.2.2.2.2.2.2.2.2.2.1, x.2.2.2.2.2.2.2.2.2.2.2.2.1)))))), (@id (Spt) (xsAt Sp x.2.2.2.1 (Int.toNat x.2.2.2.2.2.1))), y4.1, ())
              .node [F41.pre ((x.2.2.2.2.2.2.1, (x.2.2.2.2.2.2.2.1, (x.2.2.2.2.2.2.2.2.1, (x.2.2.2.2.2.2.2.2.2.1, (x.2.2.2.2.2.2.2.2.2.2.1, (x.2.2.2.2.2.2.2.2.2.2.2.1, x.2.2.2.2.2.2.2.2.2.2.2.2.1)))))), (@id (Spt) (xsAt Sp x.2.2.2.1 (Int.toNat x.2.2.2.2.2.1))), y4.1, ()), F42.pre (x.1, ()), (let r : List AV := [.agg [.x (.row (.one (.int .i64)) x.2.2.2.2.2.2.1), .x (.i .i64 x.2.2.2.2.2.2.2.1), .x (.row Dk x.2.2.2.2.2.2.2.2.1), .x (.i .i64 x.2.2.2.2.2.2.2.2.2.1), .x (.row (.cons (.int .i64) Sp) x.2.2.2.2.2.2.2.2.2.2.1), .x (.row (.cons (.int .i64) Sp) x.2.2.2.2.2.2.2.2.2.2.2.1), .x (.i .i64 x.2.2.2.2.2.2.2.2.2.2.2.2.1)]]; r = r), (let r : List AV := [.agg [.x (.i .i64 (@id (Spt) (xsAt Sp x.2.2.2.1 (Int.toNat x.2.2.2.2.2.1))).1), .x (.i .i64 (@id (Spt) (xsAt Sp x.2.2.2.1 (Int.toNat x.2.2.2.2.2.1))).2)]]; r = r)] y5.1
                (.leaf [] (.inr (.inl (x.2.2.1, (@id (Spt) (xsAt Sp x.2.2.2.1 (Int.toNat x.2.2.2.2.2.1))).1, ()))))
                (.leaf [] (.inl (x.1, (), x.2.2.1, x.2.2.2.1, x.2.2.2.2.1, (wrp .i64 (x.2.2.2.2.2.1 + (1 : Int))), x.2.2.2.2.2.2.1, x.2.2.2.2.2.2.2.1, x.2.2.2.2.2.2.2.2.1, x.2.2.2.2.2.2.2.2.2.1, x.2.2.2.2.2.2.2.2.2.2.1, x.2.2.2.2.2.2.2.2.2.2.2.1, x.2.2.2.2.2.2.2.2.2.2.2.2.1, ()))))))))
      (let y2 := F42.fn (x.1, ())
      let y3 := F41.fn ((x.2.2.2.2.2.2.1, (x.2.2.2.2.2.2.2.1, (x.2.2.2.2.2.2.2.2.1, (x.2.2.2.2.2.2.2.2.2.1, (x.2.2.2.2.2.2.2.2.2.2.1, (x.2.2.2.2.2.2.2.2.2.2.2.1, x.2.2.2.2.2.2.2.2.2.2.2.2.1)))))), (@id (Spt) (xsAt Sp x.2.2.2.1 (Int.toNat x.2.2.2.2.2.1))), y2.1, ())
      .node [F41.pre ((x.2.2.2.2.2.2.1, (x.2.2.2.2.2.2.2.1, (x.2.2.2.2.2.2.2.2.1, (x.2.2.2.2.2.2.2.2.2.1, (x.2.2.2.2.2.2.2.2.2.2.1, (x.2.2.2.2.2.2.2.2.2.2.2.1, x.2.2.2.2.2.2.2.2.2.2.2.2.1)))))), (@id (Spt) (xsAt Sp x.2.2.2.1 (Int.toNat x.2.2.2.2.2.1))), y2.1, ()), F42.pre (x.1, ()), (let r : List AV := [.agg [.x (.row (.one (.int .i64)) x.2.2.2.2.2.2.1), .x (.i .i64 x.2.2.2.2.2.2.2.1), .x (.row Dk x.2.2.2.2.2.2.2.2.1), .x (.i .i64 x.2.2.2.2.2.2.2.2.2.1), .x (.row (.cons (.int .i64) Sp) x.2.2.2.2.2.2.2.2.2.2.1), .x (.row (.cons (.int .i64) Sp) x.2.2.2.2.2.2.2.2.2.2.2.1), .x (.i .i64 x.2.2.2.2.2.2.2.2.2.2.2.2.1)]]; r = r), (let r : List AV := [.agg [.x (.i .i64 (@id (Spt) (xsAt Sp x.2.2.2.1 (Int.toNat x.2.2.2.2.2.1))).1), .x (.i .i64 (@id (Spt) (xsAt Sp x.2.2.2.1 (Int.toNat x.2.2.2.2.2.1))).2)]]; r = r)] y3.1
        (.leaf [] (.inr (.inl (x.2.2.1, (@id (Spt) (xsAt Sp x.2.2.2.1 (Int.toNat x.2.2.2.2.2.1))).1, ()))))
        (.leaf [] (.inl (x.1, (), x.2.2.1, x.2.2.2.1, x.2.2.2.2.1, (wrp .i64 (x.2.2.2.2.2.1 + (1 : Int))), x.2.2.2.2.2.2.1, x.2.2.2.2.2.2.2.1, x.2.2.2.2.2.2.2.2.1, x.2.2.2.2.2.2.2.2.2.1, x.2.2.2.2.2.2.2.2.2.2.1, x.2.2.2.2.2.2.2.2.2.2.2.1, x.2.2.2.2.2.2.2.2.2.2.2.2.1, ())))))
    (.leaf [] (.inr (.inr (.inl ((), x.2.2.1, x.2.2.2.2.2.2.1, x.2.2.2.2.2.2.2.1, x.2.2.2.2.2.2.2.2.1, x.2.2.2.2.2.2.2.2.2.1, x.2.2.2.2.2.2.2.2.2.2.1, x.2.2.2.2.2.2.2.2.2.2.2.1, x.2.2.2.2.2.2.2.2.2.2.2.2.1, ())))))
noncomputable def F19 (x : Wdt × List Spt × List UInt8 × Unit) : DT (List Spt × Int × Unit) :=
  let y0 := loopOut F19L0 (x.2.2.1, (), [], x.2.1, (Int.ofNat (List.length x.2.1)), (0 : Int), x.1.1, x.1.2.1, x.1.2.2.1, x.1.2.2.2.1, x.1.2.2.2.2.1, x.1.2.2.2.2.2.1, x.1.2.2.2.2.2.2, ())
  .node [loopInv F19L0 (x.2.2.1, (), [], x.2.1, (Int.ofNat (List.length x.2.1)), (0 : Int), x.1.1, x.1.2.1, x.1.2.2.1, x.1.2.2.2.1, x.1.2.2.2.2.1, x.1.2.2.2.2.2.1, x.1.2.2.2.2.2.2, ())] (isL y0)
    (let y1 : List Spt × Int × Unit := getL (Shape.z F19L0S0) y0
    .leaf [] (y1.1, y1.2.1, ()))
    (let y1 : Unit × List Spt × List (Int) × Int × List Dkt × Int × List Rwt × List Rwt × Int × Unit := getL (Shape.z F19L0S1) (restR y0)
    .leaf [] (y1.2.1, (wrp .i64 ((Int.ofNat (List.length y1.2.2.2.2.1)) - (1 : Int))), ()))
abbrev F19A : List AT := [.v (.agg Wd), .v (.one (.row Sp)), .v (.one .str)]
abbrev F19B : List AT := [.own Sp, .v (.one (.int .i64))]
noncomputable def F19R : List (Nat × Rule) := [(0, ruleOf F19L0S F19L0X F19L0)]
theorem F19L0is : ∀ x, DT.Is (runL Try.prog cfg34 1000 (lsOf F19R) 19 0 F19L0S F19L0X x) (F19L0 x) := fun x => by unfold DT.Is; kernel_rfl
theorem F19is : ∀ x, DT.Is (runF Try.prog cfg34 1000 (lsOf F19R) 19 F19A F19B x) (F19 x) := fun x => by unfold DT.Is; kernel_rfl
noncomputable def F19.fn (x : Wdt × List Spt × List UInt8 × Unit) : List Spt × Int × Unit := (F19 x).fn
noncomputable def F19.pre (x : Wdt × List Spt × List UInt8 × Unit) : Prop := (F19 x).pre
theorem F19ok : DataOk Try.prog 19 F19A F19B F19.pre F19.fn := data_of_tree F19A F19B F19 cfg34ok (.of_all cfg34ok (.cons (rule_of_tree F19L0S F19L0X F19L0 (F19L0is)) .nil)) F19is
noncomputable def F19C : Con Try.prog := conD 19 F19A F19B F19.pre F19.fn F19ok (by kernel_rfl)
noncomputable def cfgL35 : List (Con Try.prog) := F19C :: cfgL34
noncomputable def cfg35 : Cfg := cfgOf cfgL35
theorem cfg35ok : CfgOk Try.prog cfg35 := cfgOf_ok cfgnamed cfgmixed _
/-! 10 veneer/seen.Seen -/
noncomputable def F10 (x : Wdt × List Spt × List UInt8 × Unit) : DT (List Spt × Unit) :=
  let y0 := F19.fn (x.1, x.2.1, x.2.2.1, ())
  .leaf [F19.pre (x.1, x.2.1, x.2.2.1, ())] (y0.1, ())
abbrev F10A : List AT := [.v (.agg Wd), .v (.one (.row Sp)), .v (.one .str)]
abbrev F10B : List AT := [.own Sp]
theorem F10is : ∀ x, DT.Is (runF Try.prog cfg35 1000 noL 10 F10A F10B x) (F10 x) := fun x => by unfold DT.Is; kernel_rfl
noncomputable def F10.fn (x : Wdt × List Spt × List UInt8 × Unit) : List Spt × Unit := (F10 x).fn
noncomputable def F10.pre (x : Wdt × List Spt × List UInt8 × Unit) : Prop := (F10 x).pre
theorem F10ok : DataOk Try.prog 10 F10A F10B F10.pre F10.fn := data_of_tree F10A F10B F10 cfg35ok FnLoops.none F10is
noncomputable def F10C : Con Try.prog := conD 10 F10A F10B F10.pre F10.fn F10ok (by kernel_rfl)
noncomputable def cfgL36 : List (Con Try.prog) := F10C :: cfgL35
noncomputable def cfg36 : Cfg := cfgOf cfgL36
theorem cfg36ok : CfgOk Try.prog cfg36 := cfgOf_ok cfgnamed cfgmixed _
/-! 17 veneer/veneerref11.Spots -/
def F17L0S : Shape := ⟨[(0, .v (.one (.row Sp))), (1, .v (.one (.row Sp))), (5, .v (.one (.int .i64)))], [], 0⟩
def F17L0S0 : Shape := ⟨[(4, .v (.one .bool))], [], 0⟩
def F17L0S1 : Shape := ⟨[], [], 0⟩
def F17L0X : List (Option Nat × Shape) := [(none, F17L0S0), (some 0, F17L0S1)]
noncomputable def F17L0 (x : List Spt × List Spt × Int × Unit) : DT ((List Spt × List Spt × Int × Unit) ⊕ ((Bool × Unit) ⊕ (Unit) ⊕ Empty)) :=
  .node [] (decide (x.2.2.1 < (Int.ofNat (List.length x.1))))
    (.node [0 ≤ x.2.2.1, x.2.2.1 < Int.ofNat (List.length x.2.1), 0 ≤ x.2.2.1, x.2.2.1 < Int.ofNat (List.length x.1)] (notB (((@id (Spt) (xsAt Sp x.1 (Int.toNat x.2.2.1))).1 == (@id (Spt) (xsAt Sp x.2.1 (Int.toNat x.2.2.1))).1) && (((@id (Spt) (xsAt Sp x.1 (Int.toNat x.2.2.1))).2 == (@id (Spt) (xsAt Sp x.2.1 (Int.toNat x.2.2.1))).2) && true)))
      (.leaf [] (.inr (.inl (false, ()))))
      (.leaf [] (.inl (x.1, x.2.1, (wrp .i64 (x.2.2.1 + (1 : Int))), ()))))
    (.leaf [] (.inr (.inr (.inl ()))))
noncomputable def F17 (x : List Spt × List Spt × Unit) : DT (Bool × Unit) :=
  .node [] ((Int.ofNat (List.length x.1)) != (Int.ofNat (List.length x.2.1)))
    (.leaf [] (false, ()))
    (let y0 := loopOut F17L0 (x.1, x.2.1, (0 : Int), ())
    .node [loopInv F17L0 (x.1, x.2.1, (0 : Int), ())] (isL y0)
      (let y1 : Bool × Unit := getL (Shape.z F17L0S0) y0
      .leaf [] (y1.1, ()))
      (let y1 : Unit := getL (Shape.z F17L0S1) (restR y0)
      .leaf [] (true, ())))
abbrev F17A : List AT := [.v (.one (.row Sp)), .v (.one (.row Sp))]
abbrev F17B : List AT := [.v (.one .bool)]
noncomputable def F17R : List (Nat × Rule) := [(0, ruleOf F17L0S F17L0X F17L0)]
theorem F17L0is : ∀ x, DT.Is (runL Try.prog cfg36 1000 (lsOf F17R) 17 0 F17L0S F17L0X x) (F17L0 x) := fun x => by unfold DT.Is; kernel_rfl
theorem F17is : ∀ x, DT.Is (runF Try.prog cfg36 1000 (lsOf F17R) 17 F17A F17B x) (F17 x) := fun x => by unfold DT.Is; kernel_rfl
noncomputable def F17.fn (x : List Spt × List Spt × Unit) : Bool × Unit := (F17 x).fn
noncomputable def F17.pre (x : List Spt × List Spt × Unit) : Prop := (F17 x).pre
theorem F17ok : DataOk Try.prog 17 F17A F17B F17.pre F17.fn := data_of_tree F17A F17B F17 cfg36ok (.of_all cfg36ok (.cons (rule_of_tree F17L0S F17L0X F17L0 (F17L0is)) .nil)) F17is
noncomputable def F17C : Con Try.prog := conD 17 F17A F17B F17.pre F17.fn F17ok (by kernel_rfl)
noncomputable def cfgL37 : List (Con Try.prog) := F17C :: cfgL36
noncomputable def cfg37 : Cfg := cfgOf cfgL37
theorem cfg37ok : CfgOk Try.prog cfg37 := cfgOf_ok cfgnamed cfgmixed _
/-! 25 veneer/seen.kept -/
noncomputable def F25 (x : List UInt8 × Unit) : DT (Bool × Unit) :=
  .node [] (decide ((Int.ofNat (List.length x.1)) ≥ (4 : Int)))
    (.leaf [0 ≤ (4 : Int), (4 : Int) ≤ Int.ofNat (List.length x.1)] (((List.take (Int.toNat (4 : Int)) x.1) == (dec 4 779577390 [])), ()))
    (.leaf [] (false, ()))
abbrev F25A : List AT := [.v (.one .str)]
abbrev F25B : List AT := [.v (.one .bool)]
theorem F25is : ∀ x, DT.Is (runF Try.prog cfg37 1000 noL 25 F25A F25B x) (F25 x) := fun x => by unfold DT.Is; kernel_rfl
noncomputable def F25.fn (x : List UInt8 × Unit) : Bool × Unit := (F25 x).fn
noncomputable def F25.pre (x : List UInt8 × Unit) : Prop := (F25 x).pre
theorem F25ok : DataOk Try.prog 25 F25A F25B F25.pre F25.fn := data_of_tree F25A F25B F25 cfg37ok FnLoops.none F25is
noncomputable def F25C : Con Try.prog := conD 25 F25A F25B F25.pre F25.fn F25ok (by kernel_rfl)
noncomputable def cfgL38 : List (Con Try.prog) := F25C :: cfgL37
noncomputable def cfg38 : Cfg := cfgOf cfgL38
theorem cfg38ok : CfgOk Try.prog cfg38 := cfgOf_ok cfgnamed cfgmixed _
/-! 48 slices.IndexFunc[[]string,string] -/
def F48_24L0S : Shape := ⟨[(0, .v (.one (.row (.one .str)))), (1, .clo 24 [Wd, (.one (.row Sp))]), (7, .v (.one (.int .i64))), (8, .v (.one (.int .i64)))], [], 0⟩
def F48_24L0S0 : Shape := ⟨[(4, .v (.one (.int .i64)))], [], 0⟩
def F48_24L0S1 : Shape := ⟨[], [], 0⟩
def F48_24L0X : List (Option Nat × Shape) := [(none, F48_24L0S0), (some 0, F48_24L0S1)]
noncomputable def F48_24L0 (x : List (List UInt8) × (Wdt × (List Spt) × Unit) × Int × Int × Unit) : DT ((List (List UInt8) × (Wdt × (List Spt) × Unit) × Int × Int × Unit) ⊕ ((Int × Unit) ⊕ (Unit) ⊕ Empty)) :=
  .node [] (decide (x.2.2.2.1 < x.2.2.1))
    (let y0 := F25.fn ((@id (List UInt8) (xsAt (.one .str) x.1 (Int.toNat x.2.2.2.1))), ())
    .node [F25.pre ((@id (List UInt8) (xsAt (.one .str) x.1 (Int.toNat x.2.2.2.1))), ()), 0 ≤ x.2.2.2.1, x.2.2.2.1 < Int.ofNat (List.length x.1)] y0.1
      (.leaf [] (.inr (.inl (x.2.2.2.1, ()))))
      (let y1 := F10.fn ((@id (Wdt) (xsAt Wd [x.2.1.1] 0)), (@id (List (Int × Int)) (xsAt (.one (.row Sp)) [x.2.1.2.1] 0)), (@id (List UInt8) (xsAt (.one .str) x.1 (Int.toNat x.2.2.2.1))), ())
      .node [F10.pre ((@id (Wdt) (xsAt Wd [x.2.1.1] 0)), (@id (List (Int × Int)) (xsAt (.one (.row Sp)) [x.2.1.2.1] 0)), (@id (List UInt8) (xsAt (.one .str) x.1 (Int.toNat x.2.2.2.1))), ())] ((Int.ofNat (List.length y1.1)) == (0 : Int))
        (.leaf [] (.inr (.inl (x.2.2.2.1, ()))))
        (.leaf [] (.inl (x.1, ((@id (Wdt) (xsAt Wd [x.2.1.1] 0)), (@id (List (Int × Int)) (xsAt (.one (.row Sp)) [x.2.1.2.1] 0)), ()), x.2.2.1, (wrp .i64 (x.2.2.2.1 + (1 : Int))), ())))))
    (.leaf [] (.inr (.inr (.inl ()))))
noncomputable def F48_24 (x : List (List UInt8) × (Wdt × (List Spt) × Unit) × Unit) : DT (Int × Unit) :=
  let y0 := loopOut F48_24L0 (x.1, ((@id (Wdt) (xsAt Wd [x.2.1.1] 0)), (@id (List (Int × Int)) (xsAt (.one (.row Sp)) [x.2.1.2.1] 0)), ()), (Int.ofNat (List.length x.1)), (0 : Int), ())
  .node [loopInv F48_24L0 (x.1, ((@id (Wdt) (xsAt Wd [x.2.1.1] 0)), (@id (List (Int × Int)) (xsAt (.one (.row Sp)) [x.2.1.2.1] 0)), ()), (Int.ofNat (List.length x.1)), (0 : Int), ())] (isL y0)
    (let y1 : Int × Unit := getL (Shape.z F48_24L0S0) y0
    .leaf [] (y1.1, ()))
    (let y1 : Unit := getL (Shape.z F48_24L0S1) (restR y0)
    .leaf [] ((-1 : Int), ()))
abbrev F48_24A : List AT := [.v (.one (.row (.one .str))), .clo 24 [Wd, (.one (.row Sp))]]
abbrev F48_24B : List AT := [.v (.one (.int .i64))]
noncomputable def F48_24R : List (Nat × Rule) := [(0, ruleOf F48_24L0S F48_24L0X F48_24L0)]
theorem F48_24L0is : ∀ x, DT.Is (runL Try.prog cfg38 1000 (lsOf F48_24R) 48 0 F48_24L0S F48_24L0X x) (F48_24L0 x) := fun x => by unfold DT.Is; kernel_rfl
theorem F48_24is : ∀ x, DT.Is (runF Try.prog cfg38 1000 (lsOf F48_24R) 48 F48_24A F48_24B x) (F48_24 x) := fun x => by unfold DT.Is; kernel_rfl
noncomputable def F48_24.fn (x : List (List UInt8) × (Wdt × (List Spt) × Unit) × Unit) : Int × Unit := (F48_24 x).fn
noncomputable def F48_24.pre (x : List (List UInt8) × (Wdt × (List Spt) × Unit) × Unit) : Prop := (F48_24 x).pre
theorem F48_24ok : DataOk Try.prog 48 F48_24A F48_24B F48_24.pre F48_24.fn := data_of_tree F48_24A F48_24B F48_24 cfg38ok (.of_all cfg38ok (.cons (rule_of_tree F48_24L0S F48_24L0X F48_24L0 (F48_24L0is)) .nil)) F48_24is
noncomputable def F48_24C : Con Try.prog := conD 48 F48_24A F48_24B F48_24.pre F48_24.fn F48_24ok (by kernel_rfl)
noncomputable def cfgL39 : List (Con Try.prog) := F48_24C :: cfgL38
noncomputable def cfg39 : Cfg := cfgOf cfgL39
theorem cfg39ok : CfgOk Try.prog cfg39 := cfgOf_ok cfgnamed cfgmixed _
/-! 23 slices.DeleteFunc[[]string,string] -/
def F23_24L0S : Shape := ⟨[(0, .own (.one .str)), (1, .clo 24 [Wd, (.one (.row Sp))]), (5, .v (.one (.int .i64))), (6, .v (.one (.int .i64)))], [], 1⟩
def F23_24L0S0 : Shape := ⟨[(0, .own (.one .str)), (5, .v (.one (.int .i64)))], [], 1⟩
def F23_24L0X : List (Option Nat × Shape) := [(some 0, F23_24L0S0)]
noncomputable def F23_24L0 (x : List (List UInt8) × (Wdt × (List Spt) × Unit) × Int × Int × Unit) : DT ((List (List UInt8) × (Wdt × (List Spt) × Unit) × Int × Int × Unit) ⊕ ((List (List UInt8) × Int × Unit) ⊕ Empty)) :=
  .node [] (decide (x.2.2.2.1 < (Int.ofNat (List.length x.1))))
    (let y0 := F25.fn ((@id (List UInt8) (xsAt (.one .str) x.1 (0 + Int.toNat x.2.2.2.1))), ())
    .node [F25.pre ((@id (List UInt8) (xsAt (.one .str) x.1 (0 + Int.toNat x.2.2.2.1))), ()), 0 ≤ x.2.2.2.1, x.2.2.2.1 < Int.ofNat (List.length x.1)] y0.1
      (.leaf [] (.inl (x.1, ((@id (Wdt) (xsAt Wd [x.2.1.1] 0)), (@id (List (Int × Int)) (xsAt (.one (.row Sp)) [x.2.1.2.1] 0)), ()), x.2.2.1, (wrp .i64 (x.2.2.2.1 + (1 : Int))), ())))
      (let y1 := F10.fn ((@id (Wdt) (xsAt Wd [x.2.1.1] 0)), (@id (List (Int × Int)) (xsAt (.one (.row Sp)) [x.2.1.2.1] 0)), (@id (List UInt8) (xsAt (.one .str) x.1 (0 + Int.toNat x.2.2.2.1))), ())
      .node [F10.pre ((@id (Wdt) (xsAt Wd [x.2.1.1] 0)), (@id (List (Int × Int)) (xsAt (.one (.row Sp)) [x.2.1.2.1] 0)), (@id (List UInt8) (xsAt (.one .str) x.1 (0 + Int.toNat x.2.2.2.1))), ())] (!((Int.ofNat (List.length y1.1)) == (0 : Int)))
        (.leaf [0 ≤ x.2.2.1, x.2.2.1 < Int.ofNat (List.length x.1)] (.inl ((List.set x.1 (0 + Int.toNat x.2.2.1) (@id (List UInt8) (xsAt (.one .str) x.1 (0 + Int.toNat x.2.2.2.1)))), ((@id (Wdt) (xsAt Wd [x.2.1.1] 0)), (@id (List (Int × Int)) (xsAt (.one (.row Sp)) [x.2.1.2.1] 0)), ()), (wrp .i64 (x.2.2.1 + (1 : Int))), (wrp .i64 (x.2.2.2.1 + (1 : Int))), ())))
        (.leaf [] (.inl (x.1, ((@id (Wdt) (xsAt Wd [x.2.1.1] 0)), (@id (List (Int × Int)) (xsAt (.one (.row Sp)) [x.2.1.2.1] 0)), ()), x.2.2.1, (wrp .i64 (x.2.2.2.1 + (1 : Int))), ())))))
    (.leaf [] (.inr (.inl (x.1, x.2.2.1, ()))))
noncomputable def F23_24 (x : List (List UInt8) × (Wdt × (List Spt) × Unit) × Unit) : DT (List (List UInt8) × Unit) :=
  let y0 := F48_24.fn (x.1, ((@id (Wdt) (xsAt Wd [x.2.1.1] 0)), (@id (List (Int × Int)) (xsAt (.one (.row Sp)) [x.2.1.2.1] 0)), ()), ())
  .node [F48_24.pre (x.1, ((@id (Wdt) (xsAt Wd [x.2.1.1] 0)), (@id (List (Int × Int)) (xsAt (.one (.row Sp)) [x.2.1.2.1] 0)), ()), ())] (y0.1 == (-1 : Int))
    (.leaf [] (x.1, ()))
    (let y1 := loopOut F23_24L0 (x.1, ((@id (Wdt) (xsAt Wd [x.2.1.1] 0)), (@id (List (Int × Int)) (xsAt (.one (.row Sp)) [x.2.1.2.1] 0)), ()), y0.1, (wrp .i64 (y0.1 + (1 : Int))), ())
    let y2 : List (List UInt8) × Int × Unit := getL (Shape.z F23_24L0S0) y1
    .leaf [0 ≤ y2.2.1, y2.2.1 ≤ Int.ofNat (List.length y2.1), 0 ≤ y2.2.1, y2.2.1 ≤ Int.ofNat (List.length y2.1), loopInv F23_24L0 (x.1, ((@id (Wdt) (xsAt Wd [x.2.1.1] 0)), (@id (List (Int × Int)) (xsAt (.one (.row Sp)) [x.2.1.2.1] 0)), ()), y0.1, (wrp .i64 (y0.1 + (1 : Int))), ())] ((List.take (Int.toNat y2.2.1) (List.drop 0 (List.take (0 + (Int.toNat y2.2.1)) y2.1 ++ List.replicate ((List.length y2.1) - (Int.toNat y2.2.1)) [] ++ List.drop ((0 + (Int.toNat y2.2.1)) + ((List.length y2.1) - (Int.toNat y2.2.1))) y2.1))), ()))
abbrev F23_24A : List AT := [.own (.one .str), .clo 24 [Wd, (.one (.row Sp))]]
abbrev F23_24B : List AT := [.v (.one (.row (.one .str)))]
noncomputable def F23_24R : List (Nat × Rule) := [(0, ruleOf F23_24L0S F23_24L0X F23_24L0)]
theorem F23_24L0is : ∀ x, DT.Is (runL Try.prog cfg39 1000 (lsOf F23_24R) 23 0 F23_24L0S F23_24L0X x) (F23_24L0 x) := fun x => by unfold DT.Is; kernel_rfl
theorem F23_24is : ∀ x, DT.Is (runF Try.prog cfg39 1000 (lsOf F23_24R) 23 F23_24A F23_24B x) (F23_24 x) := fun x => by unfold DT.Is; kernel_rfl
noncomputable def F23_24.fn (x : List (List UInt8) × (Wdt × (List Spt) × Unit) × Unit) : List (List UInt8) × Unit := (F23_24 x).fn
noncomputable def F23_24.pre (x : List (List UInt8) × (Wdt × (List Spt) × Unit) × Unit) : Prop := (F23_24 x).pre
theorem F23_24ok : DataOk Try.prog 23 F23_24A F23_24B F23_24.pre F23_24.fn := data_of_tree F23_24A F23_24B F23_24 cfg39ok (.of_all cfg39ok (.cons (rule_of_tree F23_24L0S F23_24L0X F23_24L0 (F23_24L0is)) .nil)) F23_24is
noncomputable def F23_24C : Con Try.prog := conD 23 F23_24A F23_24B F23_24.pre F23_24.fn F23_24ok (by kernel_rfl)
noncomputable def cfgL40 : List (Con Try.prog) := F23_24C :: cfgL39
noncomputable def cfg40 : Cfg := cfgOf cfgL40
theorem cfg40ok : CfgOk Try.prog cfg40 := cfgOf_ok cfgnamed cfgmixed _
/-! 11 veneer/seen.Names -/
def F11L1S : Shape := ⟨[(2, .val (.ptr 0 0)), (3, .val (.ptr 1 0)), (5, .own (.one .str)), (10, .v (.one (.row Sp))), (11, .v (.one (.int .i64))), (12, .v (.one (.int .i64))), (19, .v (.one (.row Nm))), (20, .v (.one (.int .i64))), (21, .v (.one (.int .i64)))], [(0, 7, [.v (.one (.row (.one (.int .i64)))), .v (.one (.int .i64)), .v (.one (.row Dk)), .v (.one (.int .i64)), .v (.one (.row Rw)), .v (.one (.row Rw)), .v (.one (.int .i64))]), (1, 1, [.v (.one (.row Sp))])], 4⟩
def F11L1S0 : Shape := ⟨[(2, .val (.ptr 0 0)), (3, .val (.ptr 1 0)), (5, .own (.one .str)), (10, .v (.one (.row Sp))), (11, .v (.one (.int .i64))), (12, .v (.one (.int .i64)))], [(0, 7, [.v (.one (.row (.one (.int .i64)))), .v (.one (.int .i64)), .v (.one (.row Dk)), .v (.one (.int .i64)), .v (.one (.row Rw)), .v (.one (.row Rw)), .v (.one (.int .i64))]), (1, 1, [.v (.one (.row Sp))])], 4⟩
def F11L1X : List (Option Nat × Shape) := [(some 2, F11L1S0)]
noncomputable def F11L1 (x : Unit × Unit × List (List UInt8) × List Spt × Int × Int × List Nmt × Int × Int × List (Int) × Int × List Dkt × Int × List Rwt × List Rwt × Int × List Spt × Unit) : DT ((Unit × Unit × List (List UInt8) × List Spt × Int × Int × List Nmt × Int × Int × List (Int) × Int × List Dkt × Int × List Rwt × List Rwt × Int × List Spt × Unit) ⊕ ((Unit × Unit × List (List UInt8) × List Spt × Int × Int × List (Int) × Int × List Dkt × Int × List Rwt × List Rwt × Int × List Spt × Unit) ⊕ Empty)) :=
  .node [] (decide (x.2.2.2.2.2.2.2.2.1 < x.2.2.2.2.2.2.2.1))
    (.leaf [(List.length (x.2.2.1 ++ ((@id (Nmt) (xsAt Nm x.2.2.2.2.2.2.1 (Int.toNat x.2.2.2.2.2.2.2.2.1))).1 :: []))) * 16 ≤ Room, 0 ≤ x.2.2.2.2.2.2.2.2.1, x.2.2.2.2.2.2.2.2.1 < Int.ofNat (List.length x.2.2.2.2.2.2.1)] (.inl ((), (), (x.2.2.1 ++ ((@id (Nmt) (xsAt Nm x.2.2.2.2.2.2.1 (Int.toNat x.2.2.2.2.2.2.2.2.1))).1 :: [])), x.2.2.2.1, x.2.2.2.2.1, x.2.2.2.2.2.1, x.2.2.2.2.2.2.1, x.2.2.2.2.2.2.2.1, (wrp .i64 (x.2.2.2.2.2.2.2.2.1 + (1 : Int))), x.2.2.2.2.2.2.2.2.2.1, x.2.2.2.2.2.2.2.2.2.2.1, x.2.2.2.2.2.2.2.2.2.2.2.1, x.2.2.2.2.2.2.2.2.2.2.2.2.1, x.2.2.2.2.2.2.2.2.2.2.2.2.2.1, x.2.2.2.2.2.2.2.2.2.2.2.2.2.2.1, x.2.2.2.2.2.2.2.2.2.2.2.2.2.2.2.1, x.2.2.2.2.2.2.2.2.2.2.2.2.2.2.2.2.1, ())))
    (.leaf [] (.inr (.inl ((), (), x.2.2.1, x.2.2.2.1, x.2.2.2.2.1, x.2.2.2.2.2.1, x.2.2.2.2.2.2.2.2.2.1, x.2.2.2.2.2.2.2.2.2.2.1, x.2.2.2.2.2.2.2.2.2.2.2.1, x.2.2.2.2.2.2.2.2.2.2.2.2.1, x.2.2.2.2.2.2.2.2.2.2.2.2.2.1, x.2.2.2.2.2.2.2.2.2.2.2.2.2.2.1, x.2.2.2.2.2.2.2.2.2.2.2.2.2.2.2.1, x.2.2.2.2.2.2.2.2.2.2.2.2.2.2.2.2.1, ()))))
def F11L0S : Shape := ⟨[(2, .val (.ptr 0 0)), (3, .val (.ptr 1 0)), (5, .own (.one .str)), (10, .v (.one (.row Sp))), (11, .v (.one (.int .i64))), (12, .v (.one (.int .i64)))], [(0, 7, [.v (.one (.row (.one (.int .i64)))), .v (.one (.int .i64)), .v (.one (.row Dk)), .v (.one (.int .i64)), .v (.one (.row Rw)), .v (.one (.row Rw)), .v (.one (.int .i64))]), (1, 1, [.v (.one (.row Sp))])], 2⟩
def F11L0S0 : Shape := ⟨[(2, .val (.ptr 0 0)), (3, .val (.ptr 1 0)), (5, .own (.one .str))], [(0, 7, [.v (.one (.row (.one (.int .i64)))), .v (.one (.int .i64)), .v (.one (.row Dk)), .v (.one (.int .i64)), .v (.one (.row Rw)), .v (.one (.row Rw)), .v (.one (.int .i64))]), (1, 1, [.v (.one (.row Sp))])], 2⟩
def F11L0X : List (Option Nat × Shape) := [(some 0, F11L0S0)]
noncomputable def F11L0 (x : Unit × Unit × List (List UInt8) × List Spt × Int × Int × List (Int) × Int × List Dkt × Int × List Rwt × List Rwt × Int × List Spt × Unit) : DT ((Unit × Unit × List (List UInt8) × List Spt × Int × Int × List (Int) × Int × List Dkt × Int × List Rwt × List Rwt × Int × List Spt × Unit) ⊕ ((Unit × Unit × List (List UInt8) × List (Int) × Int × List Dkt × Int × List Rwt × List Rwt × Int × List Spt × Unit) ⊕ Empty)) :=
  .node [] (decide (x.2.2.2.2.2.1 < x.2.2.2.2.1))
    (let y0 := F20.fn ((x.2.2.2.2.2.2.1, (x.2.2.2.2.2.2.2.1, (x.2.2.2.2.2.2.2.2.1, (x.2.2.2.2.2.2.2.2.2.1, (x.2.2.2.2.2.2.2.2.2.2.1, (x.2.2.2.2.2.2.2.2.2.2.2.1, x.2.2.2.2.2.2.2.2.2.2.2.2.1)))))), (@id (Spt) (xsAt Sp x.2.2.2.1 (Int.toNat x.2.2.2.2.2.1))), ())
    let y1 := loopOut F11L1 ((), (), x.2.2.1, x.2.2.2.1, x.2.2.2.2.1, x.2.2.2.2.2.1, y0.1.2.2.2.2.2.2.2, (Int.ofNat (List.length y0.1.2.2.2.2.2.2.2)), (0 : Int), x.2.2.2.2.2.2.1, x.2.2.2.2.2.2.2.1, x.2.2.2.2.2.2.2.2.1, x.2.2.2.2.2.2.2.2.2.1, x.2.2.2.2.2.2.2.2.2.2.1, x.2.2.2.2.2.2.2.2.2.2.2.1, x.2.2.2.2.2.2.2.2.2.2.2.2.1, x.2.2.2.2.2.2.2.2.2.2.2.2.2.1, ())
    let y2 : Unit × Unit × List (List UInt8) × List Spt × Int × Int × List (Int) × Int × List Dkt × Int × List Rwt × List Rwt × Int × List Spt × Unit := getL (Shape.z F11L1S0) y1
    .leaf [loopInv F11L1 ((), (), x.2.2.1, x.2.2.2.1, x.2.2.2.2.1, x.2.2.2.2.2.1, y0.1.2.2.2.2.2.2.2, (Int.ofNat (List.length y0.1.2.2.2.2.2.2.2)), (0 : Int), x.2.2.2.2.2.2.1, x.2.2.2.2.2.2.2.1, x.2.2.2.2.2.2.2.2.1, x.2.2.2.2.2.2.2.2.2.1, x.2.2.2.2.2.2.2.2.2.2.1, x.2.2.2.2.2.2.2.2.2.2.2.1, x.2.2.2.2.2.2.2.2.2.2.2.2.1, x.2.2.2.2.2.2.2.2.2.2.2.2.2.1, ()), F20.pre ((x.2.2.2.2.2.2.1, (x.2.2.2.2.2.2.2.1, (x.2.2.2.2.2.2.2.2.1, (x.2.2.2.2.2.2.2.2.2.1, (x.2.2.2.2.2.2.2.2.2.2.1, (x.2.2.2.2.2.2.2.2.2.2.2.1, x.2.2.2.2.2.2.2.2.2.2.2.2.1)))))), (@id (Spt) (xsAt Sp x.2.2.2.1 (Int.toNat x.2.2.2.2.2.1))), ()), 0 ≤ x.2.2.2.2.2.1, x.2.2.2.2.2.1 < Int.ofNat (List.length x.2.2.2.1)] (.inl ((), (), y2.2.2.1, y2.2.2.2.1, y2.2.2.2.2.1, (wrp .i64 (y2.2.2.2.2.2.1 + (1 : Int))), y2.2.2.2.2.2.2.1, y2.2.2.2.2.2.2.2.1, y2.2.2.2.2.2.2.2.2.1, y2.2.2.2.2.2.2.2.2.2.1, y2.2.2.2.2.2.2.2.2.2.2.1, y2.2.2.2.2.2.2.2.2.2.2.2.1, y2.2.2.2.2.2.2.2.2.2.2.2.2.1, y2.2.2.2.2.2.2.2.2.2.2.2.2.2.1, ())))
    (.leaf [] (.inr (.inl ((), (), x.2.2.1, x.2.2.2.2.2.2.1, x.2.2.2.2.2.2.2.1, x.2.2.2.2.2.2.2.2.1, x.2.2.2.2.2.2.2.2.2.1, x.2.2.2.2.2.2.2.2.2.2.1, x.2.2.2.2.2.2.2.2.2.2.2.1, x.2.2.2.2.2.2.2.2.2.2.2.2.1, x.2.2.2.2.2.2.2.2.2.2.2.2.2.1, ()))))
noncomputable def F11 (x : Wdt × List Spt × Unit) : DT (List (List UInt8) × Unit) :=
  let y0 := loopOut F11L0 ((), (), [], x.2.1, (Int.ofNat (List.length x.2.1)), (0 : Int), x.1.1, x.1.2.1, x.1.2.2.1, x.1.2.2.2.1, x.1.2.2.2.2.1, x.1.2.2.2.2.2.1, x.1.2.2.2.2.2.2, x.2.1, ())
  let y1 : Unit × Unit × List (List UInt8) × List (Int) × Int × List Dkt × Int × List Rwt × List Rwt × Int × List Spt × Unit := getL (Shape.z F11L0S0) y0
  let y2 := F21.fn y1.2.2.1
  let y3 := F22.fn (y2, ())
  let y4 := F23_24.fn (y3.1, ((y1.2.2.2.1, (y1.2.2.2.2.1, (y1.2.2.2.2.2.1, (y1.2.2.2.2.2.2.1, (y1.2.2.2.2.2.2.2.1, (y1.2.2.2.2.2.2.2.2.1, y1.2.2.2.2.2.2.2.2.2.1)))))), y1.2.2.2.2.2.2.2.2.2.2.1, ()), ())
  .leaf [F23_24.pre (y3.1, ((y1.2.2.2.1, (y1.2.2.2.2.1, (y1.2.2.2.2.2.1, (y1.2.2.2.2.2.2.1, (y1.2.2.2.2.2.2.2.1, (y1.2.2.2.2.2.2.2.2.1, y1.2.2.2.2.2.2.2.2.2.1)))))), y1.2.2.2.2.2.2.2.2.2.2.1, ()), ()), F22.pre (y2, ()), F21.pre y1.2.2.1, loopInv F11L0 ((), (), [], x.2.1, (Int.ofNat (List.length x.2.1)), (0 : Int), x.1.1, x.1.2.1, x.1.2.2.1, x.1.2.2.2.1, x.1.2.2.2.2.1, x.1.2.2.2.2.2.1, x.1.2.2.2.2.2.2, x.2.1, ())] (y4.1, ())
abbrev F11A : List AT := [.v (.agg Wd), .v (.one (.row Sp))]
abbrev F11B : List AT := [.v (.one (.row (.one .str)))]
noncomputable def F11R : List (Nat × Rule) := [(1, ruleOf F11L1S F11L1X F11L1), (0, ruleOf F11L0S F11L0X F11L0)]
theorem F11L1is : ∀ x, DT.Is (runL Try.prog cfg40 1000 (lsOf F11R) 11 1 F11L1S F11L1X x) (F11L1 x) := fun x => by unfold DT.Is; kernel_rfl
theorem F11L0is : ∀ x, DT.Is (runL Try.prog cfg40 1000 (lsOf F11R) 11 0 F11L0S F11L0X x) (F11L0 x) := fun x => by unfold DT.Is; kernel_rfl
theorem F11is : ∀ x, DT.Is (runF Try.prog cfg40 1000 (lsOf F11R) 11 F11A F11B x) (F11 x) := fun x => by unfold DT.Is; kernel_rfl
noncomputable def F11.fn (x : Wdt × List Spt × Unit) : List (List UInt8) × Unit := (F11 x).fn
noncomputable def F11.pre (x : Wdt × List Spt × Unit) : Prop := (F11 x).pre
theorem F11ok : DataOk Try.prog 11 F11A F11B F11.pre F11.fn := data_of_tree F11A F11B F11 cfg40ok (.of_all cfg40ok (.cons (rule_of_tree F11L1S F11L1X F11L1 (F11L1is)) (.cons (rule_of_tree F11L0S F11L0X F11L0 (F11L0is)) .nil))) F11is
noncomputable def F11C : Con Try.prog := conD 11 F11A F11B F11.pre F11.fn F11ok (by kernel_rfl)
noncomputable def cfgL41 : List (Con Try.prog) := F11C :: cfgL40
noncomputable def cfg41 : Cfg := cfgOf cfgL41
theorem cfg41ok : CfgOk Try.prog cfg41 := cfgOf_ok cfgnamed cfgmixed _
/-! 32 veneer/veneerref1.Parse -/
def F32L0S : Shape := ⟨[(0, .v (.one .str)), (4, .v (.one (.int .i64)))], [], 0⟩
def F32L0S0 : Shape := ⟨[(2, .val .nils), (3, .v (.one (.int .i64)))], [], 0⟩
def F32L0S1 : Shape := ⟨[(0, .v (.one .str))], [], 0⟩
def F32L0X : List (Option Nat × Shape) := [(none, F32L0S0), (some 0, F32L0S1)]
noncomputable def F32L0 (x : List UInt8 × Int × Unit) : DT ((List UInt8 × Int × Unit) ⊕ ((Unit × Int × Unit) ⊕ (List UInt8 × Unit) ⊕ Empty)) :=
  .node [] (decide (x.2.1 < (Int.ofNat (List.length x.1))))
    (.node [0 ≤ x.2.1, x.2.1 < Int.ofNat (List.length x.1)] ((Int.ofNat (List.getD x.1 (Int.toNat x.2.1) 0).toNat) == (0 : Int))
      (.leaf [] (.inr (.inl ((), (1 : Int), ()))))
      (.leaf [] (.inl (x.1, (wrp .i64 (x.2.1 + (1 : Int))), ()))))
    (.leaf [] (.inr (.inr (.inl (x.1, ())))))
def F32L1S : Shape := ⟨[(0, .v (.one .str)), (5, .v (.one (.row (.one .str)))), (6, .v (.one (.int .i64))), (7, .v (.one (.int .i64)))], [], 0⟩
def F32L1S0 : Shape := ⟨[(2, .val .nils), (3, .v (.one (.int .i64)))], [], 0⟩
def F32L1S1 : Shape := ⟨[(5, .v (.one (.row (.one .str))))], [], 0⟩
def F32L1X : List (Option Nat × Shape) := [(none, F32L1S0), (some 2, F32L1S1)]
noncomputable def F32L1 (x : List UInt8 × List (List UInt8) × Int × Int × Unit) : DT ((List UInt8 × List (List UInt8) × Int × Int × Unit) ⊕ ((Unit × Int × Unit) ⊕ (List (List UInt8) × Unit) ⊕ Empty)) :=
  .node [] (decide (x.2.2.2.1 ≤ (Int.ofNat (List.length x.1))))
    (.node [] (decide (x.2.2.2.1 < (Int.ofNat (List.length x.1))))
      (.node [0 ≤ x.2.2.2.1, x.2.2.2.1 < Int.ofNat (List.length x.1)] ((Int.ofNat (List.getD x.1 (Int.toNat x.2.2.2.1) 0).toNat) != (47 : Int))
        (.leaf [] (.inl (x.1, x.2.1, x.2.2.1, (wrp .i64 (x.2.2.2.1 + (1 : Int))), ())))
        (.node [0 ≤ x.2.2.2.1, x.2.2.2.1 ≤ Int.ofNat (List.length x.1), 0 ≤ x.2.2.1, x.2.2.1 ≤ Int.ofNat (Int.toNat x.2.2.2.1)] ((List.drop (Int.toNat x.2.2.1) (List.take (Int.toNat x.2.2.2.1) x.1)) == (dec 0 0 []))
          (.leaf [] (.inl (x.1, x.2.1, (wrp .i64 (x.2.2.2.1 + (1 : Int))), (wrp .i64 (x.2.2.2.1 + (1 : Int))), ())))
          (.node [] ((List.drop (Int.toNat x.2.2.1) (List.take (Int.toNat x.2.2.2.1) x.1)) == (dec 1 46 []))
            (.leaf [] (.inl (x.1, x.2.1, (wrp .i64 (x.2.2.2.1 + (1 : Int))), (wrp .i64 (x.2.2.2.1 + (1 : Int))), ())))
            (.node [] ((List.drop (Int.toNat x.2.2.1) (List.take (Int.toNat x.2.2.2.1) x.1)) == (dec 2 11822 []))
              (.leaf [0 ≤ (mxI (wrp .i64 ((Int.ofNat (List.length x.2.1)) - (1 : Int))) (0 : Int)), (mxI (wrp .i64 ((Int.ofNat (List.length x.2.1)) - (1 : Int))) (0 : Int)) ≤ Int.ofNat (List.length x.2.1)] (.inl (x.1, (List.take (Int.toNat (mxI (wrp .i64 ((Int.ofNat (List.length x.2.1)) - (1 : Int))) (0 : Int))) x.2.1), (wrp .i64 (x.2.2.2.1 + (1 : Int))), (wrp .i64 (x.2.2.2.1 + (1 : Int))), ())))
              (.node [] (decide ((Int.ofNat (List.length (List.drop (Int.toNat x.2.2.1) (List.take (Int.toNat x.2.2.2.1) x.1)))) > (24 : Int)))
                (.leaf [] (.inr (.inl ((), (9 : Int), ()))))
                (.node [] (decide ((Int.ofNat (List.length x.2.1)) ≥ (16 : Int)))
                  (.leaf [] (.inr (.inl ((), (9 : Int), ()))))
                  (.leaf [(List.length (([] ++ x.2.1) ++ ((List.drop (Int.toNat x.2.2.1) (List.take (Int.toNat x.2.2.2.1) x.1)) :: []))) * 16 ≤ Room, (List.length ([] ++ x.2.1)) * 16 ≤ Room] (.inl (x.1, (([] ++ x.2.1) ++ ((List.drop (Int.toNat x.2.2.1) (List.take (Int.toNat x.2.2.2.1) x.1)) :: [])), (wrp .i64 (x.2.2.2.1 + (1 : Int))), (wrp .i64 (x.2.2.2.1 + (1 : Int))), ())))))))))
      (.node [0 ≤ x.2.2.2.1, x.2.2.2.1 ≤ Int.ofNat (List.length x.1), 0 ≤ x.2.2.1, x.2.2.1 ≤ Int.ofNat (Int.toNat x.2.2.2.1)] ((List.drop (Int.toNat x.2.2.1) (List.take (Int.toNat x.2.2.2.1) x.1)) == (dec 0 0 []))
        (.leaf [] (.inl (x.1, x.2.1, (wrp .i64 (x.2.2.2.1 + (1 : Int))), (wrp .i64 (x.2.2.2.1 + (1 : Int))), ())))
        (.node [] ((List.drop (Int.toNat x.2.2.1) (List.take (Int.toNat x.2.2.2.1) x.1)) == (dec 1 46 []))
          (.leaf [] (.inl (x.1, x.2.1, (wrp .i64 (x.2.2.2.1 + (1 : Int))), (wrp .i64 (x.2.2.2.1 + (1 : Int))), ())))
          (.node [] ((List.drop (Int.toNat x.2.2.1) (List.take (Int.toNat x.2.2.2.1) x.1)) == (dec 2 11822 []))
            (.leaf [0 ≤ (mxI (wrp .i64 ((Int.ofNat (List.length x.2.1)) - (1 : Int))) (0 : Int)), (mxI (wrp .i64 ((Int.ofNat (List.length x.2.1)) - (1 : Int))) (0 : Int)) ≤ Int.ofNat (List.length x.2.1)] (.inl (x.1, (List.take (Int.toNat (mxI (wrp .i64 ((Int.ofNat (List.length x.2.1)) - (1 : Int))) (0 : Int))) x.2.1), (wrp .i64 (x.2.2.2.1 + (1 : Int))), (wrp .i64 (x.2.2.2.1 + (1 : Int))), ())))
            (.node [] (decide ((Int.ofNat (List.length (List.drop (Int.toNat x.2.2.1) (List.take (Int.toNat x.2.2.2.1) x.1)))) > (24 : Int)))
              (.leaf [] (.inr (.inl ((), (9 : Int), ()))))
              (.node [] (decide ((Int.ofNat (List.length x.2.1)) ≥ (16 : Int)))
                (.leaf [] (.inr (.inl ((), (9 : Int), ()))))
                (.leaf [(List.length (([] ++ x.2.1) ++ ((List.drop (Int.toNat x.2.2.1) (List.take (Int.toNat x.2.2.2.1) x.1)) :: []))) * 16 ≤ Room, (List.length ([] ++ x.2.1)) * 16 ≤ Room] (.inl (x.1, (([] ++ x.2.1) ++ ((List.drop (Int.toNat x.2.2.1) (List.take (Int.toNat x.2.2.2.1) x.1)) :: [])), (wrp .i64 (x.2.2.2.1 + (1 : Int))), (wrp .i64 (x.2.2.2.1 + (1 : Int))), ())))))))))
    (.leaf [] (.inr (.inr (.inl (x.2.1, ())))))
noncomputable def F32 (x : List UInt8 × Unit) : DT (List (List UInt8) × Int × Unit) :=
  .node [] ((Int.ofNat (List.length x.1)) == (0 : Int))
    (.leaf [] ([], (1 : Int), ()))
    (.node [0 ≤ (0 : Int), (0 : Int) < Int.ofNat (List.length x.1)] ((Int.ofNat (List.getD x.1 (Int.toNat (0 : Int)) 0).toNat) != (47 : Int))
      (.leaf [] ([], (1 : Int), ()))
      (let y0 := loopOut F32L0 (x.1, (0 : Int), ())
      .node [loopInv F32L0 (x.1, (0 : Int), ())] (isL y0)
        (let y1 : Unit × Int × Unit := getL (Shape.z F32L0S0) y0
        .leaf [] ([], y1.2.1, ()))
        (let y1 : List UInt8 × Unit := getL (Shape.z F32L0S1) (restR y0)
        .node [] (decide ((Int.ofNat (List.length y1.1)) > (120 : Int)))
          (.leaf [] ([], (9 : Int), ()))
          (let y2 := loopOut F32L1 (y1.1, [], (1 : Int), (1 : Int), ())
          .node [loopInv F32L1 (y1.1, [], (1 : Int), (1 : Int), ())] (isL y2)
            (let y3 : Unit × Int × Unit := getL (Shape.z F32L1S0) y2
            .leaf [] ([], y3.2.1, ()))
            (let y3 : List (List UInt8) × Unit := getL (Shape.z F32L1S1) (restR y2)
            .leaf [] (y3.1, (0 : Int), ()))))))
abbrev F32A : List AT := [.v (.one .str)]
abbrev F32B : List AT := [.v (.one (.row (.one .str))), .v (.one (.int .i64))]
noncomputable def F32R : List (Nat × Rule) := [(0, ruleOf F32L0S F32L0X F32L0), (1, ruleOf F32L1S F32L1X F32L1)]
theorem F32L0is : ∀ x, DT.Is (runL Try.prog cfg41 1000 (lsOf F32R) 32 0 F32L0S F32L0X x) (F32L0 x) := fun x => by unfold DT.Is; kernel_rfl
theorem F32L1is : ∀ x, DT.Is (runL Try.prog cfg41 1000 (lsOf F32R) 32 1 F32L1S F32L1X x) (F32L1 x) := fun x => by unfold DT.Is; kernel_rfl
theorem F32is : ∀ x, DT.Is (runF Try.prog cfg41 1000 (lsOf F32R) 32 F32A F32B x) (F32 x) := fun x => by unfold DT.Is; kernel_rfl
noncomputable def F32.fn (x : List UInt8 × Unit) : List (List UInt8) × Int × Unit := (F32 x).fn
noncomputable def F32.pre (x : List UInt8 × Unit) : Prop := (F32 x).pre
theorem F32ok : DataOk Try.prog 32 F32A F32B F32.pre F32.fn := data_of_tree F32A F32B F32 cfg41ok (.of_all cfg41ok (.cons (rule_of_tree F32L0S F32L0X F32L0 (F32L0is)) (.cons (rule_of_tree F32L1S F32L1X F32L1 (F32L1is)) .nil))) F32is
noncomputable def F32C : Con Try.prog := conD 32 F32A F32B F32.pre F32.fn F32ok (by kernel_rfl)
noncomputable def cfgL42 : List (Con Try.prog) := F32C :: cfgL41
noncomputable def cfg42 : Cfg := cfgOf cfgL42
theorem cfg42ok : CfgOk Try.prog cfg42 := cfgOf_ok cfgnamed cfgmixed _
/-! 33 veneer/veneerref8.Two -/
noncomputable def F33 (x : (Int × List UInt8 × List UInt8 × Int × Int × Int × List (Int)) × Unit) : DT (Bool × Unit) :=
  .node [] (x.1.1 == (3 : Int))
    (.leaf [] (true, ()))
    (.leaf [] ((x.1.1 == (6 : Int)), ()))
abbrev F33A : List AT := [.v (.agg (.cons (.int .i64) (.cons .str (.cons .str (.cons (.int .i64) (.cons (.int .i64) Bk))))))]
abbrev F33B : List AT := [.v (.one .bool)]
theorem F33is : ∀ x, DT.Is (runF Try.prog cfg42 1000 noL 33 F33A F33B x) (F33 x) := fun x => by unfold DT.Is; kernel_rfl
noncomputable def F33.fn (x : (Int × List UInt8 × List UInt8 × Int × Int × Int × List (Int)) × Unit) : Bool × Unit := (F33 x).fn
noncomputable def F33.pre (x : (Int × List UInt8 × List UInt8 × Int × Int × Int × List (Int)) × Unit) : Prop := (F33 x).pre
theorem F33ok : DataOk Try.prog 33 F33A F33B F33.pre F33.fn := data_of_tree F33A F33B F33 cfg42ok FnLoops.none F33is
noncomputable def F33C : Con Try.prog := conD 33 F33A F33B F33.pre F33.fn F33ok (by kernel_rfl)
noncomputable def cfgL43 : List (Con Try.prog) := F33C :: cfgL42
noncomputable def cfg43 : Cfg := cfgOf cfgL43
theorem cfg43ok : CfgOk Try.prog cfg43 := cfgOf_ok cfgnamed cfgmixed _
/-! 34 veneer/veneerref8.Asks -/
noncomputable def F34 (x : (Int × List UInt8 × List UInt8 × Int × Int × Int × List (Int)) × Unit) : DT (Bool × Unit) :=
  .node [] (x.1.1 == (8 : Int))
    (.leaf [] (true, ()))
    (.node [] (x.1.1 == (11 : Int))
      (.leaf [] (true, ()))
      (.node [] (x.1.1 == (12 : Int))
        (.leaf [] (true, ()))
        (.leaf [] ((x.1.1 == (14 : Int)), ()))))
abbrev F34A : List AT := [.v (.agg (.cons (.int .i64) (.cons .str (.cons .str (.cons (.int .i64) (.cons (.int .i64) Bk))))))]
abbrev F34B : List AT := [.v (.one .bool)]
theorem F34is : ∀ x, DT.Is (runF Try.prog cfg43 1000 noL 34 F34A F34B x) (F34 x) := fun x => by unfold DT.Is; kernel_rfl
noncomputable def F34.fn (x : (Int × List UInt8 × List UInt8 × Int × Int × Int × List (Int)) × Unit) : Bool × Unit := (F34 x).fn
noncomputable def F34.pre (x : (Int × List UInt8 × List UInt8 × Int × Int × Int × List (Int)) × Unit) : Prop := (F34 x).pre
theorem F34ok : DataOk Try.prog 34 F34A F34B F34.pre F34.fn := data_of_tree F34A F34B F34 cfg43ok FnLoops.none F34is
noncomputable def F34C : Con Try.prog := conD 34 F34A F34B F34.pre F34.fn F34ok (by kernel_rfl)
noncomputable def cfgL44 : List (Con Try.prog) := F34C :: cfgL43
noncomputable def cfg44 : Cfg := cfgOf cfgL44
theorem cfg44ok : CfgOk Try.prog cfg44 := cfgOf_ok cfgnamed cfgmixed _
/-! 54 veneer/veneerref8.nul -/
def F54L0S : Shape := ⟨[(0, .v (.one .str)), (3, .v (.one (.int .i64)))], [], 0⟩
def F54L0S0 : Shape := ⟨[(2, .v (.one .bool))], [], 0⟩
def F54L0S1 : Shape := ⟨[], [], 0⟩
def F54L0X : List (Option Nat × Shape) := [(none, F54L0S0), (some 0, F54L0S1)]
noncomputable def F54L0 (x : List UInt8 × Int × Unit) : DT ((List UInt8 × Int × Unit) ⊕ ((Bool × Unit) ⊕ (Unit) ⊕ Empty)) :=
  .node [] (decide (x.2.1 < (Int.ofNat (List.length x.1))))
    (.node [0 ≤ x.2.1, x.2.1 < Int.ofNat (List.length x.1)] ((Int.ofNat (List.getD x.1 (Int.toNat x.2.1) 0).toNat) == (0 : Int))
      (.leaf [] (.inr (.inl (true, ()))))
      (.leaf [] (.inl (x.1, (wrp .i64 (x.2.1 + (1 : Int))), ()))))
    (.leaf [] (.inr (.inr (.inl ()))))
noncomputable def F54 (x : List UInt8 × Unit) : DT (Bool × Unit) :=
  let y0 := loopOut F54L0 (x.1, (0 : Int), ())
  .node [loopInv F54L0 (x.1, (0 : Int), ())] (isL y0)
    (let y1 : Bool × Unit := getL (Shape.z F54L0S0) y0
    .leaf [] (y1.1, ()))
    (let y1 : Unit := getL (Shape.z F54L0S1) (restR y0)
    .leaf [] (false, ()))
abbrev F54A : List AT := [.v (.one .str)]
abbrev F54B : List AT := [.v (.one .bool)]
noncomputable def F54R : List (Nat × Rule) := [(0, ruleOf F54L0S F54L0X F54L0)]
theorem F54L0is : ∀ x, DT.Is (runL Try.prog cfg44 1000 (lsOf F54R) 54 0 F54L0S F54L0X x) (F54L0 x) := fun x => by unfold DT.Is; kernel_rfl
theorem F54is : ∀ x, DT.Is (runF Try.prog cfg44 1000 (lsOf F54R) 54 F54A F54B x) (F54 x) := fun x => by unfold DT.Is; kernel_rfl
noncomputable def F54.fn (x : List UInt8 × Unit) : Bool × Unit := (F54 x).fn
noncomputable def F54.pre (x : List UInt8 × Unit) : Prop := (F54 x).pre
theorem F54ok : DataOk Try.prog 54 F54A F54B F54.pre F54.fn := data_of_tree F54A F54B F54 cfg44ok (.of_all cfg44ok (.cons (rule_of_tree F54L0S F54L0X F54L0 (F54L0is)) .nil)) F54is
noncomputable def F54C : Con Try.prog := conD 54 F54A F54B F54.pre F54.fn F54ok (by kernel_rfl)
noncomputable def cfgL45 : List (Con Try.prog) := F54C :: cfgL44
noncomputable def cfg45 : Cfg := cfgOf cfgL45
theorem cfg45ok : CfgOk Try.prog cfg45 := cfgOf_ok cfgnamed cfgmixed _
/-! 56 veneer/veneerref5.Node -/
def F56L0S : Shape := ⟨[(1, .v (.one (.row (.one .str)))), (2, .val (.ptr 0 0)), (4, .val (.ptr 1 0)), (6, .val (.ptr 2 0)), (8, .v (.one (.int .i64)))], [(0, 4, [.v (.one (.int .i64)), .v (.one (.int .i64)), .v (.one (.int .i64)), .v (.one (.row Nd))]), (1, 8, [.v (.one (.int .i64)), .v (.one (.int .i64)), .v (.one (.int .i64)), .v (.one (.int .i64)), .v (.one (.int .i64)), .val .nils, .v (.one .str), .val .nils]), (2, 8, [.v (.one (.int .i64)), .v (.one (.int .i64)), .v (.one (.int .i64)), .v (.one (.int .i64)), .v (.one (.int .i64)), .v (.one (.row Bk)), .v (.one .str), .v (.one (.row Nm))])], 3⟩
def F56L0S0 : Shape := ⟨[(4, .val (.ptr 1 0)), (5, .v (.one (.int .i64)))], [(1, 8, [.v (.one (.int .i64)), .v (.one (.int .i64)), .v (.one (.int .i64)), .v (.one (.int .i64)), .v (.one (.int .i64)), .val .nils, .v (.one .str), .val .nils])], 3⟩
def F56L0S1 : Shape := ⟨[(4, .val (.ptr 1 0)), (6, .val (.ptr 2 0))], [(1, 8, [.v (.one (.int .i64)), .v (.one (.int .i64)), .v (.one (.int .i64)), .v (.one (.int .i64)), .v (.one (.int .i64)), .val .nils, .v (.one .str), .val .nils]), (2, 8, [.v (.one (.int .i64)), .v (.one (.int .i64)), .v (.one (.int .i64)), .v (.one (.int .i64)), .v (.one (.int .i64)), .v (.one (.row Bk)), .v (.one .str), .v (.one (.row Nm))])], 3⟩
def F56L0X : List (Option Nat × Shape) := [(none, F56L0S0), (some 0, F56L0S1)]
noncomputable def F56L0 (x : List (List UInt8) × Unit × Unit × Unit × Int × Int × Int × Int × List Ndt × Int × Int × Int × Int × Int × Unit × List UInt8 × Unit × Int × Int × Int × Int × Int × List Bkt × List UInt8 × List Nmt × Unit) : DT ((List (List UInt8) × Unit × Unit × Unit × Int × Int × Int × Int × List Ndt × Int × Int × Int × Int × Int × Unit × List UInt8 × Unit × Int × Int × Int × Int × Int × List Bkt × List UInt8 × List Nmt × Unit) ⊕ ((Unit × Int × Int × Int × Int × Int × Int × Unit × List UInt8 × Unit × Unit) ⊕ (Unit × Unit × Int × Int × Int × Int × Int × Unit × List UInt8 × Unit × Int × Int × Int × Int × Int × List Bkt × List UInt8 × List Nmt × Unit) ⊕ Empty)) :=
  .node [] (decide (x.2.2.2.2.1 < (Int.ofNat (List.length x.1))))
    (.node [] (x.2.2.2.2.2.2.2.2.2.2.2.2.2.2.2.2.2.2.1 != (2 : Int))
      (.leaf [] (.inr (.inl ((), (4 : Int), (0 : Int), (0 : Int), (0 : Int), (0 : Int), (0 : Int), (), (dec 0 0 []), (), ()))))
      (let y0 := F50.fn ((x.2.2.2.2.2.2.2.2.2.2.2.2.2.2.2.2.2.1, (x.2.2.2.2.2.2.2.2.2.2.2.2.2.2.2.2.2.2.1, (x.2.2.2.2.2.2.2.2.2.2.2.2.2.2.2.2.2.2.2.1, (x.2.2.2.2.2.2.2.2.2.2.2.2.2.2.2.2.2.2.2.2.1, (x.2.2.2.2.2.2.2.2.2.2.2.2.2.2.2.2.2.2.2.2.2.1, (x.2.2.2.2.2.2.2.2.2.2.2.2.2.2.2.2.2.2.2.2.2.2.1, (x.2.2.2.2.2.2.2.2.2.2.2.2.2.2.2.2.2.2.2.2.2.2.2.1, x.2.2.2.2.2.2.2.2.2.2.2.2.2.2.2.2.2.2.2.2.2.2.2.2.1))))))), (@id (List UInt8) (xsAt (.one .str) x.1 (Int.toNat x.2.2.2.2.1))), ())
      .node [F50.pre ((x.2.2.2.2.2.2.2.2.2.2.2.2.2.2.2.2.2.1, (x.2.2.2.2.2.2.2.2.2.2.2.2.2.2.2.2.2.2.1, (x.2.2.2.2.2.2.2.2.2.2.2.2.2.2.2.2.2.2.2.1, (x.2.2.2.2.2.2.2.2.2.2.2.2.2.2.2.2.2.2.2.2.1, (x.2.2.2.2.2.2.2.2.2.2.2.2.2.2.2.2.2.2.2.2.2.1, (x.2.2.2.2.2.2.2.2.2.2.2.2.2.2.2.2.2.2.2.2.2.2.1, (x.2.2.2.2.2.2.2.2.2.2.2.2.2.2.2.2.2.2.2.2.2.2.2.1, x.2.2.2.2.2.2.2.2.2.2.2.2.2.2.2.2.2.2.2.2.2.2.2.2.1))))))), (@id (List UInt8) (xsAt (.one .str) x.1 (Int.toNat x.2.2.2.2.1))), ()), 0 ≤ x.2.2.2.2.1, x.2.2.2.2.1 < Int.ofNat (List.length x.1)] (!y0.2.1)
        (.leaf [] (.inr (.inl ((), (2 : Int), (0 : Int), (0 : Int), (0 : Int), (0 : Int), (0 : Int), (), (dec 0 0 []), (), ()))))
        (let y1 := F49.fn ((x.2.2.2.2.2.1, (x.2.2.2.2.2.2.1, (x.2.2.2.2.2.2.2.1, x.2.2.2.2.2.2.2.2.1))), y0.1, ())
        .leaf [F49.pre ((x.2.2.2.2.2.1, (x.2.2.2.2.2.2.1, (x.2.2.2.2.2.2.2.1, x.2.2.2.2.2.2.2.2.1))), y0.1, ())] (.inl (x.1, (), (), (), (wrp .i64 (x.2.2.2.2.1 + (1 : Int))), x.2.2.2.2.2.1, x.2.2.2.2.2.2.1, x.2.2.2.2.2.2.2.1, x.2.2.2.2.2.2.2.2.1, x.2.2.2.2.2.2.2.2.2.1, x.2.2.2.2.2.2.2.2.2.2.1, x.2.2.2.2.2.2.2.2.2.2.2.1, x.2.2.2.2.2.2.2.2.2.2.2.2.1, x.2.2.2.2.2.2.2.2.2.2.2.2.2.1, (), x.2.2.2.2.2.2.2.2.2.2.2.2.2.2.2.1, (), y1.1.1, y1.1.2.1, y1.1.2.2.1, y1.1.2.2.2.1, y1.1.2.2.2.2.1, y1.1.2.2.2.2.2.1, y1.1.2.2.2.2.2.2.1, y1.1.2.2.2.2.2.2.2, ())))))
    (.leaf [] (.inr (.inr (.inl ((), (), x.2.2.2.2.2.2.2.2.2.1, x.2.2.2.2.2.2.2.2.2.2.1, x.2.2.2.2.2.2.2.2.2.2.2.1, x.2.2.2.2.2.2.2.2.2.2.2.2.1, x.2.2.2.2.2.2.2.2.2.2.2.2.2.1, (), x.2.2.2.2.2.2.2.2.2.2.2.2.2.2.2.1, (), x.2.2.2.2.2.2.2.2.2.2.2.2.2.2.2.2.2.1, x.2.2.2.2.2.2.2.2.2.2.2.2.2.2.2.2.2.2.1, x.2.2.2.2.2.2.2.2.2.2.2.2.2.2.2.2.2.2.2.1, x.2.2.2.2.2.2.2.2.2.2.2.2.2.2.2.2.2.2.2.2.1, x.2.2.2.2.2.2.2.2.2.2.2.2.2.2.2.2.2.2.2.2.2.1, x.2.2.2.2.2.2.2.2.2.2.2.2.2.2.2.2.2.2.2.2.2.2.1, x.2.2.2.2.2.2.2.2.2.2.2.2.2.2.2.2.2.2.2.2.2.2.2.1, x.2.2.2.2.2.2.2.2.2.2.2.2.2.2.2.2.2.2.2.2.2.2.2.2.1, ())))))
noncomputable def F56 (x : Dkt × List (List UInt8) × Unit) : DT (Ndt × Int × Unit) :=
  let y0 := F49.fn (x.1, (1 : Int), ())
  let y1 := loopOut F56L0 (x.2.1, (), (), (), (0 : Int), x.1.1, x.1.2.1, x.1.2.2.1, x.1.2.2.2, (0 : Int), (0 : Int), (0 : Int), (0 : Int), (0 : Int), (), (dec 0 0 []), (), y0.1.1, y0.1.2.1, y0.1.2.2.1, y0.1.2.2.2.1, y0.1.2.2.2.2.1, y0.1.2.2.2.2.2.1, y0.1.2.2.2.2.2.2.1, y0.1.2.2.2.2.2.2.2, ())
  .node [loopInv F56L0 (x.2.1, (), (), (), (0 : Int), x.1.1, x.1.2.1, x.1.2.2.1, x.1.2.2.2, (0 : Int), (0 : Int), (0 : Int), (0 : Int), (0 : Int), (), (dec 0 0 []), (), y0.1.1, y0.1.2.1, y0.1.2.2.1, y0.1.2.2.2.1, y0.1.2.2.2.2.1, y0.1.2.2.2.2.2.1, y0.1.2.2.2.2.2.2.1, y0.1.2.2.2.2.2.2.2, ()), F49.pre (x.1, (1 : Int), ())] (isL y1)
    (let y2 : Unit × Int × Int × Int × Int × Int × Int × Unit × List UInt8 × Unit × Unit := getL (Shape.z F56L0S0) y1
    .leaf [] ((y2.2.2.1, (y2.2.2.2.1, (y2.2.2.2.2.1, (y2.2.2.2.2.2.1, (y2.2.2.2.2.2.2.1, ([], (y2.2.2.2.2.2.2.2.2.1, []))))))), y2.2.1, ()))
    (let y2 : Unit × Unit × Int × Int × Int × Int × Int × Unit × List UInt8 × Unit × Int × Int × Int × Int × Int × List Bkt × List UInt8 × List Nmt × Unit := getL (Shape.z F56L0S1) (restR y1)
    .leaf [] ((y2.2.2.2.2.2.2.2.2.2.2.1, (y2.2.2.2.2.2.2.2.2.2.2.2.1, (y2.2.2.2.2.2.2.2.2.2.2.2.2.1, (y2.2.2.2.2.2.2.2.2.2.2.2.2.2.1, (y2.2.2.2.2.2.2.2.2.2.2.2.2.2.2.1, (y2.2.2.2.2.2.2.2.2.2.2.2.2.2.2.2.1, (y2.2.2.2.2.2.2.2.2.2.2.2.2.2.2.2.2.1, y2.2.2.2.2.2.2.2.2.2.2.2.2.2.2.2.2.2.1))))))), (0 : Int), ()))
abbrev F56A : List AT := [.v (.agg Dk), .v (.one (.row (.one .str)))]
abbrev F56B : List AT := [.v (.agg Nd), .v (.one (.int .i64))]
noncomputable def F56R : List (Nat × Rule) := [(0, ruleOf F56L0S F56L0X F56L0)]
theorem F56L0is : ∀ x, DT.Is (runL Try.prog cfg45 1000 (lsOf F56R) 56 0 F56L0S F56L0X x) (F56L0 x) := fun x => by unfold DT.Is; kernel_rfl
theorem F56is : ∀ x, DT.Is (runF Try.prog cfg45 1000 (lsOf F56R) 56 F56A F56B x) (F56 x) := fun x => by unfold DT.Is; kernel_rfl
noncomputable def F56.fn (x : Dkt × List (List UInt8) × Unit) : Ndt × Int × Unit := (F56 x).fn
noncomputable def F56.pre (x : Dkt × List (List UInt8) × Unit) : Prop := (F56 x).pre
theorem F56ok : DataOk Try.prog 56 F56A F56B F56.pre F56.fn := data_of_tree F56A F56B F56 cfg45ok (.of_all cfg45ok (.cons (rule_of_tree F56L0S F56L0X F56L0 (F56L0is)) .nil)) F56is
noncomputable def F56C : Con Try.prog := conD 56 F56A F56B F56.pre F56.fn F56ok (by kernel_rfl)
noncomputable def cfgL46 : List (Con Try.prog) := F56C :: cfgL45
noncomputable def cfg46 : Cfg := cfgOf cfgL46
theorem cfg46ok : CfgOk Try.prog cfg46 := cfgOf_ok cfgnamed cfgmixed _
/-! 55 veneer/veneerref5.Up -/
noncomputable def F55 (x : Dkt × List (List UInt8) × Unit) : DT (Ndt × List UInt8 × Int × Unit) :=
  let y0 := F56.fn (x.1, (List.take (Int.toNat (wrp .i64 ((Int.ofNat (List.length x.2.1)) - (1 : Int)))) x.2.1), ())
  .node [F56.pre (x.1, (List.take (Int.toNat (wrp .i64 ((Int.ofNat (List.length x.2.1)) - (1 : Int)))) x.2.1), ()), 0 ≤ (wrp .i64 ((Int.ofNat (List.length x.2.1)) - (1 : Int))), (wrp .i64 ((Int.ofNat (List.length x.2.1)) - (1 : Int))) ≤ Int.ofNat (List.length x.2.1)] (y0.2.1 != (0 : Int))
    (.leaf [] (((0 : Int), ((0 : Int), ((0 : Int), ((0 : Int), ((0 : Int), ([], ((dec 0 0 []), []))))))), (dec 0 0 []), y0.2.1, ()))
    (.node [] (y0.1.2.1 != (2 : Int))
      (.leaf [] (((0 : Int), ((0 : Int), ((0 : Int), ((0 : Int), ((0 : Int), ([], ((dec 0 0 []), []))))))), (dec 0 0 []), (4 : Int), ()))
      (.leaf [(let r : List AV := [.x (.s (@id (List UInt8) (xsAt (.one .str) x.2.1 (Int.toNat (wrp .i64 ((Int.ofNat (List.length x.2.1)) - (1 : Int)))))))]; r = r), 0 ≤ (wrp .i64 ((Int.ofNat (List.length x.2.1)) - (1 : Int))), (wrp .i64 ((Int.ofNat (List.length x.2.1)) - (1 : Int))) < Int.ofNat (List.length x.2.1)] (y0.1, (@id (List UInt8) (xsAt (.one .str) x.2.1 (Int.toNat (wrp .i64 ((Int.ofNat (List.length x.2.1)) - (1 : Int)))))), (0 : Int), ())))
abbrev F55A : List AT := [.v (.agg Dk), .v (.one (.row (.one .str)))]
abbrev F55B : List AT := [.v (.agg Nd), .v (.one .str), .v (.one (.int .i64))]
theorem F55is : ∀ x, DT.Is (runF Try.prog cfg46 1000 noL 55 F55A F55B x) (F55 x) := fun x => by unfold DT.Is; kernel_rfl
noncomputable def F55.fn (x : Dkt × List (List UInt8) × Unit) : Ndt × List UInt8 × Int × Unit := (F55 x).fn
noncomputable def F55.pre (x : Dkt × List (List UInt8) × Unit) : Prop := (F55 x).pre
theorem F55ok : DataOk Try.prog 55 F55A F55B F55.pre F55.fn := data_of_tree F55A F55B F55 cfg46ok FnLoops.none F55is
noncomputable def F55C : Con Try.prog := conD 55 F55A F55B F55.pre F55.fn F55ok (by kernel_rfl)
noncomputable def cfgL47 : List (Con Try.prog) := F55C :: cfgL46
noncomputable def cfg47 : Cfg := cfgOf cfgL47
theorem cfg47ok : CfgOk Try.prog cfg47 := cfgOf_ok cfgnamed cfgmixed _
/-! 35 veneer/veneerref8.fresh -/
noncomputable def F35 (x : Dkt × (Int × List UInt8 × List UInt8 × Int × Int × Int × List (Int)) × List (List UInt8) × Unit) : DT (Dkt × Int × Unit) :=
  .node [] ((bif x.2.1.1 == (1 : Int) then (1 : Int) else (bif x.2.1.1 == (2 : Int) then (2 : Int) else (bif x.2.1.1 == (13 : Int) then (3 : Int) else (0 : Int)))) == (3 : Int))
    (.node [] (decide (x.2.1.2.2.2.1 < (0 : Int)))
      (.leaf [] (x.1, (1 : Int), ()))
      (.node [] (decide (x.2.1.2.2.2.1 > (511 : Int)))
        (.leaf [] (x.1, (1 : Int), ()))
        (.req [] ((bif x.2.1.1 == (1 : Int) then (1 : Int) else (bif x.2.1.1 == (2 : Int) then (2 : Int) else (bif x.2.1.1 == (13 : Int) then (3 : Int) else (0 : Int)))) == (3 : Int)) true
          (.node [] (x.2.1.2.2.1 == (dec 0 0 []))
            (.leaf [] (x.1, (1 : Int), ()))
            (.node [] (decide ((Int.ofNat (List.length x.2.1.2.2.1)) > (120 : Int)))
              (.leaf [] (x.1, (1 : Int), ()))
              (let y0 := F54.fn (x.2.1.2.2.1, ())
              .node [F54.pre (x.2.1.2.2.1, ())] y0.1
                (.leaf [] (x.1, (1 : Int), ()))
                (.node [] ((Int.ofNat (List.length x.2.2.1)) == (0 : Int))
                  (.leaf [] (x.1, (3 : Int), ()))
                  (let y1 := F55.fn (x.1, x.2.2.1, ())
                  .node [F55.pre (x.1, x.2.2.1, ())] (y1.2.2.1 != (0 : Int))
                    (.leaf [] (x.1, y1.2.2.1, ()))
                    (let y2 := F15.fn (x.1, y1.1.1, y1.2.1, ((0 : Int), ((bif x.2.1.1 == (1 : Int) then (1 : Int) else (bif x.2.1.1 == (2 : Int) then (2 : Int) else (bif x.2.1.1 == (13 : Int) then (3 : Int) else (0 : Int)))), (x.2.1.2.2.2.1, ((0 : Int), ((0 : Int), ([], (x.2.1.2.2.1, []))))))), ())
                    .leaf [F15.pre (x.1, y1.1.1, y1.2.1, ((0 : Int), ((bif x.2.1.1 == (1 : Int) then (1 : Int) else (bif x.2.1.1 == (2 : Int) then (2 : Int) else (bif x.2.1.1 == (13 : Int) then (3 : Int) else (0 : Int)))), (x.2.1.2.2.2.1, ((0 : Int), ((0 : Int), ([], (x.2.1.2.2.1, []))))))), ())] (y2.1, y2.2.2.1, ()))))))))))
    (.node [] (decide (x.2.1.2.2.2.1 < (0 : Int)))
      (.leaf [] (x.1, (1 : Int), ()))
      (.node [] (decide (x.2.1.2.2.2.1 > (511 : Int)))
        (.leaf [] (x.1, (1 : Int), ()))
        (.req [] ((bif x.2.1.1 == (1 : Int) then (1 : Int) else (bif x.2.1.1 == (2 : Int) then (2 : Int) else (bif x.2.1.1 == (13 : Int) then (3 : Int) else (0 : Int)))) == (3 : Int)) false
          (.node [] ((Int.ofNat (List.length x.2.2.1)) == (0 : Int))
            (.leaf [] (x.1, (3 : Int), ()))
            (let y0 := F55.fn (x.1, x.2.2.1, ())
            .node [F55.pre (x.1, x.2.2.1, ())] (y0.2.2.1 != (0 : Int))
              (.leaf [] (x.1, y0.2.2.1, ()))
              (let y1 := F15.fn (x.1, y0.1.1, y0.2.1, ((0 : Int), ((bif x.2.1.1 == (1 : Int) then (1 : Int) else (bif x.2.1.1 == (2 : Int) then (2 : Int) else (bif x.2.1.1 == (13 : Int) then (3 : Int) else (0 : Int)))), (x.2.1.2.2.2.1, ((0 : Int), ((0 : Int), ([], ((dec 0 0 []), []))))))), ())
              .leaf [F15.pre (x.1, y0.1.1, y0.2.1, ((0 : Int), ((bif x.2.1.1 == (1 : Int) then (1 : Int) else (bif x.2.1.1 == (2 : Int) then (2 : Int) else (bif x.2.1.1 == (13 : Int) then (3 : Int) else (0 : Int)))), (x.2.1.2.2.2.1, ((0 : Int), ((0 : Int), ([], ((dec 0 0 []), []))))))), ())] (y1.1, y1.2.2.1, ())))))))
abbrev F35A : List AT := [.v (.agg Dk), .v (.agg (.cons (.int .i64) (.cons .str (.cons .str (.cons (.int .i64) (.cons (.int .i64) Bk)))))), .v (.one (.row (.one .str)))]
abbrev F35B : List AT := [.v (.agg Dk), .v (.one (.int .i64))]
theorem F35is : ∀ x, DT.Is (runF Try.prog cfg47 1000 noL 35 F35A F35B x) (F35 x) := fun x => by unfold DT.Is; kernel_rfl
noncomputable def F35.fn (x : Dkt × (Int × List UInt8 × List UInt8 × Int × Int × Int × List (Int)) × List (List UInt8) × Unit) : Dkt × Int × Unit := (F35 x).fn
noncomputable def F35.pre (x : Dkt × (Int × List UInt8 × List UInt8 × Int × Int × Int × List (Int)) × List (List UInt8) × Unit) : Prop := (F35 x).pre
theorem F35ok : DataOk Try.prog 35 F35A F35B F35.pre F35.fn := data_of_tree F35A F35B F35 cfg47ok FnLoops.none F35is
noncomputable def F35C : Con Try.prog := conD 35 F35A F35B F35.pre F35.fn F35ok (by kernel_rfl)
noncomputable def cfgL48 : List (Con Try.prog) := F35C :: cfgL47
noncomputable def cfg48 : Cfg := cfgOf cfgL48
theorem cfg48ok : CfgOk Try.prog cfg48 := cfgOf_ok cfgnamed cfgmixed _
/-! 84 veneer/veneerref6.without -/
noncomputable def F84 (x : Dkt × Int × List UInt8 × Unit) : DT (Dkt × Unit) :=
  let y0 := F49.fn (x.1, x.2.1, ())
  let y1 := F83.fn (y0.1, x.2.2.1, ())
  let y2 := F30.fn (x.1, y1.1, ())
  .leaf [F30.pre (x.1, y1.1, ()), F83.pre (y0.1, x.2.2.1, ()), (let r : List AV := [.agg [.x (.i .i64 x.1.1), .x (.i .i64 x.1.2.1), .x (.i .i64 x.1.2.2.1), .x (.row Nd x.1.2.2.2)]]; r = r), F49.pre (x.1, x.2.1, ())] (y2.1, ())
abbrev F84A : List AT := [.v (.agg Dk), .v (.one (.int .i64)), .v (.one .str)]
abbrev F84B : List AT := [.v (.agg Dk)]
theorem F84is : ∀ x, DT.Is (runF Try.prog cfg48 1000 noL 84 F84A F84B x) (F84 x) := fun x => by unfold DT.Is; kernel_rfl
noncomputable def F84.fn (x : Dkt × Int × List UInt8 × Unit) : Dkt × Unit := (F84 x).fn
noncomputable def F84.pre (x : Dkt × Int × List UInt8 × Unit) : Prop := (F84 x).pre
theorem F84ok : DataOk Try.prog 84 F84A F84B F84.pre F84.fn := data_of_tree F84A F84B F84 cfg48ok FnLoops.none F84is
noncomputable def F84C : Con Try.prog := conD 84 F84A F84B F84.pre F84.fn F84ok (by kernel_rfl)
noncomputable def cfgL49 : List (Con Try.prog) := F84C :: cfgL48
noncomputable def cfg49 : Cfg := cfgOf cfgL49
theorem cfg49ok : CfgOk Try.prog cfg49 := cfgOf_ok cfgnamed cfgmixed _
/-! 57 veneer/veneerref6.Drop -/
noncomputable def F57 (x : Dkt × Int × List UInt8 × Unit) : DT (Dkt × Int × Unit) :=
  let y0 := F28.fn (x.1, x.2.1, x.2.2.1, ())
  .node [F28.pre (x.1, x.2.1, x.2.2.1, ())] (!y0.2.1)
    (.leaf [] (x.1, (2 : Int), ()))
    (let y1 := F84.fn (x.1, x.2.1, x.2.2.1, ())
    let y2 := F49.fn (y1.1, y0.1, ())
    .node [F49.pre (y1.1, y0.1, ()), F84.pre (x.1, x.2.1, x.2.2.1, ())] (decide ((wrp .i64 (y2.1.2.2.2.1 - (1 : Int))) < (1 : Int)))
      (let y3 := F51.fn (y1.1, y0.1, ())
      .leaf [F51.pre (y1.1, y0.1, ())] (y3.1, (0 : Int), ()))
      (let y3 := F30.fn (y1.1, (y2.1.1, (y2.1.2.1, (y2.1.2.2.1, ((wrp .i64 (y2.1.2.2.2.1 - (1 : Int))), y2.1.2.2.2.2)))), ())
      .leaf [F30.pre (y1.1, (y2.1.1, (y2.1.2.1, (y2.1.2.2.1, ((wrp .i64 (y2.1.2.2.2.1 - (1 : Int))), y2.1.2.2.2.2)))), ())] (y3.1, (0 : Int), ())))
abbrev F57A : List AT := [.v (.agg Dk), .v (.one (.int .i64)), .v (.one .str)]
abbrev F57B : List AT := [.v (.agg Dk), .v (.one (.int .i64))]
theorem F57is : ∀ x, DT.Is (runF Try.prog cfg49 1000 noL 57 F57A F57B x) (F57 x) := fun x => by unfold DT.Is; kernel_rfl
noncomputable def F57.fn (x : Dkt × Int × List UInt8 × Unit) : Dkt × Int × Unit := (F57 x).fn
noncomputable def F57.pre (x : Dkt × Int × List UInt8 × Unit) : Prop := (F57 x).pre
theorem F57ok : DataOk Try.prog 57 F57A F57B F57.pre F57.fn := data_of_tree F57A F57B F57 cfg49ok FnLoops.none F57is
noncomputable def F57C : Con Try.prog := conD 57 F57A F57B F57.pre F57.fn F57ok (by kernel_rfl)
noncomputable def cfgL50 : List (Con Try.prog) := F57C :: cfgL49
noncomputable def cfg50 : Cfg := cfgOf cfgL50
theorem cfg50ok : CfgOk Try.prog cfg50 := cfgOf_ok cfgnamed cfgmixed _
/-! 36 veneer/veneerref8.gone -/
noncomputable def F36 (x : Dkt × (Int × List UInt8 × List UInt8 × Int × Int × Int × List (Int)) × List (List UInt8) × Unit) : DT (Dkt × Int × Unit) :=
  .node [] ((Int.ofNat (List.length x.2.2.1)) == (0 : Int))
    (.node [] (x.2.1.1 == (4 : Int))
      (.leaf [] (x.1, (5 : Int), ()))
      (.req [] ((Int.ofNat (List.length x.2.2.1)) == (0 : Int)) true
        (.leaf [] (x.1, (1 : Int), ()))))
    (let y0 := F55.fn (x.1, x.2.2.1, ())
    .req [] ((Int.ofNat (List.length x.2.2.1)) == (0 : Int)) false
      (.node [F55.pre (x.1, x.2.2.1, ())] (y0.2.2.1 != (0 : Int))
        (.leaf [] (x.1, y0.2.2.1, ()))
        (let y1 := F56.fn (x.1, x.2.2.1, ())
        .node [F56.pre (x.1, x.2.2.1, ())] (y1.2.1 != (0 : Int))
          (.leaf [] (x.1, y1.2.1, ()))
          (.node [] (x.2.1.1 == (4 : Int))
            (.node [] (y1.1.2.1 == (2 : Int))
              (.leaf [] (x.1, (5 : Int), ()))
              (.node [] (x.2.1.1 == (5 : Int))
                (.node [] (y1.1.2.1 != (2 : Int))
                  (.leaf [] (x.1, (4 : Int), ()))
                  (.node [] (decide ((Int.ofNat (List.length y1.1.2.2.2.2.2.2.2)) > (0 : Int)))
                    (.leaf [] (x.1, (6 : Int), ()))
                    (let y2 := F57.fn (x.1, y0.1.1, y0.2.1, ())
                    .leaf [F57.pre (x.1, y0.1.1, y0.2.1, ())] (y2.1, y2.2.1, ()))))
                (.node [] (decide ((Int.ofNat (List.length y1.1.2.2.2.2.2.2.2)) > (0 : Int)))
                  (.leaf [] (x.1, (6 : Int), ()))
                  (let y2 := F57.fn (x.1, y0.1.1, y0.2.1, ())
                  .leaf [F57.pre (x.1, y0.1.1, y0.2.1, ())] (y2.1, y2.2.1, ())))))
            (.node [] (x.2.1.1 == (5 : Int))
              (.node [] (y1.1.2.1 != (2 : Int))
                (.leaf [] (x.1, (4 : Int), ()))
                (.node [] (decide ((Int.ofNat (List.length y1.1.2.2.2.2.2.2.2)) > (0 : Int)))
                  (.leaf [] (x.1, (6 : Int), ()))
                  (let y2 := F57.fn (x.1, y0.1.1, y0.2.1, ())
                  .leaf [F57.pre (x.1, y0.1.1, y0.2.1, ())] (y2.1, y2.2.1, ()))))
              (.node [] (decide ((Int.ofNat (List.length y1.1.2.2.2.2.2.2.2)) > (0 : Int)))
                (.leaf [] (x.1, (6 : Int), ()))
                (let y2 := F57.fn (x.1, y0.1.1, y0.2.1, ())
                .leaf [F57.pre (x.1, y0.1.1, y0.2.1, ())] (y2.1, y2.2.1, ()))))))))
abbrev F36A : List AT := [.v (.agg Dk), .v (.agg (.cons (.int .i64) (.cons .str (.cons .str (.cons (.int .i64) (.cons (.int .i64) Bk)))))), .v (.one (.row (.one .str)))]
abbrev F36B : List AT := [.v (.agg Dk), .v (.one (.int .i64))]
theorem F36is : ∀ x, DT.Is (runF Try.prog cfg50 1000 noL 36 F36A F36B x) (F36 x) := fun x => by unfold DT.Is; kernel_rfl
noncomputable def F36.fn (x : Dkt × (Int × List UInt8 × List UInt8 × Int × Int × Int × List (Int)) × List (List UInt8) × Unit) : Dkt × Int × Unit := (F36 x).fn
noncomputable def F36.pre (x : Dkt × (Int × List UInt8 × List UInt8 × Int × Int × Int × List (Int)) × List (List UInt8) × Unit) : Prop := (F36 x).pre
theorem F36ok : DataOk Try.prog 36 F36A F36B F36.pre F36.fn := data_of_tree F36A F36B F36 cfg50ok FnLoops.none F36is
noncomputable def F36C : Con Try.prog := conD 36 F36A F36B F36.pre F36.fn F36ok (by kernel_rfl)
noncomputable def cfgL51 : List (Con Try.prog) := F36C :: cfgL50
noncomputable def cfg51 : Cfg := cfgOf cfgL51
theorem cfg51ok : CfgOk Try.prog cfg51 := cfgOf_ok cfgnamed cfgmixed _
/-! 58 veneer/veneerref6.Link -/
noncomputable def F58 (x : Dkt × Int × List UInt8 × Int × Unit) : DT (Dkt × Int × Unit) :=
  let y0 := F28.fn (x.1, x.2.1, x.2.2.1, ())
  .node [F28.pre (x.1, x.2.1, x.2.2.1, ())] y0.2.1
    (.leaf [] (x.1, (3 : Int), ()))
    (let y1 := F49.fn (x.1, x.2.2.2.1, ())
    let y2 := F30.fn (x.1, (y1.1.1, (y1.1.2.1, (y1.1.2.2.1, ((wrp .i64 (y1.1.2.2.2.1 + (1 : Int))), y1.1.2.2.2.2)))), ())
    let y3 := F31.fn (y2.1, x.2.1, x.2.2.1, x.2.2.2.1, ())
    .leaf [F31.pre (y2.1, x.2.1, x.2.2.1, x.2.2.2.1, ()), F30.pre (x.1, (y1.1.1, (y1.1.2.1, (y1.1.2.2.1, ((wrp .i64 (y1.1.2.2.2.1 + (1 : Int))), y1.1.2.2.2.2)))), ()), F49.pre (x.1, x.2.2.2.1, ())] (y3.1, (0 : Int), ()))
abbrev F58A : List AT := [.v (.agg Dk), .v (.one (.int .i64)), .v (.one .str), .v (.one (.int .i64))]
abbrev F58B : List AT := [.v (.agg Dk), .v (.one (.int .i64))]
theorem F58is : ∀ x, DT.Is (runF Try.prog cfg51 1000 noL 58 F58A F58B x) (F58 x) := fun x => by unfold DT.Is; kernel_rfl
noncomputable def F58.fn (x : Dkt × Int × List UInt8 × Int × Unit) : Dkt × Int × Unit := (F58 x).fn
noncomputable def F58.pre (x : Dkt × Int × List UInt8 × Int × Unit) : Prop := (F58 x).pre
theorem F58ok : DataOk Try.prog 58 F58A F58B F58.pre F58.fn := data_of_tree F58A F58B F58 cfg51ok FnLoops.none F58is
noncomputable def F58C : Con Try.prog := conD 58 F58A F58B F58.pre F58.fn F58ok (by kernel_rfl)
noncomputable def cfgL52 : List (Con Try.prog) := F58C :: cfgL51
noncomputable def cfg52 : Cfg := cfgOf cfgL52
theorem cfg52ok : CfgOk Try.prog cfg52 := cfgOf_ok cfgnamed cfgmixed _
/-! 37 veneer/veneerref8.linked -/
noncomputable def F37 (x : Dkt × List (List UInt8) × List (List UInt8) × Unit) : DT (Dkt × Int × Unit) :=
  let y0 := F56.fn (x.1, x.2.1, ())
  .node [F56.pre (x.1, x.2.1, ())] (y0.2.1 != (0 : Int))
    (.leaf [] (x.1, y0.2.1, ()))
    (.node [] (y0.1.2.1 == (2 : Int))
      (.leaf [] (x.1, (7 : Int), ()))
      (.node [] ((Int.ofNat (List.length x.2.2.1)) == (0 : Int))
        (.leaf [] (x.1, (3 : Int), ()))
        (let y1 := F55.fn (x.1, x.2.2.1, ())
        .node [F55.pre (x.1, x.2.2.1, ())] (y1.2.2.1 != (0 : Int))
          (.leaf [] (x.1, y1.2.2.1, ()))
          (let y2 := F58.fn (x.1, y1.1.1, y1.2.1, y0.1.1, ())
          .leaf [F58.pre (x.1, y1.1.1, y1.2.1, y0.1.1, ())] (y2.1, y2.2.1, ())))))
abbrev F37A : List AT := [.v (.agg Dk), .v (.one (.row (.one .str))), .v (.one (.row (.one .str)))]
abbrev F37B : List AT := [.v (.agg Dk), .v (.one (.int .i64))]
theorem F37is : ∀ x, DT.Is (runF Try.prog cfg52 1000 noL 37 F37A F37B x) (F37 x) := fun x => by unfold DT.Is; kernel_rfl
noncomputable def F37.fn (x : Dkt × List (List UInt8) × List (List UInt8) × Unit) : Dkt × Int × Unit := (F37 x).fn
noncomputable def F37.pre (x : Dkt × List (List UInt8) × List (List UInt8) × Unit) : Prop := (F37 x).pre
theorem F37ok : DataOk Try.prog 37 F37A F37B F37.pre F37.fn := data_of_tree F37A F37B F37 cfg52ok FnLoops.none F37is
noncomputable def F37C : Con Try.prog := conD 37 F37A F37B F37.pre F37.fn F37ok (by kernel_rfl)
noncomputable def cfgL53 : List (Con Try.prog) := F37C :: cfgL52
noncomputable def cfg53 : Cfg := cfgOf cfgL53
theorem cfg53ok : CfgOk Try.prog cfg53 := cfgOf_ok cfgnamed cfgmixed _
/-! 12 veneer/veneerref1.Same -/
def F12L0S : Shape := ⟨[(0, .v (.one (.row (.one .str)))), (1, .v (.one (.row (.one .str)))), (5, .v (.one (.int .i64)))], [], 0⟩
def F12L0S0 : Shape := ⟨[(4, .v (.one .bool))], [], 0⟩
def F12L0S1 : Shape := ⟨[], [], 0⟩
def F12L0X : List (Option Nat × Shape) := [(none, F12L0S0), (some 0, F12L0S1)]
noncomputable def F12L0 (x : List (List UInt8) × List (List UInt8) × Int × Unit) : DT ((List (List UInt8) × List (List UInt8) × Int × Unit) ⊕ ((Bool × Unit) ⊕ (Unit) ⊕ Empty)) :=
  .node [] (decide (x.2.2.1 < (Int.ofNat (List.length x.1))))
    (.node [0 ≤ x.2.2.1, x.2.2.1 < Int.ofNat (List.length x.2.1), 0 ≤ x.2.2.1, x.2.2.1 < Int.ofNat (List.length x.1)] (!((@id (List UInt8) (xsAt (.one .str) x.1 (Int.toNat x.2.2.1))) == (@id (List UInt8) (xsAt (.one .str) x.2.1 (Int.toNat x.2.2.1)))))
      (.leaf [] (.inr (.inl (false, ()))))
      (.leaf [] (.inl (x.1, x.2.1, (wrp .i64 (x.2.2.1 + (1 : Int))), ()))))
    (.leaf [] (.inr (.inr (.inl ()))))
noncomputable def F12 (x : List (List UInt8) × List (List UInt8) × Unit) : DT (Bool × Unit) :=
  .node [] ((Int.ofNat (List.length x.1)) != (Int.ofNat (List.length x.2.1)))
    (.leaf [] (false, ()))
    (let y0 := loopOut F12L0 (x.1, x.2.1, (0 : Int), ())
    .node [loopInv F12L0 (x.1, x.2.1, (0 : Int), ())] (isL y0)
      (let y1 : Bool × Unit := getL (Shape.z F12L0S0) y0
      .leaf [] (y1.1, ()))
      (let y1 : Unit := getL (Shape.z F12L0S1) (restR y0)
      .leaf [] (true, ())))
abbrev F12A : List AT := [.v (.one (.row (.one .str))), .v (.one (.row (.one .str)))]
abbrev F12B : List AT := [.v (.one .bool)]
noncomputable def F12R : List (Nat × Rule) := [(0, ruleOf F12L0S F12L0X F12L0)]
theorem F12L0is : ∀ x, DT.Is (runL Try.prog cfg53 1000 (lsOf F12R) 12 0 F12L0S F12L0X x) (F12L0 x) := fun x => by unfold DT.Is; kernel_rfl
theorem F12is : ∀ x, DT.Is (runF Try.prog cfg53 1000 (lsOf F12R) 12 F12A F12B x) (F12 x) := fun x => by unfold DT.Is; kernel_rfl
noncomputable def F12.fn (x : List (List UInt8) × List (List UInt8) × Unit) : Bool × Unit := (F12 x).fn
noncomputable def F12.pre (x : List (List UInt8) × List (List UInt8) × Unit) : Prop := (F12 x).pre
theorem F12ok : DataOk Try.prog 12 F12A F12B F12.pre F12.fn := data_of_tree F12A F12B F12 cfg53ok (.of_all cfg53ok (.cons (rule_of_tree F12L0S F12L0X F12L0 (F12L0is)) .nil)) F12is
noncomputable def F12C : Con Try.prog := conD 12 F12A F12B F12.pre F12.fn F12ok (by kernel_rfl)
noncomputable def cfgL54 : List (Con Try.prog) := F12C :: cfgL53
noncomputable def cfg54 : Cfg := cfgOf cfgL54
theorem cfg54ok : CfgOk Try.prog cfg54 := cfgOf_ok cfgnamed cfgmixed _
/-! 59 veneer/veneerref1.Under -/
noncomputable def F59 (x : List (List UInt8) × List (List UInt8) × Unit) : DT (Bool × Unit) :=
  .node [] (decide ((Int.ofNat (List.length x.1)) > (Int.ofNat (List.length x.2.1))))
    (let y0 := F12.fn ((List.take (Int.toNat (Int.ofNat (List.length x.2.1))) x.1), x.2.1, ())
    .leaf [F12.pre ((List.take (Int.toNat (Int.ofNat (List.length x.2.1))) x.1), x.2.1, ()), 0 ≤ (Int.ofNat (List.length x.2.1)), (Int.ofNat (List.length x.2.1)) ≤ Int.ofNat (List.length x.1)] (y0.1, ()))
    (.leaf [] (false, ()))
abbrev F59A : List AT := [.v (.one (.row (.one .str))), .v (.one (.row (.one .str)))]
abbrev F59B : List AT := [.v (.one .bool)]
theorem F59is : ∀ x, DT.Is (runF Try.prog cfg54 1000 noL 59 F59A F59B x) (F59 x) := fun x => by unfold DT.Is; kernel_rfl
noncomputable def F59.fn (x : List (List UInt8) × List (List UInt8) × Unit) : Bool × Unit := (F59 x).fn
noncomputable def F59.pre (x : List (List UInt8) × List (List UInt8) × Unit) : Prop := (F59 x).pre
theorem F59ok : DataOk Try.prog 59 F59A F59B F59.pre F59.fn := data_of_tree F59A F59B F59 cfg54ok FnLoops.none F59is
noncomputable def F59C : Con Try.prog := conD 59 F59A F59B F59.pre F59.fn F59ok (by kernel_rfl)
noncomputable def cfgL55 : List (Con Try.prog) := F59C :: cfgL54
noncomputable def cfg55 : Cfg := cfgOf cfgL55
theorem cfg55ok : CfgOk Try.prog cfg55 := cfgOf_ok cfgnamed cfgmixed _
/-! 60 veneer/veneerref8.over -/
noncomputable def F60 (x : Ndt × Ndt × Unit) : DT (Int × Unit) :=
  .node [] (x.1.2.1 == (2 : Int))
    (.node [] (x.2.1.2.1 != (2 : Int))
      (.leaf [] ((4 : Int), ()))
      (.req [] (x.1.2.1 == (2 : Int)) true
        (.node [] (decide ((Int.ofNat (List.length x.2.1.2.2.2.2.2.2.2)) > (0 : Int)))
          (.leaf [] ((6 : Int), ()))
          (.node [] (x.1.2.1 != (2 : Int))
            (.node [] (x.2.1.2.1 == (2 : Int))
              (.leaf [] ((5 : Int), ()))
              (.leaf [] ((0 : Int), ())))
            (.leaf [] ((0 : Int), ()))))))
    (.req [] (x.1.2.1 == (2 : Int)) false
      (.node [] (x.1.2.1 != (2 : Int))
        (.node [] (x.2.1.2.1 == (2 : Int))
          (.leaf [] ((5 : Int), ()))
          (.leaf [] ((0 : Int), ())))
        (.leaf [] ((0 : Int), ()))))
abbrev F60A : List AT := [.v (.agg Nd), .v (.agg Nd)]
abbrev F60B : List AT := [.v (.one (.int .i64))]
theorem F60is : ∀ x, DT.Is (runF Try.prog cfg55 1000 noL 60 F60A F60B x) (F60 x) := fun x => by unfold DT.Is; kernel_rfl
noncomputable def F60.fn (x : Ndt × Ndt × Unit) : Int × Unit := (F60 x).fn
noncomputable def F60.pre (x : Ndt × Ndt × Unit) : Prop := (F60 x).pre
theorem F60ok : DataOk Try.prog 60 F60A F60B F60.pre F60.fn := data_of_tree F60A F60B F60 cfg55ok FnLoops.none F60is
noncomputable def F60C : Con Try.prog := conD 60 F60A F60B F60.pre F60.fn F60ok (by kernel_rfl)
noncomputable def cfgL56 : List (Con Try.prog) := F60C :: cfgL55
noncomputable def cfg56 : Cfg := cfgOf cfgL56
theorem cfg56ok : CfgOk Try.prog cfg56 := cfgOf_ok cfgnamed cfgmixed _
/-! 61 veneer/veneerref8.deep -/
def F61L0S : Shape := ⟨[(2, .val (.ptr 0 0)), (3, .val (.ptr 1 0)), (5, .v (.one (.int .i64))), (6, .v (.one (.int .i64)))], [(0, 4, [.v (.one (.int .i64)), .v (.one (.int .i64)), .v (.one (.int .i64)), .v (.one (.row Nd))]), (1, 8, [.v (.one (.int .i64)), .v (.one (.int .i64)), .v (.one (.int .i64)), .v (.one (.int .i64)), .v (.one (.int .i64)), .v (.one (.row Bk)), .v (.one .str), .v (.one (.row Nm))])], 2⟩
def F61L0S0 : Shape := ⟨[(5, .v (.one (.int .i64)))], [], 2⟩
def F61L0X : List (Option Nat × Shape) := [(some 0, F61L0S0)]
noncomputable def F61L0 (rc : RecC (Dkt × Ndt × Unit) (Int × Unit)) (x : Unit × Unit × Int × Int × Int × Int × Int × List Ndt × Int × Int × Int × Int × Int × List Bkt × List UInt8 × List Nmt × Unit) : DT ((Unit × Unit × Int × Int × Int × Int × Int × List Ndt × Int × Int × Int × Int × Int × List Bkt × List UInt8 × List Nmt × Unit) ⊕ ((Int × Unit) ⊕ Empty)) :=
  .node [] (decide (x.2.2.2.1 < (Int.ofNat (List.length x.2.2.2.2.2.2.2.2.2.2.2.2.2.2.2.1))))
    (let y0 := F49.fn ((x.2.2.2.2.1, (x.2.2.2.2.2.1, (x.2.2.2.2.2.2.1, x.2.2.2.2.2.2.2.1))), (@id (Nmt) (xsAt Nm x.2.2.2.2.2.2.2.2.2.2.2.2.2.2.2.1 (Int.toNat x.2.2.2.1))).2, ())
    let y1 := rc.fn ((x.2.2.2.2.1, (x.2.2.2.2.2.1, (x.2.2.2.2.2.2.1, x.2.2.2.2.2.2.2.1))), y0.1, ())
    .leaf [rc.pre ((x.2.2.2.2.1, (x.2.2.2.2.2.1, (x.2.2.2.2.2.2.1, x.2.2.2.2.2.2.2.1))), y0.1, ()), F49.pre ((x.2.2.2.2.1, (x.2.2.2.2.2.1, (x.2.2.2.2.2.2.1, x.2.2.2.2.2.2.2.1))), (@id (Nmt) (xsAt Nm x.2.2.2.2.2.2.2.2.2.2.2.2.2.2.2.1 (Int.toNat x.2.2.2.1))).2, ()), 0 ≤ x.2.2.2.1, x.2.2.2.1 < Int.ofNat (List.length x.2.2.2.2.2.2.2.2.2.2.2.2.2.2.2.1)] (.inl ((), (), (mxI x.2.2.1 (wrp .i64 ((1 : Int) + y1.1))), (wrp .i64 (x.2.2.2.1 + (1 : Int))), x.2.2.2.2.1, x.2.2.2.2.2.1, x.2.2.2.2.2.2.1, x.2.2.2.2.2.2.2.1, x.2.2.2.2.2.2.2.2.1, x.2.2.2.2.2.2.2.2.2.1, x.2.2.2.2.2.2.2.2.2.2.1, x.2.2.2.2.2.2.2.2.2.2.2.1, x.2.2.2.2.2.2.2.2.2.2.2.2.1, x.2.2.2.2.2.2.2.2.2.2.2.2.2.1, x.2.2.2.2.2.2.2.2.2.2.2.2.2.2.1, x.2.2.2.2.2.2.2.2.2.2.2.2.2.2.2.1, ())))
    (.leaf [] (.inr (.inl (x.2.2.1, ()))))
noncomputable def F61 (rc : RecC (Dkt × Ndt × Unit) (Int × Unit)) (x : Dkt × Ndt × Unit) : DT (Int × Unit) :=
  let y0 := loopOut (F61L0 rc) ((), (), (0 : Int), (0 : Int), x.1.1, x.1.2.1, x.1.2.2.1, x.1.2.2.2, x.2.1.1, x.2.1.2.1, x.2.1.2.2.1, x.2.1.2.2.2.1, x.2.1.2.2.2.2.1, x.2.1.2.2.2.2.2.1, x.2.1.2.2.2.2.2.2.1, x.2.1.2.2.2.2.2.2.2, ())
  let y1 : Int × Unit := getL (Shape.z F61L0S0) y0
  .leaf [loopInv (F61L0 rc) ((), (), (0 : Int), (0 : Int), x.1.1, x.1.2.1, x.1.2.2.1, x.1.2.2.2, x.2.1.1, x.2.1.2.1, x.2.1.2.2.1, x.2.1.2.2.2.1, x.2.1.2.2.2.2.1, x.2.1.2.2.2.2.2.1, x.2.1.2.2.2.2.2.2.1, x.2.1.2.2.2.2.2.2.2, ())] (y1.1, ())
abbrev F61A : List AT := [.v (.agg Dk), .v (.agg Nd)]
abbrev F61B : List AT := [.v (.one (.int .i64))]
noncomputable def F61R (rc : RecC (Dkt × Ndt × Unit) (Int × Unit)) : List (Nat × Rule) := [(0, ruleOf F61L0S F61L0X (F61L0 rc))]
theorem F61body : callable Try.prog 61 = true := by kernel_rfl
noncomputable def F61cfg (rc : RecC (Dkt × Ndt × Unit) (Int × Unit)) (ok : DataOk Try.prog 61 F61A F61B rc.pre rc.fn) : Cfg := cfgOf (conD 61 F61A F61B rc.pre rc.fn ok F61body :: cfgL56)
theorem F61L0is (rc : RecC (Dkt × Ndt × Unit) (Int × Unit)) (ok : DataOk Try.prog 61 F61A F61B rc.pre rc.fn) : ∀ x, DT.Is (runL Try.prog (F61cfg rc ok) 1000 (lsOf (F61R rc)) 61 0 F61L0S F61L0X x) ((F61L0 rc) x) := fun x => by unfold DT.Is; kernel_rfl
theorem F61is (rc : RecC (Dkt × Ndt × Unit) (Int × Unit)) (ok : DataOk Try.prog 61 F61A F61B rc.pre rc.fn) : ∀ x, DT.Is (runF Try.prog (F61cfg rc ok) 1000 (lsOf (F61R rc)) 61 F61A F61B x) ((F61 rc) x) := fun x => by unfold DT.Is; kernel_rfl
theorem F61step (rc : RecC (Dkt × Ndt × Unit) (Int × Unit)) (ok : DataOk Try.prog 61 F61A F61B rc.pre rc.fn) : DataOk Try.prog 61 F61A F61B (fun x => (F61 rc x).pre) (fun x => (F61 rc x).fn) := data_of_tree F61A F61B (F61 rc) (g := (F61cfg rc ok)) (cfgOf_ok cfgnamed cfgmixed _) (.of_all (cfgOf_ok cfgnamed cfgmixed _) (.cons (rule_of_tree F61L0S F61L0X (F61L0 rc) (F61L0is rc ok)) .nil)) (F61is rc ok)
noncomputable def F61z : Int × Unit := default
noncomputable def F61at : Nat → RecC (Dkt × Ndt × Unit) (Int × Unit)
  | 0 => ⟨fun _ => False, fun _ => F61z⟩
  | n + 1 => ⟨fun x => (F61 (F61at n) x).pre, fun x => (F61 (F61at n) x).fn⟩
theorem F61atok : ∀ n, DataOk Try.prog 61 F61A F61B (F61at n).pre (F61at n).fn
  | 0 => DataOk.none _
  | n + 1 => F61step (F61at n) (F61atok n)
noncomputable def F61.fn (x : Dkt × Ndt × Unit) : Int × Unit := (RecC.all F61z F61at).fn x
noncomputable def F61.pre (x : Dkt × Ndt × Unit) : Prop := (RecC.all F61z F61at).pre x
theorem F61ok : DataOk Try.prog 61 F61A F61B F61.pre F61.fn := DataOk.depth (ats := F61A) (rts := F61B) F61z F61at F61atok
noncomputable def F61C : Con Try.prog := conD 61 F61A F61B F61.pre F61.fn F61ok (by kernel_rfl)
noncomputable def cfgL57 : List (Con Try.prog) := F61C :: cfgL56
noncomputable def cfg57 : Cfg := cfgOf cfgL57
theorem cfg57ok : CfgOk Try.prog cfg57 := cfgOf_ok cfgnamed cfgmixed _
/-! 62 veneer/veneerref6.Move -/
noncomputable def F62 (x : Dkt × Int × List UInt8 × Int × List UInt8 × Unit) : DT (Dkt × Int × Unit) :=
  let y0 := F28.fn (x.1, x.2.1, x.2.2.1, ())
  .node [F28.pre (x.1, x.2.1, x.2.2.1, ())] (!y0.2.1)
    (.leaf [] (x.1, (2 : Int), ()))
    (let y1 := F28.fn (x.1, x.2.2.2.1, x.2.2.2.2.1, ())
    .node [F28.pre (x.1, x.2.2.2.1, x.2.2.2.2.1, ())] y1.2.1
      (.leaf [] (x.1, (3 : Int), ()))
      (let y2 := F84.fn (x.1, x.2.1, x.2.2.1, ())
      let y3 := F31.fn (y2.1, x.2.2.2.1, x.2.2.2.2.1, y0.1, ())
      .leaf [F31.pre (y2.1, x.2.2.2.1, x.2.2.2.2.1, y0.1, ()), F84.pre (x.1, x.2.1, x.2.2.1, ())] (y3.1, (0 : Int), ())))
abbrev F62A : List AT := [.v (.agg Dk), .v (.one (.int .i64)), .v (.one .str), .v (.one (.int .i64)), .v (.one .str)]
abbrev F62B : List AT := [.v (.agg Dk), .v (.one (.int .i64))]
theorem F62is : ∀ x, DT.Is (runF Try.prog cfg57 1000 noL 62 F62A F62B x) (F62 x) := fun x => by unfold DT.Is; kernel_rfl
noncomputable def F62.fn (x : Dkt × Int × List UInt8 × Int × List UInt8 × Unit) : Dkt × Int × Unit := (F62 x).fn
noncomputable def F62.pre (x : Dkt × Int × List UInt8 × Int × List UInt8 × Unit) : Prop := (F62 x).pre
theorem F62ok : DataOk Try.prog 62 F62A F62B F62.pre F62.fn := data_of_tree F62A F62B F62 cfg57ok FnLoops.none F62is
noncomputable def F62C : Con Try.prog := conD 62 F62A F62B F62.pre F62.fn F62ok (by kernel_rfl)
noncomputable def cfgL58 : List (Con Try.prog) := F62C :: cfgL57
noncomputable def cfg58 : Cfg := cfgOf cfgL58
theorem cfg58ok : CfgOk Try.prog cfg58 := cfgOf_ok cfgnamed cfgmixed _
/-! 38 veneer/veneerref8.renamed -/
noncomputable def F38 (x : Dkt × List (List UInt8) × List (List UInt8) × Unit) : DT (Dkt × Int × Unit) :=
  .node [] ((Int.ofNat (List.length x.2.1)) == (0 : Int))
    (.leaf [] (x.1, (1 : Int), ()))
    (.node [] ((Int.ofNat (List.length x.2.2.1)) == (0 : Int))
      (.leaf [] (x.1, (1 : Int), ()))
      (let y0 := F56.fn (x.1, x.2.1, ())
      .node [F56.pre (x.1, x.2.1, ())] (y0.2.1 != (0 : Int))
        (.leaf [] (x.1, y0.2.1, ()))
        (let y1 := F55.fn (x.1, x.2.2.1, ())
        .node [F55.pre (x.1, x.2.2.1, ())] (y1.2.2.1 != (0 : Int))
          (.leaf [] (x.1, y1.2.2.1, ()))
          (.node [] (y0.1.2.1 == (2 : Int))
            (let y2 := F59.fn (x.2.2.1, x.2.1, ())
            .node [F59.pre (x.2.2.1, x.2.1, ())] y2.1
              (.leaf [] (x.1, (1 : Int), ()))
              (let y3 := F56.fn (x.1, x.2.2.1, ())
              .node [F56.pre (x.1, x.2.2.1, ())] (y3.2.1 == (0 : Int))
                (.node [] (y3.1.1 == y0.1.1)
                  (.leaf [] (x.1, (0 : Int), ()))
                  (let y4 := F60.fn (y0.1, y3.1, ())
                  .node [F60.pre (y0.1, y3.1, ())] (y4.1 != (0 : Int))
                    (.leaf [] (x.1, y4.1, ()))
                    (let y5 := F57.fn (x.1, y1.1.1, y1.2.1, ())
                    let y6 := F61.fn (x.1, y0.1, ())
                    .node [F61.pre (x.1, y0.1, ()), F57.pre (x.1, y1.1.1, y1.2.1, ())] (decide ((wrp .i64 ((Int.ofNat (List.length x.2.2.1)) + y6.1)) > (16 : Int)))
                      (.leaf [] (x.1, (9 : Int), ()))
                      (let y7 := F55.fn (x.1, x.2.1, ())
                      let y8 := F62.fn (y5.1, y7.1.1, y7.2.1, y1.1.1, y1.2.1, ())
                      .node [F62.pre (y5.1, y7.1.1, y7.2.1, y1.1.1, y1.2.1, ()), F55.pre (x.1, x.2.1, ())] (y8.2.1 != (0 : Int))
                        (.leaf [] (x.1, y8.2.1, ()))
                        (.leaf [] (y8.1, (0 : Int), ()))))))
                (let y4 := F61.fn (x.1, y0.1, ())
                .node [F61.pre (x.1, y0.1, ())] (decide ((wrp .i64 ((Int.ofNat (List.length x.2.2.1)) + y4.1)) > (16 : Int)))
                  (.leaf [] (x.1, (9 : Int), ()))
                  (let y5 := F55.fn (x.1, x.2.1, ())
                  let y6 := F62.fn (x.1, y5.1.1, y5.2.1, y1.1.1, y1.2.1, ())
                  .node [F62.pre (x.1, y5.1.1, y5.2.1, y1.1.1, y1.2.1, ()), F55.pre (x.1, x.2.1, ())] (y6.2.1 != (0 : Int))
                    (.leaf [] (x.1, y6.2.1, ()))
                    (.leaf [] (y6.1, (0 : Int), ()))))))
            (let y2 := F56.fn (x.1, x.2.2.1, ())
            .node [F56.pre (x.1, x.2.2.1, ())] (y2.2.1 == (0 : Int))
              (.node [] (y2.1.1 == y0.1.1)
                (.leaf [] (x.1, (0 : Int), ()))
                (let y3 := F60.fn (y0.1, y2.1, ())
                .node [F60.pre (y0.1, y2.1, ())] (y3.1 != (0 : Int))
                  (.leaf [] (x.1, y3.1, ()))
                  (let y4 := F57.fn (x.1, y1.1.1, y1.2.1, ())
                  let y5 := F61.fn (x.1, y0.1, ())
                  .node [F61.pre (x.1, y0.1, ()), F57.pre (x.1, y1.1.1, y1.2.1, ())] (decide ((wrp .i64 ((Int.ofNat (List.length x.2.2.1)) + y5.1)) > (16 : Int)))
                    (.leaf [] (x.1, (9 : Int), ()))
                    (let y6 := F55.fn (x.1, x.2.1, ())
                    let y7 := F62.fn (y4.1, y6.1.1, y6.2.1, y1.1.1, y1.2.1, ())
                    .node [F62.pre (y4.1, y6.1.1, y6.2.1, y1.1.1, y1.2.1, ()), F55.pre (x.1, x.2.1, ())] (y7.2.1 != (0 : Int))
                      (.leaf [] (x.1, y7.2.1, ()))
                      (.leaf [] (y7.1, (0 : Int), ()))))))
              (let y3 := F61.fn (x.1, y0.1, ())
              .node [F61.pre (x.1, y0.1, ())] (decide ((wrp .i64 ((Int.ofNat (List.length x.2.2.1)) + y3.1)) > (16 : Int)))
                (.leaf [] (x.1, (9 : Int), ()))
                (let y4 := F55.fn (x.1, x.2.1, ())
                let y5 := F62.fn (x.1, y4.1.1, y4.2.1, y1.1.1, y1.2.1, ())
                .node [F62.pre (x.1, y4.1.1, y4.2.1, y1.1.1, y1.2.1, ()), F55.pre (x.1, x.2.1, ())] (y5.2.1 != (0 : Int))
                  (.leaf [] (x.1, y5.2.1, ()))
                  (.leaf [] (y5.1, (0 : Int), ())))))))))
abbrev F38A : List AT := [.v (.agg Dk), .v (.one (.row (.one .str))), .v (.one (.row (.one .str)))]
abbrev F38B : List AT := [.v (.agg Dk), .v (.one (.int .i64))]
theorem F38is : ∀ x, DT.Is (runF Try.prog cfg58 1000 noL 38 F38A F38B x) (F38 x) := fun x => by unfold DT.Is; kernel_rfl
noncomputable def F38.fn (x : Dkt × List (List UInt8) × List (List UInt8) × Unit) : Dkt × Int × Unit := (F38 x).fn
noncomputable def F38.pre (x : Dkt × List (List UInt8) × List (List UInt8) × Unit) : Prop := (F38 x).pre
theorem F38ok : DataOk Try.prog 38 F38A F38B F38.pre F38.fn := data_of_tree F38A F38B F38 cfg58ok FnLoops.none F38is
noncomputable def F38C : Con Try.prog := conD 38 F38A F38B F38.pre F38.fn F38ok (by kernel_rfl)
noncomputable def cfgL59 : List (Con Try.prog) := F38C :: cfgL58
noncomputable def cfg59 : Cfg := cfgOf cfgL59
theorem cfg59ok : CfgOk Try.prog cfg59 := cfgOf_ok cfgnamed cfgmixed _
/-! 85 veneer/veneerref7.file -/
noncomputable def F85 (x : Ndt × Unit) : DT (Int × Unit) :=
  .node [] (x.1.2.1 == (2 : Int))
    (.leaf [] ((5 : Int), ()))
    (.node [] (x.1.2.1 == (3 : Int))
      (.leaf [] ((1 : Int), ()))
      (.leaf [] ((0 : Int), ())))
abbrev F85A : List AT := [.v (.agg Nd)]
abbrev F85B : List AT := [.v (.one (.int .i64))]
theorem F85is : ∀ x, DT.Is (runF Try.prog cfg59 1000 noL 85 F85A F85B x) (F85 x) := fun x => by unfold DT.Is; kernel_rfl
noncomputable def F85.fn (x : Ndt × Unit) : Int × Unit := (F85 x).fn
noncomputable def F85.pre (x : Ndt × Unit) : Prop := (F85 x).pre
theorem F85ok : DataOk Try.prog 85 F85A F85B F85.pre F85.fn := data_of_tree F85A F85B F85 cfg59ok FnLoops.none F85is
noncomputable def F85C : Con Try.prog := conD 85 F85A F85B F85.pre F85.fn F85ok (by kernel_rfl)
noncomputable def cfgL60 : List (Con Try.prog) := F85C :: cfgL59
noncomputable def cfg60 : Cfg := cfgOf cfgL60
theorem cfg60ok : CfgOk Try.prog cfg60 := cfgOf_ok cfgnamed cfgmixed _
/-! 100 veneer/veneerref2.find -/
def F100L0S : Shape := ⟨[(1, .v (.one (.int .i64))), (2, .val (.ptr 0 0)), (5, .v (.one (.int .i64)))], [(0, 2, [.v (.one (.int .i64)), .v (.one (.row Bk))])], 1⟩
def F100L0S0 : Shape := ⟨[(4, .v (.one (.int .i64)))], [], 1⟩
def F100L0S1 : Shape := ⟨[], [], 1⟩
def F100L0X : List (Option Nat × Shape) := [(none, F100L0S0), (some 0, F100L0S1)]
noncomputable def F100L0 (x : Int × Unit × Int × Int × List Bkt × Unit) : DT ((Int × Unit × Int × Int × List Bkt × Unit) ⊕ ((Int × Unit) ⊕ (Unit) ⊕ Empty)) :=
  .node [] (decide (x.2.2.1 < (Int.ofNat (List.length x.2.2.2.2.1))))
    (.node [0 ≤ x.2.2.1, x.2.2.1 < Int.ofNat (List.length x.2.2.2.2.1)] ((@id (Bkt) (xsAt Bk x.2.2.2.2.1 (Int.toNat x.2.2.1))).1 == x.1)
      (.leaf [] (.inr (.inl (x.2.2.1, ()))))
      (.leaf [] (.inl (x.1, (), (wrp .i64 (x.2.2.1 + (1 : Int))), x.2.2.2.1, x.2.2.2.2.1, ()))))
    (.leaf [] (.inr (.inr (.inl ()))))
noncomputable def F100 (x : (Int × List Bkt) × Int × Unit) : DT (Int × Unit) :=
  let y0 := loopOut F100L0 (x.2.1, (), (0 : Int), x.1.1, x.1.2, ())
  .node [loopInv F100L0 (x.2.1, (), (0 : Int), x.1.1, x.1.2, ())] (isL y0)
    (let y1 : Int × Unit := getL (Shape.z F100L0S0) y0
    .leaf [] (y1.1, ()))
    (let y1 : Unit := getL (Shape.z F100L0S1) (restR y0)
    .leaf [] ((-1 : Int), ()))
abbrev F100A : List AT := [.v (.agg (.cons (.int .i64) (.one (.row Bk)))), .v (.one (.int .i64))]
abbrev F100B : List AT := [.v (.one (.int .i64))]
noncomputable def F100R : List (Nat × Rule) := [(0, ruleOf F100L0S F100L0X F100L0)]
theorem F100L0is : ∀ x, DT.Is (runL Try.prog cfg60 1000 (lsOf F100R) 100 0 F100L0S F100L0X x) (F100L0 x) := fun x => by unfold DT.Is; kernel_rfl
theorem F100is : ∀ x, DT.Is (runF Try.prog cfg60 1000 (lsOf F100R) 100 F100A F100B x) (F100 x) := fun x => by unfold DT.Is; kernel_rfl
noncomputable def F100.fn (x : (Int × List Bkt) × Int × Unit) : Int × Unit := (F100 x).fn
noncomputable def F100.pre (x : (Int × List Bkt) × Int × Unit) : Prop := (F100 x).pre
theorem F100ok : DataOk Try.prog 100 F100A F100B F100.pre F100.fn := data_of_tree F100A F100B F100 cfg60ok (.of_all cfg60ok (.cons (rule_of_tree F100L0S F100L0X F100L0 (F100L0is)) .nil)) F100is
noncomputable def F100C : Con Try.prog := conD 100 F100A F100B F100.pre F100.fn F100ok (by kernel_rfl)
noncomputable def cfgL61 : List (Con Try.prog) := F100C :: cfgL60
noncomputable def cfg61 : Cfg := cfgOf cfgL61
theorem cfg61ok : CfgOk Try.prog cfg61 := cfgOf_ok cfgnamed cfgmixed _
/-! 86 veneer/veneerref2.More -/
def F86L0S : Shape := ⟨[(1, .v (.one (.int .i64))), (2, .v (.one (.int .i64))), (3, .val (.ptr 0 0)), (7, .v (.one (.int .i64))), (8, .v (.one (.int .i64)))], [(0, 2, [.v (.one (.int .i64)), .v (.one (.row Bk))])], 1⟩
def F86L0S0 : Shape := ⟨[(7, .v (.one (.int .i64)))], [], 1⟩
def F86L0X : List (Option Nat × Shape) := [(some 0, F86L0S0)]
noncomputable def F86L0 (x : Int × Int × Unit × Int × Int × Int × List Bkt × Unit) : DT ((Int × Int × Unit × Int × Int × Int × List Bkt × Unit) ⊕ ((Int × Unit) ⊕ Empty)) :=
  .node [] (decide (x.2.1 > (0 : Int)))
    (.node [¬ (16 : Int) = 0] (decide (x.2.2.2.2.1 ≤ (wrp .i64 (Int.tdiv (wrp .i64 ((wrp .i64 (x.1 + x.2.1)) - (1 : Int))) (16 : Int)))))
      (let y0 := F100.fn ((x.2.2.2.2.2.1, x.2.2.2.2.2.2.1), x.2.2.2.2.1, ())
      .node [F100.pre ((x.2.2.2.2.2.1, x.2.2.2.2.2.2.1), x.2.2.2.2.1, ())] (decide (y0.1 < (0 : Int)))
        (.leaf [] (.inl (x.1, x.2.1, (), (wrp .i64 (x.2.2.2.1 + (1 : Int))), (wrp .i64 (x.2.2.2.2.1 + (1 : Int))), x.2.2.2.2.2.1, x.2.2.2.2.2.2.1, ())))
        (.leaf [] (.inl (x.1, x.2.1, (), x.2.2.2.1, (wrp .i64 (x.2.2.2.2.1 + (1 : Int))), x.2.2.2.2.2.1, x.2.2.2.2.2.2.1, ()))))
      (.leaf [] (.inr (.inl (x.2.2.2.1, ())))))
    (.leaf [] (.inr (.inl (x.2.2.2.1, ()))))
noncomputable def F86 (x : (Int × List Bkt) × Int × Int × Unit) : DT (Int × Unit) :=
  let y0 := loopOut F86L0 (x.2.1, x.2.2.1, (), (0 : Int), (wrp .i64 (Int.tdiv x.2.1 (16 : Int))), x.1.1, x.1.2, ())
  let y1 : Int × Unit := getL (Shape.z F86L0S0) y0
  .leaf [loopInv F86L0 (x.2.1, x.2.2.1, (), (0 : Int), (wrp .i64 (Int.tdiv x.2.1 (16 : Int))), x.1.1, x.1.2, ()), ¬ (16 : Int) = 0] (y1.1, ())
abbrev F86A : List AT := [.v (.agg (.cons (.int .i64) (.one (.row Bk)))), .v (.one (.int .i64)), .v (.one (.int .i64))]
abbrev F86B : List AT := [.v (.one (.int .i64))]
noncomputable def F86R : List (Nat × Rule) := [(0, ruleOf F86L0S F86L0X F86L0)]
theorem F86L0is : ∀ x, DT.Is (runL Try.prog cfg61 1000 (lsOf F86R) 86 0 F86L0S F86L0X x) (F86L0 x) := fun x => by unfold DT.Is; kernel_rfl
theorem F86is : ∀ x, DT.Is (runF Try.prog cfg61 1000 (lsOf F86R) 86 F86A F86B x) (F86 x) := fun x => by unfold DT.Is; kernel_rfl
noncomputable def F86.fn (x : (Int × List Bkt) × Int × Int × Unit) : Int × Unit := (F86 x).fn
noncomputable def F86.pre (x : (Int × List Bkt) × Int × Int × Unit) : Prop := (F86 x).pre
theorem F86ok : DataOk Try.prog 86 F86A F86B F86.pre F86.fn := data_of_tree F86A F86B F86 cfg61ok (.of_all cfg61ok (.cons (rule_of_tree F86L0S F86L0X F86L0 (F86L0is)) .nil)) F86is
noncomputable def F86C : Con Try.prog := conD 86 F86A F86B F86.pre F86.fn F86ok (by kernel_rfl)
noncomputable def cfgL62 : List (Con Try.prog) := F86C :: cfgL61
noncomputable def cfg62 : Cfg := cfgOf cfgL62
theorem cfg62ok : CfgOk Try.prog cfg62 := cfgOf_ok cfgnamed cfgmixed _
/-! 101 veneer/veneerref2.with -/
def F101L0S : Shape := ⟨[(1, .v (.one (.int .i64))), (2, .val (.ptr 0 0)), (4, .val (.ptr 1 0)), (5, .v (.one (.int .i64)))], [(0, 2, [.v (.one (.int .i64)), .v (.one (.row Bk))]), (1, 2, [.v (.one (.int .i64)), .val .nils])], 2⟩
def F101L0S0 : Shape := ⟨[(1, .v (.one (.int .i64))), (2, .val (.ptr 0 0)), (4, .val (.ptr 1 0)), (5, .v (.one (.int .i64)))], [(0, 2, [.v (.one (.int .i64)), .v (.one (.row Bk))]), (1, 2, [.v (.one (.int .i64)), .val .nils])], 2⟩
def F101L0X : List (Option Nat × Shape) := [(some 0, F101L0S0)]
noncomputable def F101L0 (x : Int × Unit × Unit × Int × Int × List Bkt × Int × Unit × Unit) : DT ((Int × Unit × Unit × Int × Int × List Bkt × Int × Unit × Unit) ⊕ ((Int × Unit × Unit × Int × Int × List Bkt × Int × Unit × Unit) ⊕ Empty)) :=
  .node [] (decide (x.2.2.2.1 < (Int.ofNat (List.length x.2.2.2.2.2.1))))
    (.node [0 ≤ x.2.2.2.1, x.2.2.2.1 < Int.ofNat (List.length x.2.2.2.2.2.1)] (decide ((@id (Bkt) (xsAt Bk x.2.2.2.2.2.1 (Int.toNat x.2.2.2.1))).1 < x.1))
      (.leaf [] (.inl (x.1, (), (), (wrp .i64 (x.2.2.2.1 + (1 : Int))), x.2.2.2.2.1, x.2.2.2.2.2.1, x.2.2.2.2.2.2.1, (), ())))
      (.leaf [] (.inr (.inl (x.1, (), (), x.2.2.2.1, x.2.2.2.2.1, x.2.2.2.2.2.1, x.2.2.2.2.2.2.1, (), ())))))
    (.leaf [] (.inr (.inl (x.1, (), (), x.2.2.2.1, x.2.2.2.2.1, x.2.2.2.2.2.1, x.2.2.2.2.2.2.1, (), ()))))
noncomputable def F101 (x : (Int × List Bkt) × Int × Unit) : DT ((Int × List Bkt) × Unit) :=
  let y0 := F100.fn (x.1, x.2.1, ())
  .node [F100.pre (x.1, x.2.1, ())] (decide (y0.1 ≥ (0 : Int)))
    (.leaf [] (x.1, ()))
    (let y1 := loopOut F101L0 (x.2.1, (), (), (0 : Int), x.1.1, x.1.2, (0 : Int), (), ())
    let y2 : Int × Unit × Unit × Int × Int × List Bkt × Int × Unit × Unit := getL (Shape.z F101L0S0) y1
    .leaf [(List.length ((([] ++ (List.take (Int.toNat y2.2.2.2.1) y2.2.2.2.2.2.1)) ++ ((y2.1, ((0 : Int) :: ((0 : Int) :: ((0 : Int) :: ((0 : Int) :: ((0 : Int) :: ((0 : Int) :: ((0 : Int) :: ((0 : Int) :: ((0 : Int) :: ((0 : Int) :: ((0 : Int) :: ((0 : Int) :: ((0 : Int) :: ((0 : Int) :: ((0 : Int) :: ((0 : Int) :: []))))))))))))))))) :: [])) ++ (List.drop (Int.toNat y2.2.2.2.1) y2.2.2.2.2.2.1))) * 32 ≤ Room, 0 ≤ y2.2.2.2.1, y2.2.2.2.1 ≤ Int.ofNat (List.length y2.2.2.2.2.2.1), (List.length (([] ++ (List.take (Int.toNat y2.2.2.2.1) y2.2.2.2.2.2.1)) ++ ((y2.1, ((0 : Int) :: ((0 : Int) :: ((0 : Int) :: ((0 : Int) :: ((0 : Int) :: ((0 : Int) :: ((0 : Int) :: ((0 : Int) :: ((0 : Int) :: ((0 : Int) :: ((0 : Int) :: ((0 : Int) :: ((0 : Int) :: ((0 : Int) :: ((0 : Int) :: ((0 : Int) :: []))))))))))))))))) :: []))) * 32 ≤ Room, (List.length ([] ++ (List.take (Int.toNat y2.2.2.2.1) y2.2.2.2.2.2.1))) * 32 ≤ Room, 0 ≤ y2.2.2.2.1, y2.2.2.2.1 ≤ Int.ofNat (List.length y2.2.2.2.2.2.1), loopInv F101L0 (x.2.1, (), (), (0 : Int), x.1.1, x.1.2, (0 : Int), (), ())] ((y2.2.2.2.2.1, ((([] ++ (List.take (Int.toNat y2.2.2.2.1) y2.2.2.2.2.2.1)) ++ ((y2.1, ((0 : Int) :: ((0 : Int) :: ((0 : Int) :: ((0 : Int) :: ((0 : Int) :: ((0 : Int) :: ((0 : Int) :: ((0 : Int) :: ((0 : Int) :: ((0 : Int) :: ((0 : Int) :: ((0 : Int) :: ((0 : Int) :: ((0 : Int) :: ((0 : Int) :: ((0 : Int) :: []))))))))))))))))) :: [])) ++ (List.drop (Int.toNat y2.2.2.2.1) y2.2.2.2.2.2.1))), ()))
abbrev F101A : List AT := [.v (.agg (.cons (.int .i64) (.one (.row Bk)))), .v (.one (.int .i64))]
abbrev F101B : List AT := [.v (.agg (.cons (.int .i64) (.one (.row Bk))))]
noncomputable def F101R : List (Nat × Rule) := [(0, ruleOf F101L0S F101L0X F101L0)]
theorem F101L0is : ∀ x, DT.Is (runL Try.prog cfg62 1000 (lsOf F101R) 101 0 F101L0S F101L0X x) (F101L0 x) := fun x => by unfold DT.Is; kernel_rfl
theorem F101is : ∀ x, DT.Is (runF Try.prog cfg62 1000 (lsOf F101R) 101 F101A F101B x) (F101 x) := fun x => by unfold DT.Is; kernel_rfl
noncomputable def F101.fn (x : (Int × List Bkt) × Int × Unit) : (Int × List Bkt) × Unit := (F101 x).fn
noncomputable def F101.pre (x : (Int × List Bkt) × Int × Unit) : Prop := (F101 x).pre
theorem F101ok : DataOk Try.prog 101 F101A F101B F101.pre F101.fn := data_of_tree F101A F101B F101 cfg62ok (.of_all cfg62ok (.cons (rule_of_tree F101L0S F101L0X F101L0 (F101L0is)) .nil)) F101is
noncomputable def F101C : Con Try.prog := conD 101 F101A F101B F101.pre F101.fn F101ok (by kernel_rfl)
noncomputable def cfgL63 : List (Con Try.prog) := F101C :: cfgL62
noncomputable def cfg63 : Cfg := cfgOf cfgL63
theorem cfg63ok : CfgOk Try.prog cfg63 := cfgOf_ok cfgnamed cfgmixed _
/-! 87 veneer/veneerref2.Write -/
def F87L0S : Shape := ⟨[(1, .v (.one (.int .i64))), (2, .v (.one (.row (.one (.int .u8))))), (3, .val (.ptr 0 0)), (6, .val (.ptr 1 0)), (7, .v (.one (.int .i64)))], [(0, 2, [.v (.one (.int .i64)), .v (.one (.row Bk))]), (1, 2, [.v (.one (.int .i64)), .val .nils])], 2⟩
def F87L0S0 : Shape := ⟨[(1, .v (.one (.int .i64))), (2, .v (.one (.row (.one (.int .u8))))), (3, .val (.ptr 0 0)), (6, .val (.ptr 1 0))], [(0, 2, [.v (.one (.int .i64)), .v (.one (.row Bk))]), (1, 2, [.v (.one (.int .i64)), .val .nils])], 2⟩
def F87L0X : List (Option Nat × Shape) := [(some 0, F87L0S0)]
noncomputable def F87L0 (x : Int × List (Int) × Unit × Unit × Int × Int × List Bkt × Int × Unit × Unit) : DT ((Int × List (Int) × Unit × Unit × Int × Int × List Bkt × Int × Unit × Unit) ⊕ ((Int × List (Int) × Unit × Unit × Int × List Bkt × Int × Unit × Unit) ⊕ Empty)) :=
  .req [] (decide (x.2.2.2.2.1 < (Int.ofNat (List.length x.2.1)))) false
    (.leaf [] (.inr (.inl (x.1, x.2.1, (), (), x.2.2.2.2.2.1, x.2.2.2.2.2.2.1, x.2.2.2.2.2.2.2.1, (), ()))))
noncomputable def F87 (x : (Int × List Bkt) × Int × List (Int) × Unit) : DT ((Int × List Bkt) × Unit) :=
  let y0 := F82.fn (x.1, ())
  let y1 := loopOut F87L0 (x.2.1, x.2.2.1, (), (), (0 : Int), y0.1.1, y0.1.2, (0 : Int), (), ())
  let y2 : Int × List (Int) × Unit × Unit × Int × List Bkt × Int × Unit × Unit := getL (Shape.z F87L0S0) y1
  .node [loopInv F87L0 (x.2.1, x.2.2.1, (), (), (0 : Int), y0.1.1, y0.1.2, (0 : Int), (), ()), F82.pre (x.1, ())] (decide ((Int.ofNat (List.length y2.2.1)) > (0 : Int)))
    (.leaf [] (((mxI y2.2.2.2.2.1 (wrp .i64 (y2.1 + (Int.ofNat (List.length y2.2.1))))), y2.2.2.2.2.2.1), ()))
    (.leaf [] ((y2.2.2.2.2.1, y2.2.2.2.2.2.1), ()))
abbrev F87A : List AT := [.v (.agg (.cons (.int .i64) (.one (.row Bk)))), .v (.one (.int .i64)), .v (.one (.row (.one (.int .u8))))]
abbrev F87B : List AT := [.v (.agg (.cons (.int .i64) (.one (.row Bk))))]
noncomputable def F87R : List (Nat × Rule) := [(0, ruleOf F87L0S F87L0X F87L0)]
theorem F87L0is : ∀ x, DT.Is (runL Try.prog cfg63 1000 (lsOf F87R) 87 0 F87L0S F87L0X x) (F87L0 x) := fun x => by unfold DT.Is; kernel_rfl
theorem F87is : ∀ x, DT.Is (runF Try.prog cfg63 1000 (lsOf F87R) 87 F87A F87B x) (F87 x) := fun x => by unfold DT.Is; kernel_rfl
noncomputable def F87.fn (x : (Int × List Bkt) × Int × List (Int) × Unit) : (Int × List Bkt) × Unit := (F87 x).fn
noncomputable def F87.pre (x : (Int × List Bkt) × Int × List (Int) × Unit) : Prop := (F87 x).pre
theorem F87ok : DataOk Try.prog 87 F87A F87B F87.pre F87.fn := data_of_tree F87A F87B F87 cfg63ok (.of_all cfg63ok (.cons (rule_of_tree F87L0S F87L0X F87L0 (F87L0is)) .nil)) F87is
noncomputable def F87C : Con Try.prog := conD 87 F87A F87B F87.pre F87.fn F87ok (by kernel_rfl)
noncomputable def cfgL64 : List (Con Try.prog) := F87C :: cfgL63
noncomputable def cfg64 : Cfg := cfgOf cfgL64
theorem cfg64ok : CfgOk Try.prog cfg64 := cfgOf_ok cfgnamed cfgmixed _
/-! 63 veneer/veneerref7.Write -/
noncomputable def F63 (x : Dkt × Int × Int × List (Int) × Unit) : DT (Dkt × Int × Unit) :=
  let y0 := F49.fn (x.1, x.2.1, ())
  let y1 := F85.fn (y0.1, ())
  .node [F85.pre (y0.1, ()), F49.pre (x.1, x.2.1, ())] (y1.1 != (0 : Int))
    (.leaf [] (x.1, y1.1, ()))
    (.node [] (decide (x.2.2.1 < (0 : Int)))
      (.leaf [] (x.1, (1 : Int), ()))
      (.node [] (decide (x.2.2.1 > (32768 : Int)))
        (.leaf [] (x.1, (1 : Int), ()))
        (.node [] (decide ((Int.ofNat (List.length x.2.2.2.1)) > (wrp .i64 ((32768 : Int) - x.2.2.1))))
          (.leaf [] (x.1, (1 : Int), ()))
          (let y2 := F29.fn (x.1, ())
          let y3 := F86.fn ((y0.1.2.2.2.2.1, y0.1.2.2.2.2.2.1), x.2.2.1, (Int.ofNat (List.length x.2.2.2.1)), ())
          .node [F86.pre ((y0.1.2.2.2.2.1, y0.1.2.2.2.2.2.1), x.2.2.1, (Int.ofNat (List.length x.2.2.2.1)), ()), (let r : List AV := [.x (.i .i64 x.1.1)]; r = r), F29.pre (x.1, ())] (decide (y3.1 > (wrp .i64 (x.1.1 - y2.1))))
            (.leaf [] (x.1, (8 : Int), ()))
            (let y4 := F87.fn ((y0.1.2.2.2.2.1, y0.1.2.2.2.2.2.1), x.2.2.1, x.2.2.2.1, ())
            let y5 := F30.fn (x.1, (y0.1.1, (y0.1.2.1, (y0.1.2.2.1, (y0.1.2.2.2.1, (y4.1.1, (y4.1.2, y0.1.2.2.2.2.2.2)))))), ())
            .leaf [F30.pre (x.1, (y0.1.1, (y0.1.2.1, (y0.1.2.2.1, (y0.1.2.2.2.1, (y4.1.1, (y4.1.2, y0.1.2.2.2.2.2.2)))))), ()), F87.pre ((y0.1.2.2.2.2.1, y0.1.2.2.2.2.2.1), x.2.2.1, x.2.2.2.1, ())] (y5.1, (0 : Int), ()))))))
abbrev F63A : List AT := [.v (.agg Dk), .v (.one (.int .i64)), .v (.one (.int .i64)), .v (.one (.row (.one (.int .u8))))]
abbrev F63B : List AT := [.v (.agg Dk), .v (.one (.int .i64))]
theorem F63is : ∀ x, DT.Is (runF Try.prog cfg64 1000 noL 63 F63A F63B x) (F63 x) := fun x => by unfold DT.Is; kernel_rfl
noncomputable def F63.fn (x : Dkt × Int × Int × List (Int) × Unit) : Dkt × Int × Unit := (F63 x).fn
noncomputable def F63.pre (x : Dkt × Int × Int × List (Int) × Unit) : Prop := (F63 x).pre
theorem F63ok : DataOk Try.prog 63 F63A F63B F63.pre F63.fn := data_of_tree F63A F63B F63 cfg64ok FnLoops.none F63is
noncomputable def F63C : Con Try.prog := conD 63 F63A F63B F63.pre F63.fn F63ok (by kernel_rfl)
noncomputable def cfgL65 : List (Con Try.prog) := F63C :: cfgL64
noncomputable def cfg65 : Cfg := cfgOf cfgL65
theorem cfg65ok : CfgOk Try.prog cfg65 := cfgOf_ok cfgnamed cfgmixed _
/-! 88 veneer/veneerref2.Cut -/
def F88L1S : Shape := ⟨[(1, .v (.one (.int .i64))), (2, .val (.ptr 0 0)), (4, .val (.ptr 1 0)), (5, .own Bk), (6, .v (.one (.int .i64))), (7, .val (.ptr 3 0)), (8, .v (.one (.int .i64)))], [(0, 2, [.v (.one (.int .i64)), .v (.one (.row Bk))]), (1, 2, [.v (.one (.int .i64)), .val .nils]), (3, 2, [.v (.one (.int .i64)), .v (.one (.row (.one (.int .u8))))])], 4⟩
def F88L1S0 : Shape := ⟨[(1, .v (.one (.int .i64))), (2, .val (.ptr 0 0)), (4, .val (.ptr 1 0)), (5, .own Bk), (6, .v (.one (.int .i64))), (7, .val (.ptr 3 0))], [(0, 2, [.v (.one (.int .i64)), .v (.one (.row Bk))]), (1, 2, [.v (.one (.int .i64)), .val .nils]), (3, 2, [.v (.one (.int .i64)), .v (.one (.row (.one (.int .u8))))])], 4⟩
def F88L1X : List (Option Nat × Shape) := [(some 2, F88L1S0)]
noncomputable def F88L1 (x : Int × Unit × Unit × List Bkt × Int × Unit × Int × Int × List Bkt × Int × Unit × Int × List (Int) × Unit) : DT ((Int × Unit × Unit × List Bkt × Int × Unit × Int × Int × List Bkt × Int × Unit × Int × List (Int) × Unit) ⊕ ((Int × Unit × Unit × List Bkt × Int × Unit × Int × List Bkt × Int × Unit × Int × List (Int) × Unit) ⊕ Empty)) :=
  .node [] (decide (x.2.2.2.2.2.2.1 < (16 : Int)))
    (.req [] (decide ((wrp .i64 ((wrp .i64 (x.2.2.2.2.2.2.2.2.2.2.2.1 * (16 : Int))) + x.2.2.2.2.2.2.1)) ≥ x.1)) false
      (.leaf [] (.inl (x.1, (), (), x.2.2.2.1, x.2.2.2.2.1, (), (wrp .i64 (x.2.2.2.2.2.2.1 + (1 : Int))), x.2.2.2.2.2.2.2.1, x.2.2.2.2.2.2.2.2.1, x.2.2.2.2.2.2.2.2.2.1, (), x.2.2.2.2.2.2.2.2.2.2.2.1, x.2.2.2.2.2.2.2.2.2.2.2.2.1, ()))))
    (.leaf [] (.inr (.inl (x.1, (), (), x.2.2.2.1, x.2.2.2.2.1, (), x.2.2.2.2.2.2.2.1, x.2.2.2.2.2.2.2.2.1, x.2.2.2.2.2.2.2.2.2.1, (), x.2.2.2.2.2.2.2.2.2.2.2.1, x.2.2.2.2.2.2.2.2.2.2.2.2.1, ()))))
def F88L0S : Shape := ⟨[(1, .v (.one (.int .i64))), (2, .val (.ptr 0 0)), (4, .val (.ptr 1 0)), (5, .own Bk), (6, .v (.one (.int .i64)))], [(0, 2, [.v (.one (.int .i64)), .v (.one (.row Bk))]), (1, 2, [.v (.one (.int .i64)), .val .nils])], 2⟩
def F88L0S0 : Shape := ⟨[(1, .v (.one (.int .i64))), (4, .val (.ptr 1 0)), (5, .own Bk)], [(1, 2, [.v (.one (.int .i64)), .val .nils])], 2⟩
def F88L0X : List (Option Nat × Shape) := [(some 0, F88L0S0)]
noncomputable def F88L0 (x : Int × Unit × Unit × List Bkt × Int × Int × List Bkt × Int × Unit × Unit) : DT ((Int × Unit × Unit × List Bkt × Int × Int × List Bkt × Int × Unit × Unit) ⊕ ((Int × Unit × List Bkt × Int × Unit × Unit) ⊕ Empty)) :=
  .node [] (decide (x.2.2.2.2.1 < (Int.ofNat (List.length x.2.2.2.2.2.2.1))))
    (.node [0 ≤ x.2.2.2.2.1, x.2.2.2.2.1 < Int.ofNat (List.length x.2.2.2.2.2.2.1)] (decide ((wrp .i64 ((@id (Bkt) (xsAt Bk x.2.2.2.2.2.2.1 (Int.toNat x.2.2.2.2.1))).1 * (16 : Int))) ≥ x.1))
      (.leaf [] (.inl (x.1, (), (), x.2.2.2.1, (wrp .i64 (x.2.2.2.2.1 + (1 : Int))), x.2.2.2.2.2.1, x.2.2.2.2.2.2.1, x.2.2.2.2.2.2.2.1, (), ())))
      (let y0 := loopOut F88L1 (x.1, (), (), x.2.2.2.1, x.2.2.2.2.1, (), (0 : Int), x.2.2.2.2.2.1, x.2.2.2.2.2.2.1, x.2.2.2.2.2.2.2.1, (), (@id (Bkt) (xsAt Bk x.2.2.2.2.2.2.1 (Int.toNat x.2.2.2.2.1))).1, (@id (Bkt) (xsAt Bk x.2.2.2.2.2.2.1 (Int.toNat x.2.2.2.2.1))).2, ())
      let y1 : Int × Unit × Unit × List Bkt × Int × Unit × Int × List Bkt × Int × Unit × Int × List (Int) × Unit := getL (Shape.z F88L1S0) y0
      .leaf [(List.length (y1.2.2.2.1 ++ ((y1.2.2.2.2.2.2.2.2.2.2.1, y1.2.2.2.2.2.2.2.2.2.2.2.1) :: []))) * 32 ≤ Room, loopInv F88L1 (x.1, (), (), x.2.2.2.1, x.2.2.2.2.1, (), (0 : Int), x.2.2.2.2.2.1, x.2.2.2.2.2.2.1, x.2.2.2.2.2.2.2.1, (), (@id (Bkt) (xsAt Bk x.2.2.2.2.2.2.1 (Int.toNat x.2.2.2.2.1))).1, (@id (Bkt) (xsAt Bk x.2.2.2.2.2.2.1 (Int.toNat x.2.2.2.2.1))).2, ())] (.inl (y1.1, (), (), (y1.2.2.2.1 ++ ((y1.2.2.2.2.2.2.2.2.2.2.1, y1.2.2.2.2.2.2.2.2.2.2.2.1) :: [])), (wrp .i64 (y1.2.2.2.2.1 + (1 : Int))), y1.2.2.2.2.2.2.1, y1.2.2.2.2.2.2.2.1, y1.2.2.2.2.2.2.2.2.1, (), ()))))
    (.leaf [] (.inr (.inl (x.1, (), x.2.2.2.1, x.2.2.2.2.2.2.2.1, (), ()))))
noncomputable def F88 (x : (Int × List Bkt) × Int × Unit) : DT ((Int × List Bkt) × Unit) :=
  let y0 := F82.fn (x.1, ())
  let y1 := loopOut F88L0 (x.2.1, (), (), [], (0 : Int), y0.1.1, y0.1.2, (0 : Int), (), ())
  let y2 : Int × Unit × List Bkt × Int × Unit × Unit := getL (Shape.z F88L0S0) y1
  .leaf [loopInv F88L0 (x.2.1, (), (), [], (0 : Int), y0.1.1, y0.1.2, (0 : Int), (), ()), F82.pre (x.1, ())] ((y2.1, y2.2.2.1), ())
abbrev F88A : List AT := [.v (.agg (.cons (.int .i64) (.one (.row Bk)))), .v (.one (.int .i64))]
abbrev F88B : List AT := [.v (.agg (.cons (.int .i64) (.one (.row Bk))))]
noncomputable def F88R : List (Nat × Rule) := [(1, ruleOf F88L1S F88L1X F88L1), (0, ruleOf F88L0S F88L0X F88L0)]
theorem F88L1is : ∀ x, DT.Is (runL Try.prog cfg65 1000 (lsOf F88R) 88 1 F88L1S F88L1X x) (F88L1 x) := fun x => by unfold DT.Is; kernel_rfl
theorem F88L0is : ∀ x, DT.Is (runL Try.prog cfg65 1000 (lsOf F88R) 88 0 F88L0S F88L0X x) (F88L0 x) := fun x => by unfold DT.Is; kernel_rfl
theorem F88is : ∀ x, DT.Is (runF Try.prog cfg65 1000 (lsOf F88R) 88 F88A F88B x) (F88 x) := fun x => by unfold DT.Is; kernel_rfl
noncomputable def F88.fn (x : (Int × List Bkt) × Int × Unit) : (Int × List Bkt) × Unit := (F88 x).fn
noncomputable def F88.pre (x : (Int × List Bkt) × Int × Unit) : Prop := (F88 x).pre
theorem F88ok : DataOk Try.prog 88 F88A F88B F88.pre F88.fn := data_of_tree F88A F88B F88 cfg65ok (.of_all cfg65ok (.cons (rule_of_tree F88L1S F88L1X F88L1 (F88L1is)) (.cons (rule_of_tree F88L0S F88L0X F88L0 (F88L0is)) .nil))) F88is
noncomputable def F88C : Con Try.prog := conD 88 F88A F88B F88.pre F88.fn F88ok (by kernel_rfl)
noncomputable def cfgL66 : List (Con Try.prog) := F88C :: cfgL65
noncomputable def cfg66 : Cfg := cfgOf cfgL66
theorem cfg66ok : CfgOk Try.prog cfg66 := cfgOf_ok cfgnamed cfgmixed _
/-! 64 veneer/veneerref7.Cut -/
noncomputable def F64 (x : Dkt × Int × Int × Unit) : DT (Dkt × Int × Unit) :=
  let y0 := F49.fn (x.1, x.2.1, ())
  let y1 := F85.fn (y0.1, ())
  .node [F85.pre (y0.1, ()), F49.pre (x.1, x.2.1, ())] (y1.1 != (0 : Int))
    (.leaf [] (x.1, y1.1, ()))
    (.node [] (decide (x.2.2.1 < (0 : Int)))
      (.leaf [] (x.1, (1 : Int), ()))
      (.node [] (decide (x.2.2.1 > (32768 : Int)))
        (.leaf [] (x.1, (1 : Int), ()))
        (let y2 := F88.fn ((y0.1.2.2.2.2.1, y0.1.2.2.2.2.2.1), x.2.2.1, ())
        let y3 := F30.fn (x.1, (y0.1.1, (y0.1.2.1, (y0.1.2.2.1, (y0.1.2.2.2.1, (y2.1.1, (y2.1.2, y0.1.2.2.2.2.2.2)))))), ())
        .leaf [F30.pre (x.1, (y0.1.1, (y0.1.2.1, (y0.1.2.2.1, (y0.1.2.2.2.1, (y2.1.1, (y2.1.2, y0.1.2.2.2.2.2.2)))))), ()), F88.pre ((y0.1.2.2.2.2.1, y0.1.2.2.2.2.2.1), x.2.2.1, ())] (y3.1, (0 : Int), ()))))
abbrev F64A : List AT := [.v (.agg Dk), .v (.one (.int .i64)), .v (.one (.int .i64))]
abbrev F64B : List AT := [.v (.agg Dk), .v (.one (.int .i64))]
theorem F64is : ∀ x, DT.Is (runF Try.prog cfg66 1000 noL 64 F64A F64B x) (F64 x) := fun x => by unfold DT.Is; kernel_rfl
noncomputable def F64.fn (x : Dkt × Int × Int × Unit) : Dkt × Int × Unit := (F64 x).fn
noncomputable def F64.pre (x : Dkt × Int × Int × Unit) : Prop := (F64 x).pre
theorem F64ok : DataOk Try.prog 64 F64A F64B F64.pre F64.fn := data_of_tree F64A F64B F64 cfg66ok FnLoops.none F64is
noncomputable def F64C : Con Try.prog := conD 64 F64A F64B F64.pre F64.fn F64ok (by kernel_rfl)
noncomputable def cfgL67 : List (Con Try.prog) := F64C :: cfgL66
noncomputable def cfg67 : Cfg := cfgOf cfgL67
theorem cfg67ok : CfgOk Try.prog cfg67 := cfgOf_ok cfgnamed cfgmixed _
/-! 65 veneer/veneerref7.Chmod -/
noncomputable def F65 (x : Dkt × Int × Int × Unit) : DT (Dkt × Int × Unit) :=
  .node [] (decide (x.2.2.1 < (0 : Int)))
    (.leaf [] (x.1, (1 : Int), ()))
    (.node [] (decide (x.2.2.1 > (511 : Int)))
      (.leaf [] (x.1, (1 : Int), ()))
      (let y0 := F49.fn (x.1, x.2.1, ())
      let y1 := F30.fn (x.1, (y0.1.1, (y0.1.2.1, (x.2.2.1, y0.1.2.2.2))), ())
      .leaf [F30.pre (x.1, (y0.1.1, (y0.1.2.1, (x.2.2.1, y0.1.2.2.2))), ()), F49.pre (x.1, x.2.1, ())] (y1.1, (0 : Int), ())))
abbrev F65A : List AT := [.v (.agg Dk), .v (.one (.int .i64)), .v (.one (.int .i64))]
abbrev F65B : List AT := [.v (.agg Dk), .v (.one (.int .i64))]
theorem F65is : ∀ x, DT.Is (runF Try.prog cfg67 1000 noL 65 F65A F65B x) (F65 x) := fun x => by unfold DT.Is; kernel_rfl
noncomputable def F65.fn (x : Dkt × Int × Int × Unit) : Dkt × Int × Unit := (F65 x).fn
noncomputable def F65.pre (x : Dkt × Int × Int × Unit) : Prop := (F65 x).pre
theorem F65ok : DataOk Try.prog 65 F65A F65B F65.pre F65.fn := data_of_tree F65A F65B F65 cfg67ok FnLoops.none F65is
noncomputable def F65C : Con Try.prog := conD 65 F65A F65B F65.pre F65.fn F65ok (by kernel_rfl)
noncomputable def cfgL68 : List (Con Try.prog) := F65C :: cfgL67
noncomputable def cfg68 : Cfg := cfgOf cfgL68
theorem cfg68ok : CfgOk Try.prog cfg68 := cfgOf_ok cfgnamed cfgmixed _
/-! 102 veneer/veneerref2.byteAt -/
noncomputable def F102 (x : (Int × List Bkt) × Int × Unit) : DT (Int × Unit) :=
  let y0 := F100.fn (x.1, (wrp .i64 (Int.tdiv x.2.1 (16 : Int))), ())
  .node [F100.pre (x.1, (wrp .i64 (Int.tdiv x.2.1 (16 : Int))), ()), ¬ (16 : Int) = 0] (decide (y0.1 < (0 : Int)))
    (.leaf [] ((0 : Int), ()))
    (.leaf [0 ≤ (wrp .i64 (Int.tmod x.2.1 (16 : Int))), (wrp .i64 (Int.tmod x.2.1 (16 : Int))) < Int.ofNat (List.length (@id (Bkt) (xsAt Bk x.1.2 (Int.toNat y0.1))).2), ¬ (16 : Int) = 0, wrp .i64 (Int.tmod x.2.1 (16 : Int)) = Int.tmod x.2.1 (16 : Int), 0 ≤ y0.1, y0.1 < Int.ofNat (List.length x.1.2)] ((@id (Int) (xsAt (.one (.int .u8)) (@id (Bkt) (xsAt Bk x.1.2 (Int.toNat y0.1))).2 (Int.toNat (wrp .i64 (Int.tmod x.2.1 (16 : Int)))))), ()))
abbrev F102A : List AT := [.v (.agg (.cons (.int .i64) (.one (.row Bk)))), .v (.one (.int .i64))]
abbrev F102B : List AT := [.v (.one (.int .u8))]
theorem F102is : ∀ x, DT.Is (runF Try.prog cfg68 1000 noL 102 F102A F102B x) (F102 x) := fun x => by unfold DT.Is; kernel_rfl
noncomputable def F102.fn (x : (Int × List Bkt) × Int × Unit) : Int × Unit := (F102 x).fn
noncomputable def F102.pre (x : (Int × List Bkt) × Int × Unit) : Prop := (F102 x).pre
theorem F102ok : DataOk Try.prog 102 F102A F102B F102.pre F102.fn := data_of_tree F102A F102B F102 cfg68ok FnLoops.none F102is
noncomputable def F102C : Con Try.prog := conD 102 F102A F102B F102.pre F102.fn F102ok (by kernel_rfl)
noncomputable def cfgL69 : List (Con Try.prog) := F102C :: cfgL68
noncomputable def cfg69 : Cfg := cfgOf cfgL69
theorem cfg69ok : CfgOk Try.prog cfg69 := cfgOf_ok cfgnamed cfgmixed _
/-! 89 veneer/veneerref2.Read -/
def F89L0S : Shape := ⟨[(1, .v (.one (.int .i64))), (2, .v (.one (.int .i64))), (3, .val (.ptr 0 0)), (7, .own (.one (.int .u8))), (8, .v (.one (.int .i64)))], [(0, 2, [.v (.one (.int .i64)), .v (.one (.row Bk))])], 1⟩
def F89L0S0 : Shape := ⟨[(7, .own (.one (.int .u8)))], [], 1⟩
def F89L0X : List (Option Nat × Shape) := [(some 0, F89L0S0)]
noncomputable def F89L0 (x : Int × Int × Unit × List (Int) × Int × Int × List Bkt × Unit) : DT ((Int × Int × Unit × List (Int) × Int × Int × List Bkt × Unit) ⊕ ((List (Int) × Unit) ⊕ Empty)) :=
  .node [] (decide (x.2.2.2.2.1 < (wrp .i64 (x.1 + x.2.1))))
    (.node [] (decide (x.2.2.2.2.1 < x.2.2.2.2.2.1))
      (let y0 := F102.fn ((x.2.2.2.2.2.1, x.2.2.2.2.2.2.1), x.2.2.2.2.1, ())
      .leaf [(List.length (x.2.2.2.1 ++ (y0.1 :: []))) * 1 ≤ Room, F102.pre ((x.2.2.2.2.2.1, x.2.2.2.2.2.2.1), x.2.2.2.2.1, ())] (.inl (x.1, x.2.1, (), (x.2.2.2.1 ++ (y0.1 :: [])), (wrp .i64 (x.2.2.2.2.1 + (1 : Int))), x.2.2.2.2.2.1, x.2.2.2.2.2.2.1, ())))
      (.leaf [] (.inr (.inl (x.2.2.2.1, ())))))
    (.leaf [] (.inr (.inl (x.2.2.2.1, ()))))
noncomputable def F89 (x : (Int × List Bkt) × Int × Int × Unit) : DT (List (Int) × Unit) :=
  let y0 := loopOut F89L0 (x.2.1, x.2.2.1, (), [], x.2.1, x.1.1, x.1.2, ())
  let y1 : List (Int) × Unit := getL (Shape.z F89L0S0) y0
  .leaf [loopInv F89L0 (x.2.1, x.2.2.1, (), [], x.2.1, x.1.1, x.1.2, ())] (y1.1, ())
abbrev F89A : List AT := [.v (.agg (.cons (.int .i64) (.one (.row Bk)))), .v (.one (.int .i64)), .v (.one (.int .i64))]
abbrev F89B : List AT := [.own (.one (.int .u8))]
noncomputable def F89R : List (Nat × Rule) := [(0, ruleOf F89L0S F89L0X F89L0)]
theorem F89L0is : ∀ x, DT.Is (runL Try.prog cfg69 1000 (lsOf F89R) 89 0 F89L0S F89L0X x) (F89L0 x) := fun x => by unfold DT.Is; kernel_rfl
theorem F89is : ∀ x, DT.Is (runF Try.prog cfg69 1000 (lsOf F89R) 89 F89A F89B x) (F89 x) := fun x => by unfold DT.Is; kernel_rfl
noncomputable def F89.fn (x : (Int × List Bkt) × Int × Int × Unit) : List (Int) × Unit := (F89 x).fn
noncomputable def F89.pre (x : (Int × List Bkt) × Int × Int × Unit) : Prop := (F89 x).pre
theorem F89ok : DataOk Try.prog 89 F89A F89B F89.pre F89.fn := data_of_tree F89A F89B F89 cfg69ok (.of_all cfg69ok (.cons (rule_of_tree F89L0S F89L0X F89L0 (F89L0is)) .nil)) F89is
noncomputable def F89C : Con Try.prog := conD 89 F89A F89B F89.pre F89.fn F89ok (by kernel_rfl)
noncomputable def cfgL70 : List (Con Try.prog) := F89C :: cfgL69
noncomputable def cfg70 : Cfg := cfgOf cfgL70
theorem cfg70ok : CfgOk Try.prog cfg70 := cfgOf_ok cfgnamed cfgmixed _
/-! 66 veneer/veneerref7.Read -/
noncomputable def F66 (x : Dkt × Int × Int × Int × Unit) : DT (List (Int) × Int × Unit) :=
  let y0 := F49.fn (x.1, x.2.1, ())
  let y1 := F85.fn (y0.1, ())
  .node [F85.pre (y0.1, ()), F49.pre (x.1, x.2.1, ())] (y1.1 != (0 : Int))
    (.leaf [] ([], y1.1, ()))
    (.node [] (decide (x.2.2.1 < (0 : Int)))
      (.leaf [] ([], (1 : Int), ()))
      (.node [] (decide (x.2.2.1 > (32768 : Int)))
        (.leaf [] ([], (1 : Int), ()))
        (.node [] (decide (x.2.2.2.1 < (0 : Int)))
          (.leaf [] ([], (1 : Int), ()))
          (.node [] (decide (x.2.2.2.1 > (32768 : Int)))
            (.leaf [] ([], (1 : Int), ()))
            (let y2 := F89.fn ((y0.1.2.2.2.2.1, y0.1.2.2.2.2.2.1), x.2.2.1, x.2.2.2.1, ())
            .leaf [F89.pre ((y0.1.2.2.2.2.1, y0.1.2.2.2.2.2.1), x.2.2.1, x.2.2.2.1, ())] (y2.1, (0 : Int), ()))))))
abbrev F66A : List AT := [.v (.agg Dk), .v (.one (.int .i64)), .v (.one (.int .i64)), .v (.one (.int .i64))]
abbrev F66B : List AT := [.own (.one (.int .u8)), .v (.one (.int .i64))]
theorem F66is : ∀ x, DT.Is (runF Try.prog cfg70 1000 noL 66 F66A F66B x) (F66 x) := fun x => by unfold DT.Is; kernel_rfl
noncomputable def F66.fn (x : Dkt × Int × Int × Int × Unit) : List (Int) × Int × Unit := (F66 x).fn
noncomputable def F66.pre (x : Dkt × Int × Int × Int × Unit) : Prop := (F66 x).pre
theorem F66ok : DataOk Try.prog 66 F66A F66B F66.pre F66.fn := data_of_tree F66A F66B F66 cfg70ok FnLoops.none F66is
noncomputable def F66C : Con Try.prog := conD 66 F66A F66B F66.pre F66.fn F66ok (by kernel_rfl)
noncomputable def cfgL71 : List (Con Try.prog) := F66C :: cfgL70
noncomputable def cfg71 : Cfg := cfgOf cfgL71
theorem cfg71ok : CfgOk Try.prog cfg71 := cfgOf_ok cfgnamed cfgmixed _
/-! 67 veneer/veneerref7.Info -/
noncomputable def F67 (x : Dkt × Int × Unit) : DT ((Int × Int × Int × Int × Int) × Unit) :=
  let y0 := F49.fn (x.1, x.2.1, ())
  .node [F49.pre (x.1, x.2.1, ())] (!y0.2.1)
    (.leaf [] (((0 : Int), ((0 : Int), ((0 : Int), ((0 : Int), (0 : Int))))), ()))
    (.node [] (y0.1.2.1 == (1 : Int))
      (.leaf [] ((y0.1.1, (y0.1.2.1, (y0.1.2.2.1, (y0.1.2.2.2.1, y0.1.2.2.2.2.1)))), ()))
      (.node [] (y0.1.2.1 == (3 : Int))
        (.leaf [] ((y0.1.1, (y0.1.2.1, (y0.1.2.2.1, (y0.1.2.2.2.1, (Int.ofNat (List.length y0.1.2.2.2.2.2.2.1)))))), ()))
        (.leaf [] ((y0.1.1, (y0.1.2.1, (y0.1.2.2.1, (y0.1.2.2.2.1, (Int.ofNat (List.length y0.1.2.2.2.2.2.2.2)))))), ()))))
abbrev F67A : List AT := [.v (.agg Dk), .v (.one (.int .i64))]
abbrev F67B : List AT := [.v (.agg (.cons (.int .i64) (.cons (.int .i64) Rw)))]
theorem F67is : ∀ x, DT.Is (runF Try.prog cfg71 1000 noL 67 F67A F67B x) (F67 x) := fun x => by unfold DT.Is; kernel_rfl
noncomputable def F67.fn (x : Dkt × Int × Unit) : (Int × Int × Int × Int × Int) × Unit := (F67 x).fn
noncomputable def F67.pre (x : Dkt × Int × Unit) : Prop := (F67 x).pre
theorem F67ok : DataOk Try.prog 67 F67A F67B F67.pre F67.fn := data_of_tree F67A F67B F67 cfg71ok FnLoops.none F67is
noncomputable def F67C : Con Try.prog := conD 67 F67A F67B F67.pre F67.fn F67ok (by kernel_rfl)
noncomputable def cfgL72 : List (Con Try.prog) := F67C :: cfgL71
noncomputable def cfg72 : Cfg := cfgOf cfgL72
theorem cfg72ok : CfgOk Try.prog cfg72 := cfgOf_ok cfgnamed cfgmixed _
/-! 39 veneer/veneerref8.on -/
def F39L0S : Shape := ⟨[(6, .val (.ptr 2 0)), (7, .val (.ptr 3 0)), (9, .val (.ptr 4 0)), (10, .v (.one (.int .i64))), (11, .val (.ptr 5 0)), (12, .val (.ptr 6 0)), (13, .v (.one (.int .i64)))], [(2, 4, [.v (.one (.int .i64)), .v (.one (.int .i64)), .v (.one (.int .i64)), .val .nils]), (3, 7, [.val .nils, .val .nils, .v (.one (.int .i64)), .v (.one (.int .i64)), .v (.one (.int .i64)), .v (.one (.int .i64)), .v (.one (.int .i64))]), (4, 8, [.v (.one (.int .i64)), .v (.one (.int .i64)), .v (.one (.int .i64)), .v (.one (.int .i64)), .v (.one (.int .i64)), .v (.one (.row Bk)), .v (.one .str), .v (.one (.row Nm))]), (5, 4, [.v (.one (.int .i64)), .v (.one (.int .i64)), .v (.one (.int .i64)), .v (.one (.row Nd))]), (6, 7, [.val .nils, .own (.one .str), .v (.one (.int .i64)), .v (.one (.int .i64)), .v (.one (.int .i64)), .v (.one (.int .i64)), .v (.one (.int .i64))])], 7⟩
def F39L0S0 : Shape := ⟨[(6, .val (.ptr 2 0)), (7, .val (.ptr 3 0)), (10, .v (.one (.int .i64))), (11, .val (.ptr 5 0)), (12, .val (.ptr 6 0))], [(2, 4, [.v (.one (.int .i64)), .v (.one (.int .i64)), .v (.one (.int .i64)), .val .nils]), (3, 7, [.val .nils, .val .nils, .v (.one (.int .i64)), .v (.one (.int .i64)), .v (.one (.int .i64)), .v (.one (.int .i64)), .v (.one (.int .i64))]), (5, 4, [.v (.one (.int .i64)), .v (.one (.int .i64)), .v (.one (.int .i64)), .v (.one (.row Nd))]), (6, 7, [.val .nils, .own (.one .str), .v (.one (.int .i64)), .v (.one (.int .i64)), .v (.one (.int .i64)), .v (.one (.int .i64)), .v (.one (.int .i64))])], 7⟩
def F39L0X : List (Option Nat × Shape) := [(some 1, F39L0S0)]
noncomputable def F39L0 (x : Unit × Unit × Unit × Int × Unit × Unit × Int × Int × Int × Int × Unit × Unit × Unit × Int × Int × Int × Int × Int × Int × Int × Int × Int × Int × List Bkt × List UInt8 × List Nmt × Int × Int × Int × List Ndt × Unit × List (List UInt8) × Int × Int × Int × Int × Int × Unit) : DT ((Unit × Unit × Unit × Int × Unit × Unit × Int × Int × Int × Int × Unit × Unit × Unit × Int × Int × Int × Int × Int × Int × Int × Int × Int × Int × List Bkt × List UInt8 × List Nmt × Int × Int × Int × List Ndt × Unit × List (List UInt8) × Int × Int × Int × Int × Int × Unit) ⊕ ((Unit × Unit × Int × Unit × Unit × Int × Int × Int × Unit × Unit × Unit × Int × Int × Int × Int × Int × Int × Int × Int × List Ndt × Unit × List (List UInt8) × Int × Int × Int × Int × Int × Unit) ⊕ Empty)) :=
  .node [] (decide (x.2.2.2.2.2.2.1 < (Int.ofNat (List.length x.2.2.2.2.2.2.2.2.2.2.2.2.2.2.2.2.2.2.2.2.2.2.2.2.2.1))))
    (.leaf [(List.length (x.2.2.2.2.2.2.2.2.2.2.2.2.2.2.2.2.2.2.2.2.2.2.2.2.2.2.2.2.2.2.2.1 ++ ((@id (Nmt) (xsAt Nm x.2.2.2.2.2.2.2.2.2.2.2.2.2.2.2.2.2.2.2.2.2.2.2.2.2.1 (Int.toNat x.2.2.2.2.2.2.1))).1 :: []))) * 16 ≤ Room, (let r : List AV := [.x (.s (@id (Nmt) (xsAt Nm x.2.2.2.2.2.2.2.2.2.2.2.2.2.2.2.2.2.2.2.2.2.2.2.2.2.1 (Int.toNat x.2.2.2.2.2.2.1))).1)]; r = r), 0 ≤ x.2.2.2.2.2.2.1, x.2.2.2.2.2.2.1 < Int.ofNat (List.length x.2.2.2.2.2.2.2.2.2.2.2.2.2.2.2.2.2.2.2.2.2.2.2.2.2.1)] (.inl ((), (), (), x.2.2.2.1, (), (), (wrp .i64 (x.2.2.2.2.2.2.1 + (1 : Int))), x.2.2.2.2.2.2.2.1, x.2.2.2.2.2.2.2.2.1, x.2.2.2.2.2.2.2.2.2.1, (), (), (), x.2.2.2.2.2.2.2.2.2.2.2.2.2.1, x.2.2.2.2.2.2.2.2.2.2.2.2.2.2.1, x.2.2.2.2.2.2.2.2.2.2.2.2.2.2.2.1, x.2.2.2.2.2.2.2.2.2.2.2.2.2.2.2.2.1, x.2.2.2.2.2.2.2.2.2.2.2.2.2.2.2.2.2.1, x.2.2.2.2.2.2.2.2.2.2.2.2.2.2.2.2.2.2.1, x.2.2.2.2.2.2.2.2.2.2.2.2.2.2.2.2.2.2.2.1, x.2.2.2.2.2.2.2.2.2.2.2.2.2.2.2.2.2.2.2.2.1, x.2.2.2.2.2.2.2.2.2.2.2.2.2.2.2.2.2.2.2.2.2.1, x.2.2.2.2.2.2.2.2.2.2.2.2.2.2.2.2.2.2.2.2.2.2.1, x.2.2.2.2.2.2.2.2.2.2.2.2.2.2.2.2.2.2.2.2.2.2.2.1, x.2.2.2.2.2.2.2.2.2.2.2.2.2.2.2.2.2.2.2.2.2.2.2.2.1, x.2.2.2.2.2.2.2.2.2.2.2.2.2.2.2.2.2.2.2.2.2.2.2.2.2.1, x.2.2.2.2.2.2.2.2.2.2.2.2.2.2.2.2.2.2.2.2.2.2.2.2.2.2.1, x.2.2.2.2.2.2.2.2.2.2.2.2.2.2.2.2.2.2.2.2.2.2.2.2.2.2.2.1, x.2.2.2.2.2.2.2.2.2.2.2.2.2.2.2.2.2.2.2.2.2.2.2.2.2.2.2.2.1, x.2.2.2.2.2.2.2.2.2.2.2.2.2.2.2.2.2.2.2.2.2.2.2.2.2.2.2.2.2.1, (), (x.2.2.2.2.2.2.2.2.2.2.2.2.2.2.2.2.2.2.2.2.2.2.2.2.2.2.2.2.2.2.2.1 ++ ((@id (Nmt) (xsAt Nm x.2.2.2.2.2.2.2.2.2.2.2.2.2.2.2.2.2.2.2.2.2.2.2.2.2.1 (Int.toNat x.2.2.2.2.2.2.1))).1 :: [])), x.2.2.2.2.2.2.2.2.2.2.2.2.2.2.2.2.2.2.2.2.2.2.2.2.2.2.2.2.2.2.2.2.1, x.2.2.2.2.2.2.2.2.2.2.2.2.2.2.2.2.2.2.2.2.2.2.2.2.2.2.2.2.2.2.2.2.2.1, x.2.2.2.2.2.2.2.2.2.2.2.2.2.2.2.2.2.2.2.2.2.2.2.2.2.2.2.2.2.2.2.2.2.2.1, x.2.2.2.2.2.2.2.2.2.2.2.2.2.2.2.2.2.2.2.2.2.2.2.2.2.2.2.2.2.2.2.2.2.2.2.1, x.2.2.2.2.2.2.2.2.2.2.2.2.2.2.2.2.2.2.2.2.2.2.2.2.2.2.2.2.2.2.2.2.2.2.2.2.1, ())))
    (.leaf [] (.inr (.inl ((), (), x.2.2.2.1, (), (), x.2.2.2.2.2.2.2.1, x.2.2.2.2.2.2.2.2.1, x.2.2.2.2.2.2.2.2.2.1, (), (), (), x.2.2.2.2.2.2.2.2.2.2.2.2.2.1, x.2.2.2.2.2.2.2.2.2.2.2.2.2.2.1, x.2.2.2.2.2.2.2.2.2.2.2.2.2.2.2.1, x.2.2.2.2.2.2.2.2.2.2.2.2.2.2.2.2.1, x.2.2.2.2.2.2.2.2.2.2.2.2.2.2.2.2.2.1, x.2.2.2.2.2.2.2.2.2.2.2.2.2.2.2.2.2.2.2.2.2.2.2.2.2.2.1, x.2.2.2.2.2.2.2.2.2.2.2.2.2.2.2.2.2.2.2.2.2.2.2.2.2.2.2.1, x.2.2.2.2.2.2.2.2.2.2.2.2.2.2.2.2.2.2.2.2.2.2.2.2.2.2.2.2.1, x.2.2.2.2.2.2.2.2.2.2.2.2.2.2.2.2.2.2.2.2.2.2.2.2.2.2.2.2.2.1, (), x.2.2.2.2.2.2.2.2.2.2.2.2.2.2.2.2.2.2.2.2.2.2.2.2.2.2.2.2.2.2.2.1, x.2.2.2.2.2.2.2.2.2.2.2.2.2.2.2.2.2.2.2.2.2.2.2.2.2.2.2.2.2.2.2.2.1, x.2.2.2.2.2.2.2.2.2.2.2.2.2.2.2.2.2.2.2.2.2.2.2.2.2.2.2.2.2.2.2.2.2.1, x.2.2.2.2.2.2.2.2.2.2.2.2.2.2.2.2.2.2.2.2.2.2.2.2.2.2.2.2.2.2.2.2.2.2.1, x.2.2.2.2.2.2.2.2.2.2.2.2.2.2.2.2.2.2.2.2.2.2.2.2.2.2.2.2.2.2.2.2.2.2.2.1, x.2.2.2.2.2.2.2.2.2.2.2.2.2.2.2.2.2.2.2.2.2.2.2.2.2.2.2.2.2.2.2.2.2.2.2.2.1, ()))))
noncomputable def F39 (x : Dkt × (Int × List UInt8 × List UInt8 × Int × Int × Int × List (Int)) × List (List UInt8) × Unit) : DT (Dkt × (List (Int) × List (List UInt8) × Int × Int × Int × Int × Int) × Int × Unit) :=
  let y0 := F56.fn (x.1, x.2.2.1, ())
  .node [F56.pre (x.1, x.2.2.1, ())] (y0.2.1 != (0 : Int))
    (.leaf [] (x.1, ([], ([], ((0 : Int), ((0 : Int), ((0 : Int), ((0 : Int), (0 : Int))))))), y0.2.1, ()))
    (.node [] (x.2.1.1 == (7 : Int))
      (let y1 := F63.fn (x.1, y0.1.1, x.2.1.2.2.2.2.1, x.2.1.2.2.2.2.2.2, ())
      .leaf [F63.pre (x.1, y0.1.1, x.2.1.2.2.2.2.1, x.2.1.2.2.2.2.2.2, ())] (y1.1, ([], ([], ((0 : Int), ((0 : Int), ((0 : Int), ((0 : Int), (0 : Int))))))), y1.2.1, ()))
      (.node [] (x.2.1.1 == (9 : Int))
        (let y1 := F64.fn (x.1, y0.1.1, x.2.1.2.2.2.2.2.1, ())
        .leaf [F64.pre (x.1, y0.1.1, x.2.1.2.2.2.2.2.1, ())] (y1.1, ([], ([], ((0 : Int), ((0 : Int), ((0 : Int), ((0 : Int), (0 : Int))))))), y1.2.1, ()))
        (.node [] (x.2.1.1 == (10 : Int))
          (let y1 := F65.fn (x.1, y0.1.1, x.2.1.2.2.2.1, ())
          .leaf [F65.pre (x.1, y0.1.1, x.2.1.2.2.2.1, ())] (y1.1, ([], ([], ((0 : Int), ((0 : Int), ((0 : Int), ((0 : Int), (0 : Int))))))), y1.2.1, ()))
          (.node [] (x.2.1.1 == (8 : Int))
            (let y1 := F66.fn (x.1, y0.1.1, x.2.1.2.2.2.2.1, x.2.1.2.2.2.2.2.1, ())
            .leaf [(let r : List AV := [.agg [.x (.own 7 0 (.one (.int .u8)) true 0 (List.length y1.1)), .nils, .i .i64 (0), .i .i64 (0), .i .i64 (0), .i .i64 (0), .i .i64 (0)]]; r = r), F66.pre (x.1, y0.1.1, x.2.1.2.2.2.2.1, x.2.1.2.2.2.2.2.1, ())] (x.1, (y1.1, ([], ((0 : Int), ((0 : Int), ((0 : Int), ((0 : Int), (0 : Int))))))), y1.2.1, ()))
            (.node [] (x.2.1.1 == (11 : Int))
              (let y1 := F67.fn (x.1, y0.1.1, ())
              .leaf [(let r : List AV := [.agg [.nils, .nils, .x (.i .i64 y1.1.1), .x (.i .i64 y1.1.2.1), .x (.i .i64 y1.1.2.2.1), .x (.i .i64 y1.1.2.2.2.1), .x (.i .i64 y1.1.2.2.2.2)]]; r = r), F67.pre (x.1, y0.1.1, ())] (x.1, ([], ([], y1.1)), y0.2.1, ()))
              (.node [] (x.2.1.1 == (12 : Int))
                (.node [] (y0.1.2.1 != (2 : Int))
                  (.leaf [] (x.1, ([], ([], ((0 : Int), ((0 : Int), ((0 : Int), ((0 : Int), (0 : Int))))))), (4 : Int), ()))
                  (let y1 := loopOut F39L0 ((), (), (), y0.2.1, (), (), (0 : Int), (0 : Int), (0 : Int), (0 : Int), (), (), (), (0 : Int), (0 : Int), (0 : Int), (0 : Int), (0 : Int), y0.1.1, y0.1.2.1, y0.1.2.2.1, y0.1.2.2.2.1, y0.1.2.2.2.2.1, y0.1.2.2.2.2.2.1, y0.1.2.2.2.2.2.2.1, y0.1.2.2.2.2.2.2.2, x.1.1, x.1.2.1, x.1.2.2.1, x.1.2.2.2, (), [], (0 : Int), (0 : Int), (0 : Int), (0 : Int), (0 : Int), ())
                  let y2 : Unit × Unit × Int × Unit × Unit × Int × Int × Int × Unit × Unit × Unit × Int × Int × Int × Int × Int × Int × Int × Int × List Ndt × Unit × List (List UInt8) × Int × Int × Int × Int × Int × Unit := getL (Shape.z F39L0S0) y1
                  .leaf [(let r : List AV := [.agg [.nils, .x (.own 7 0 (.one .str) true 0 (List.length y2.2.2.2.2.2.2.2.2.2.2.2.2.2.2.2.2.2.2.2.2.2.1)), .x (.i .i64 y2.2.2.2.2.2.2.2.2.2.2.2.2.2.2.2.2.2.2.2.2.2.2.1), .x (.i .i64 y2.2.2.2.2.2.2.2.2.2.2.2.2.2.2.2.2.2.2.2.2.2.2.2.1), .x (.i .i64 y2.2.2.2.2.2.2.2.2.2.2.2.2.2.2.2.2.2.2.2.2.2.2.2.2.1), .x (.i .i64 y2.2.2.2.2.2.2.2.2.2.2.2.2.2.2.2.2.2.2.2.2.2.2.2.2.2.1), .x (.i .i64 y2.2.2.2.2.2.2.2.2.2.2.2.2.2.2.2.2.2.2.2.2.2.2.2.2.2.2.1)]]; r = r), loopInv F39L0 ((), (), (), y0.2.1, (), (), (0 : Int), (0 : Int), (0 : Int), (0 : Int), (), (), (), (0 : Int), (0 : Int), (0 : Int), (0 : Int), (0 : Int), y0.1.1, y0.1.2.1, y0.1.2.2.1, y0.1.2.2.2.1, y0.1.2.2.2.2.1, y0.1.2.2.2.2.2.1, y0.1.2.2.2.2.2.2.1, y0.1.2.2.2.2.2.2.2, x.1.1, x.1.2.1, x.1.2.2.1, x.1.2.2.2, (), [], (0 : Int), (0 : Int), (0 : Int), (0 : Int), (0 : Int), ())] ((y2.2.2.2.2.2.2.2.2.2.2.2.2.2.2.2.2.1, (y2.2.2.2.2.2.2.2.2.2.2.2.2.2.2.2.2.2.1, (y2.2.2.2.2.2.2.2.2.2.2.2.2.2.2.2.2.2.2.1, y2.2.2.2.2.2.2.2.2.2.2.2.2.2.2.2.2.2.2.2.1))), ([], (y2.2.2.2.2.2.2.2.2.2.2.2.2.2.2.2.2.2.2.2.2.2.1, (y2.2.2.2.2.2.2.2.2.2.2.2.2.2.2.2.2.2.2.2.2.2.2.1, (y2.2.2.2.2.2.2.2.2.2.2.2.2.2.2.2.2.2.2.2.2.2.2.2.1, (y2.2.2.2.2.2.2.2.2.2.2.2.2.2.2.2.2.2.2.2.2.2.2.2.2.1, (y2.2.2.2.2.2.2.2.2.2.2.2.2.2.2.2.2.2.2.2.2.2.2.2.2.2.1, y2.2.2.2.2.2.2.2.2.2.2.2.2.2.2.2.2.2.2.2.2.2.2.2.2.2.2.1)))))), y2.2.2.1, ())))
                (.req [] (y0.1.2.1 != (3 : Int)) true
                  (.leaf [] (x.1, ([], ([], ((0 : Int), ((0 : Int), ((0 : Int), ((0 : Int), (0 : Int))))))), (1 : Int), ())))))))))
abbrev F39A : List AT := [.v (.agg Dk), .v (.agg (.cons (.int .i64) (.cons .str (.cons .str (.cons (.int .i64) (.cons (.int .i64) Bk)))))), .v (.one (.row (.one .str)))]
abbrev F39B : List AT := [.v (.agg Dk), .v (.agg (.cons (.row (.one (.int .u8))) (.cons (.row (.one .str)) (.cons (.int .i64) (.cons (.int .i64) Rw))))), .v (.one (.int .i64))]
noncomputable def F39R : List (Nat × Rule) := [(0, ruleOf F39L0S F39L0X F39L0)]
theorem F39L0is : ∀ x, DT.Is (runL Try.prog cfg72 1000 (lsOf F39R) 39 0 F39L0S F39L0X x) (F39L0 x) := fun x => by unfold DT.Is; kernel_rfl
theorem F39is : ∀ x, DT.Is (runF Try.prog cfg72 1000 (lsOf F39R) 39 F39A F39B x) (F39 x) := fun x => by unfold DT.Is; kernel_rfl
noncomputable def F39.fn (x : Dkt × (Int × List UInt8 × List UInt8 × Int × Int × Int × List (Int)) × List (List UInt8) × Unit) : Dkt × (List (Int) × List (List UInt8) × Int × Int × Int × Int × Int) × Int × Unit := (F39 x).fn
noncomputable def F39.pre (x : Dkt × (Int × List UInt8 × List UInt8 × Int × Int × Int × List (Int)) × List (List UInt8) × Unit) : Prop := (F39 x).pre
theorem F39ok : DataOk Try.prog 39 F39A F39B F39.pre F39.fn := data_of_tree F39A F39B F39 cfg72ok (.of_all cfg72ok (.cons (rule_of_tree F39L0S F39L0X F39L0 (F39L0is)) .nil)) F39is
noncomputable def F39C : Con Try.prog := conD 39 F39A F39B F39.pre F39.fn F39ok (by kernel_rfl)
noncomputable def cfgL73 : List (Con Try.prog) := F39C :: cfgL72
noncomputable def cfg73 : Cfg := cfgOf cfgL73
theorem cfg73ok : CfgOk Try.prog cfg73 := cfgOf_ok cfgnamed cfgmixed _
/-! 18 veneer/veneerref8.Do -/
noncomputable def F18 (x : Dkt × Bool × (Int × List UInt8 × List UInt8 × Int × Int × Int × List (Int)) × Unit) : DT (Dkt × (List (Int) × List (List UInt8) × Int × Int × Int × Int × Int) × Int × Unit) :=
  .node [] (decide (x.2.2.1.1 < (1 : Int)))
    (.leaf [] (x.1, ([], ([], ((0 : Int), ((0 : Int), ((0 : Int), ((0 : Int), (0 : Int))))))), (1 : Int), ()))
    (.node [] (decide (x.2.2.1.1 > (14 : Int)))
      (.leaf [] (x.1, ([], ([], ((0 : Int), ((0 : Int), ((0 : Int), ((0 : Int), (0 : Int))))))), (1 : Int), ()))
      (let y0 := F32.fn (x.2.2.1.2.1, ())
      .node [F32.pre (x.2.2.1.2.1, ())] (y0.2.1 == (0 : Int))
        (let y1 := F33.fn (x.2.2.1, ())
        .node [F33.pre (x.2.2.1, ())] y1.1
          (let y2 := F32.fn (x.2.2.1.2.2.1, ())
          .node [F32.pre (x.2.2.1.2.2.1, ())] (y2.2.1 == (0 : Int))
            (.node [] x.2.1
              (let y3 := F34.fn (x.2.2.1, ())
              .node [F34.pre (x.2.2.1, ())] (!y3.1)
                (.leaf [] (x.1, ([], ([], ((0 : Int), ((0 : Int), ((0 : Int), ((0 : Int), (0 : Int))))))), (10 : Int), ()))
                (.node [] (y2.2.1 != (0 : Int))
                  (.leaf [] (x.1, ([], ([], ((0 : Int), ((0 : Int), ((0 : Int), ((0 : Int), (0 : Int))))))), y2.2.1, ()))
                  (.node [] (x.2.2.1.1 == (1 : Int))
                    (let y4 := F35.fn (x.1, x.2.2.1, y0.1, ())
                    .req [] (x.2.2.1.1 == (1 : Int)) true
                      (.leaf [F35.pre (x.1, x.2.2.1, y0.1, ())] (y4.1, ([], ([], ((0 : Int), ((0 : Int), ((0 : Int), ((0 : Int), (0 : Int))))))), y4.2.1, ())))
                    (.node [] (x.2.2.1.1 == (2 : Int))
                      (let y4 := F35.fn (x.1, x.2.2.1, y0.1, ())
                      .req [] (x.2.2.1.1 == (2 : Int)) true
                        (.leaf [F35.pre (x.1, x.2.2.1, y0.1, ())] (y4.1, ([], ([], ((0 : Int), ((0 : Int), ((0 : Int), ((0 : Int), (0 : Int))))))), y4.2.1, ())))
                      (.node [] (x.2.2.1.1 == (13 : Int))
                        (let y4 := F35.fn (x.1, x.2.2.1, y0.1, ())
                        .leaf [F35.pre (x.1, x.2.2.1, y0.1, ())] (y4.1, ([], ([], ((0 : Int), ((0 : Int), ((0 : Int), ((0 : Int), (0 : Int))))))), y4.2.1, ()))
                        (.node [] (x.2.2.1.1 == (4 : Int))
                          (let y4 := F36.fn (x.1, x.2.2.1, y0.1, ())
                          .req [] (x.2.2.1.1 == (4 : Int)) true
                            (.leaf [F36.pre (x.1, x.2.2.1, y0.1, ())] (y4.1, ([], ([], ((0 : Int), ((0 : Int), ((0 : Int), ((0 : Int), (0 : Int))))))), y4.2.1, ())))
                          (.node [] (x.2.2.1.1 == (5 : Int))
                            (let y4 := F36.fn (x.1, x.2.2.1, y0.1, ())
                            .leaf [F36.pre (x.1, x.2.2.1, y0.1, ())] (y4.1, ([], ([], ((0 : Int), ((0 : Int), ((0 : Int), ((0 : Int), (0 : Int))))))), y4.2.1, ()))
                            (.node [] (x.2.2.1.1 == (3 : Int))
                              (let y4 := F37.fn (x.1, y0.1, y2.1, ())
                              .leaf [F37.pre (x.1, y0.1, y2.1, ())] (y4.1, ([], ([], ((0 : Int), ((0 : Int), ((0 : Int), ((0 : Int), (0 : Int))))))), y4.2.1, ()))
                              (.node [] (x.2.2.1.1 == (6 : Int))
                                (let y4 := F38.fn (x.1, y0.1, y2.1, ())
                                .leaf [F38.pre (x.1, y0.1, y2.1, ())] (y4.1, ([], ([], ((0 : Int), ((0 : Int), ((0 : Int), ((0 : Int), (0 : Int))))))), y4.2.1, ()))
                                (let y4 := F39.fn (x.1, x.2.2.1, y0.1, ())
                                .leaf [F39.pre (x.1, x.2.2.1, y0.1, ())] (y4.1, y4.2.1, y4.2.2.1, ())))))))))))
              (.node [] (y2.2.1 != (0 : Int))
                (.leaf [] (x.1, ([], ([], ((0 : Int), ((0 : Int), ((0 : Int), ((0 : Int), (0 : Int))))))), y2.2.1, ()))
                (.node [] (x.2.2.1.1 == (1 : Int))
                  (let y3 := F35.fn (x.1, x.2.2.1, y0.1, ())
                  .req [] (x.2.2.1.1 == (1 : Int)) true
                    (.leaf [F35.pre (x.1, x.2.2.1, y0.1, ())] (y3.1, ([], ([], ((0 : Int), ((0 : Int), ((0 : Int), ((0 : Int), (0 : Int))))))), y3.2.1, ())))
                  (.node [] (x.2.2.1.1 == (2 : Int))
                    (let y3 := F35.fn (x.1, x.2.2.1, y0.1, ())
                    .req [] (x.2.2.1.1 == (2 : Int)) true
                      (.leaf [F35.pre (x.1, x.2.2.1, y0.1, ())] (y3.1, ([], ([], ((0 : Int), ((0 : Int), ((0 : Int), ((0 : Int), (0 : Int))))))), y3.2.1, ())))
                    (.node [] (x.2.2.1.1 == (13 : Int))
                      (let y3 := F35.fn (x.1, x.2.2.1, y0.1, ())
                      .leaf [F35.pre (x.1, x.2.2.1, y0.1, ())] (y3.1, ([], ([], ((0 : Int), ((0 : Int), ((0 : Int), ((0 : Int), (0 : Int))))))), y3.2.1, ()))
                      (.node [] (x.2.2.1.1 == (4 : Int))
                        (let y3 := F36.fn (x.1, x.2.2.1, y0.1, ())
                        .req [] (x.2.2.1.1 == (4 : Int)) true
                          (.leaf [F36.pre (x.1, x.2.2.1, y0.1, ())] (y3.1, ([], ([], ((0 : Int), ((0 : Int), ((0 : Int), ((0 : Int), (0 : Int))))))), y3.2.1, ())))
                        (.node [] (x.2.2.1.1 == (5 : Int))
                          (let y3 := F36.fn (x.1, x.2.2.1, y0.1, ())
                          .leaf [F36.pre (x.1, x.2.2.1, y0.1, ())] (y3.1, ([], ([], ((0 : Int), ((0 : Int), ((0 : Int), ((0 : Int), (0 : Int))))))), y3.2.1, ()))
                          (.node [] (x.2.2.1.1 == (3 : Int))
                            (let y3 := F37.fn (x.1, y0.1, y2.1, ())
                            .leaf [F37.pre (x.1, y0.1, y2.1, ())] (y3.1, ([], ([], ((0 : Int), ((0 : Int), ((0 : Int), ((0 : Int), (0 : Int))))))), y3.2.1, ()))
                            (.node [] (x.2.2.1.1 == (6 : Int))
                              (let y3 := F38.fn (x.1, y0.1, y2.1, ())
                              .leaf [F38.pre (x.1, y0.1, y2.1, ())] (y3.1, ([], ([], ((0 : Int), ((0 : Int), ((0 : Int), ((0 : Int), (0 : Int))))))), y3.2.1, ()))
                              (let y3 := F39.fn (x.1, x.2.2.1, y0.1, ())
                              .leaf [F39.pre (x.1, x.2.2.1, y0.1, ())] (y3.1, y3.2.1, y3.2.2.1, ())))))))))))
            (.node [] (y2.2.1 != (0 : Int))
              (.leaf [] (x.1, ([], ([], ((0 : Int), ((0 : Int), ((0 : Int), ((0 : Int), (0 : Int))))))), y2.2.1, ()))
              (.node [] (x.2.2.1.1 == (1 : Int))
                (let y3 := F35.fn (x.1, x.2.2.1, y0.1, ())
                .req [] (x.2.2.1.1 == (1 : Int)) true
                  (.leaf [F35.pre (x.1, x.2.2.1, y0.1, ())] (y3.1, ([], ([], ((0 : Int), ((0 : Int), ((0 : Int), ((0 : Int), (0 : Int))))))), y3.2.1, ())))
                (.node [] (x.2.2.1.1 == (2 : Int))
                  (let y3 := F35.fn (x.1, x.2.2.1, y0.1, ())
                  .req [] (x.2.2.1.1 == (2 : Int)) true
                    (.leaf [F35.pre (x.1, x.2.2.1, y0.1, ())] (y3.1, ([], ([], ((0 : Int), ((0 : Int), ((0 : Int), ((0 : Int), (0 : Int))))))), y3.2.1, ())))
                  (.node [] (x.2.2.1.1 == (13 : Int))
                    (let y3 := F35.fn (x.1, x.2.2.1, y0.1, ())
                    .leaf [F35.pre (x.1, x.2.2.1, y0.1, ())] (y3.1, ([], ([], ((0 : Int), ((0 : Int), ((0 : Int), ((0 : Int), (0 : Int))))))), y3.2.1, ()))
                    (.node [] (x.2.2.1.1 == (4 : Int))
                      (let y3 := F36.fn (x.1, x.2.2.1, y0.1, ())
                      .req [] (x.2.2.1.1 == (4 : Int)) true
                        (.leaf [F36.pre (x.1, x.2.2.1, y0.1, ())] (y3.1, ([], ([], ((0 : Int), ((0 : Int), ((0 : Int), ((0 : Int), (0 : Int))))))), y3.2.1, ())))
                      (.node [] (x.2.2.1.1 == (5 : Int))
                        (let y3 := F36.fn (x.1, x.2.2.1, y0.1, ())
                        .leaf [F36.pre (x.1, x.2.2.1, y0.1, ())] (y3.1, ([], ([], ((0 : Int), ((0 : Int), ((0 : Int), ((0 : Int), (0 : Int))))))), y3.2.1, ()))
                        (.node [] (x.2.2.1.1 == (3 : Int))
                          (let y3 := F37.fn (x.1, y0.1, y2.1, ())
                          .leaf [F37.pre (x.1, y0.1, y2.1, ())] (y3.1, ([], ([], ((0 : Int), ((0 : Int), ((0 : Int), ((0 : Int), (0 : Int))))))), y3.2.1, ()))
                          (.node [] (x.2.2.1.1 == (6 : Int))
                            (let y3 := F38.fn (x.1, y0.1, y2.1, ())
                            .leaf [F38.pre (x.1, y0.1, y2.1, ())] (y3.1, ([], ([], ((0 : Int), ((0 : Int), ((0 : Int), ((0 : Int), (0 : Int))))))), y3.2.1, ()))
                            (let y3 := F39.fn (x.1, x.2.2.1, y0.1, ())
                            .leaf [F39.pre (x.1, x.2.2.1, y0.1, ())] (y3.1, y3.2.1, y3.2.2.1, ())))))))))))
          (.req [] (y0.2.1 == (0 : Int)) true
            (.node [] x.2.1
              (let y2 := F34.fn (x.2.2.1, ())
              .node [F34.pre (x.2.2.1, ())] (!y2.1)
                (.leaf [] (x.1, ([], ([], ((0 : Int), ((0 : Int), ((0 : Int), ((0 : Int), (0 : Int))))))), (10 : Int), ()))
                (.node [] (y0.2.1 != (0 : Int))
                  (.leaf [] (x.1, ([], ([], ((0 : Int), ((0 : Int), ((0 : Int), ((0 : Int), (0 : Int))))))), y0.2.1, ()))
                  (.node [] (x.2.2.1.1 == (1 : Int))
                    (let y3 := F35.fn (x.1, x.2.2.1, y0.1, ())
                    .req [] (x.2.2.1.1 == (1 : Int)) true
                      (.leaf [F35.pre (x.1, x.2.2.1, y0.1, ())] (y3.1, ([], ([], ((0 : Int), ((0 : Int), ((0 : Int), ((0 : Int), (0 : Int))))))), y3.2.1, ())))
                    (.node [] (x.2.2.1.1 == (2 : Int))
                      (let y3 := F35.fn (x.1, x.2.2.1, y0.1, ())
                      .req [] (x.2.2.1.1 == (2 : Int)) true
                        (.leaf [F35.pre (x.1, x.2.2.1, y0.1, ())] (y3.1, ([], ([], ((0 : Int), ((0 : Int), ((0 : Int), ((0 : Int), (0 : Int))))))), y3.2.1, ())))
                      (.node [] (x.2.2.1.1 == (13 : Int))
                        (let y3 := F35.fn (x.1, x.2.2.1, y0.1, ())
                        .leaf [F35.pre (x.1, x.2.2.1, y0.1, ())] (y3.1, ([], ([], ((0 : Int), ((0 : Int), ((0 : Int), ((0 : Int), (0 : Int))))))), y3.2.1, ()))
                        (.node [] (x.2.2.1.1 == (4 : Int))
                          (let y3 := F36.fn (x.1, x.2.2.1, y0.1, ())
                          .req [] (x.2.2.1.1 == (4 : Int)) true
                            (.leaf [F36.pre (x.1, x.2.2.1, y0.1, ())] (y3.1, ([], ([], ((0 : Int), ((0 : Int), ((0 : Int), ((0 : Int), (0 : Int))))))), y3.2.1, ())))
                          (.node [] (x.2.2.1.1 == (5 : Int))
                            (let y3 := F36.fn (x.1, x.2.2.1, y0.1, ())
                            .leaf [F36.pre (x.1, x.2.2.1, y0.1, ())] (y3.1, ([], ([], ((0 : Int), ((0 : Int), ((0 : Int), ((0 : Int), (0 : Int))))))), y3.2.1, ()))
                            (.node [] (x.2.2.1.1 == (3 : Int))
                              (let y3 := F37.fn (x.1, y0.1, [], ())
                              .leaf [F37.pre (x.1, y0.1, [], ())] (y3.1, ([], ([], ((0 : Int), ((0 : Int), ((0 : Int), ((0 : Int), (0 : Int))))))), y3.2.1, ()))
                              (.node [] (x.2.2.1.1 == (6 : Int))
                                (let y3 := F38.fn (x.1, y0.1, [], ())
                                .leaf [F38.pre (x.1, y0.1, [], ())] (y3.1, ([], ([], ((0 : Int), ((0 : Int), ((0 : Int), ((0 : Int), (0 : Int))))))), y3.2.1, ()))
                                (let y3 := F39.fn (x.1, x.2.2.1, y0.1, ())
                                .leaf [F39.pre (x.1, x.2.2.1, y0.1, ())] (y3.1, y3.2.1, y3.2.2.1, ())))))))))))
              (.node [] (y0.2.1 != (0 : Int))
                (.leaf [] (x.1, ([], ([], ((0 : Int), ((0 : Int), ((0 : Int), ((0 : Int), (0 : Int))))))), y0.2.1, ()))
                (.node [] (x.2.2.1.1 == (1 : Int))
                  (let y2 := F35.fn (x.1, x.2.2.1, y0.1, ())
                  .req [] (x.2.2.1.1 == (1 : Int)) true
                    (.leaf [F35.pre (x.1, x.2.2.1, y0.1, ())] (y2.1, ([], ([], ((0 : Int), ((0 : Int), ((0 : Int), ((0 : Int), (0 : Int))))))), y2.2.1, ())))
                  (.node [] (x.2.2.1.1 == (2 : Int))
                    (let y2 := F35.fn (x.1, x.2.2.1, y0.1, ())
                    .req [] (x.2.2.1.1 == (2 : Int)) true
                      (.leaf [F35.pre (x.1, x.2.2.1, y0.1, ())] (y2.1, ([], ([], ((0 : Int), ((0 : Int), ((0 : Int), ((0 : Int), (0 : Int))))))), y2.2.1, ())))
                    (.node [] (x.2.2.1.1 == (13 : Int))
                      (let y2 := F35.fn (x.1, x.2.2.1, y0.1, ())
                      .leaf [F35.pre (x.1, x.2.2.1, y0.1, ())] (y2.1, ([], ([], ((0 : Int), ((0 : Int), ((0 : Int), ((0 : Int), (0 : Int))))))), y2.2.1, ()))
                      (.node [] (x.2.2.1.1 == (4 : Int))
                        (let y2 := F36.fn (x.1, x.2.2.1, y0.1, ())
                        .req [] (x.2.2.1.1 == (4 : Int)) true
                          (.leaf [F36.pre (x.1, x.2.2.1, y0.1, ())] (y2.1, ([], ([], ((0 : Int), ((0 : Int), ((0 : Int), ((0 : Int), (0 : Int))))))), y2.2.1, ())))
                        (.node [] (x.2.2.1.1 == (5 : Int))
                          (let y2 := F36.fn (x.1, x.2.2.1, y0.1, ())
                          .leaf [F36.pre (x.1, x.2.2.1, y0.1, ())] (y2.1, ([], ([], ((0 : Int), ((0 : Int), ((0 : Int), ((0 : Int), (0 : Int))))))), y2.2.1, ()))
                          (.node [] (x.2.2.1.1 == (3 : Int))
                            (let y2 := F37.fn (x.1, y0.1, [], ())
                            .leaf [F37.pre (x.1, y0.1, [], ())] (y2.1, ([], ([], ((0 : Int), ((0 : Int), ((0 : Int), ((0 : Int), (0 : Int))))))), y2.2.1, ()))
                            (.node [] (x.2.2.1.1 == (6 : Int))
                              (let y2 := F38.fn (x.1, y0.1, [], ())
                              .leaf [F38.pre (x.1, y0.1, [], ())] (y2.1, ([], ([], ((0 : Int), ((0 : Int), ((0 : Int), ((0 : Int), (0 : Int))))))), y2.2.1, ()))
                              (let y2 := F39.fn (x.1, x.2.2.1, y0.1, ())
                              .leaf [F39.pre (x.1, x.2.2.1, y0.1, ())] (y2.1, y2.2.1, y2.2.2.1, ())))))))))))))
        (.req [] (y0.2.1 == (0 : Int)) false
          (.node [] (y0.2.1 != (0 : Int))
            (.leaf [] (x.1, ([], ([], ((0 : Int), ((0 : Int), ((0 : Int), ((0 : Int), (0 : Int))))))), y0.2.1, ()))
            (.node [] (x.2.2.1.1 == (1 : Int))
              (let y1 := F35.fn (x.1, x.2.2.1, y0.1, ())
              .req [] (x.2.2.1.1 == (1 : Int)) true
                (.leaf [F35.pre (x.1, x.2.2.1, y0.1, ())] (y1.1, ([], ([], ((0 : Int), ((0 : Int), ((0 : Int), ((0 : Int), (0 : Int))))))), y1.2.1, ())))
              (.node [] (x.2.2.1.1 == (2 : Int))
                (let y1 := F35.fn (x.1, x.2.2.1, y0.1, ())
                .req [] (x.2.2.1.1 == (2 : Int)) true
                  (.leaf [F35.pre (x.1, x.2.2.1, y0.1, ())] (y1.1, ([], ([], ((0 : Int), ((0 : Int), ((0 : Int), ((0 : Int), (0 : Int))))))), y1.2.1, ())))
                (.node [] (x.2.2.1.1 == (13 : Int))
                  (let y1 := F35.fn (x.1, x.2.2.1, y0.1, ())
                  .leaf [F35.pre (x.1, x.2.2.1, y0.1, ())] (y1.1, ([], ([], ((0 : Int), ((0 : Int), ((0 : Int), ((0 : Int), (0 : Int))))))), y1.2.1, ()))
                  (.node [] (x.2.2.1.1 == (4 : Int))
                    (let y1 := F36.fn (x.1, x.2.2.1, y0.1, ())
                    .req [] (x.2.2.1.1 == (4 : Int)) true
                      (.leaf [F36.pre (x.1, x.2.2.1, y0.1, ())] (y1.1, ([], ([], ((0 : Int), ((0 : Int), ((0 : Int), ((0 : Int), (0 : Int))))))), y1.2.1, ())))
                    (.node [] (x.2.2.1.1 == (5 : Int))
                      (let y1 := F36.fn (x.1, x.2.2.1, y0.1, ())
                      .leaf [F36.pre (x.1, x.2.2.1, y0.1, ())] (y1.1, ([], ([], ((0 : Int), ((0 : Int), ((0 : Int), ((0 : Int), (0 : Int))))))), y1.2.1, ()))
                      (.node [] (x.2.2.1.1 == (3 : Int))
                        (let y1 := F37.fn (x.1, y0.1, [], ())
                        .leaf [F37.pre (x.1, y0.1, [], ())] (y1.1, ([], ([], ((0 : Int), ((0 : Int), ((0 : Int), ((0 : Int), (0 : Int))))))), y1.2.1, ()))
                        (.node [] (x.2.2.1.1 == (6 : Int))
                          (let y1 := F38.fn (x.1, y0.1, [], ())
                          .leaf [F38.pre (x.1, y0.1, [], ())] (y1.1, ([], ([], ((0 : Int), ((0 : Int), ((0 : Int), ((0 : Int), (0 : Int))))))), y1.2.1, ()))
                          (let y1 := F39.fn (x.1, x.2.2.1, y0.1, ())
                          .leaf [F39.pre (x.1, x.2.2.1, y0.1, ())] (y1.1, y1.2.1, y1.2.2.1, ())))))))))))))
abbrev F18A : List AT := [.v (.agg Dk), .v (.one .bool), .v (.agg (.cons (.int .i64) (.cons .str (.cons .str (.cons (.int .i64) (.cons (.int .i64) Bk))))))]
abbrev F18B : List AT := [.v (.agg Dk), .v (.agg (.cons (.row (.one (.int .u8))) (.cons (.row (.one .str)) (.cons (.int .i64) (.cons (.int .i64) Rw))))), .v (.one (.int .i64))]
theorem F18is : ∀ x, DT.Is (runF Try.prog cfg73 1000 noL 18 F18A F18B x) (F18 x) := fun x => by unfold DT.Is; kernel_rfl
noncomputable def F18.fn (x : Dkt × Bool × (Int × List UInt8 × List UInt8 × Int × Int × Int × List (Int)) × Unit) : Dkt × (List (Int) × List (List UInt8) × Int × Int × Int × Int × Int) × Int × Unit := (F18 x).fn
noncomputable def F18.pre (x : Dkt × Bool × (Int × List UInt8 × List UInt8 × Int × Int × Int × List (Int)) × Unit) : Prop := (F18 x).pre
theorem F18ok : DataOk Try.prog 18 F18A F18B F18.pre F18.fn := data_of_tree F18A F18B F18 cfg73ok FnLoops.none F18is
noncomputable def F18C : Con Try.prog := conD 18 F18A F18B F18.pre F18.fn F18ok (by kernel_rfl)
noncomputable def cfgL74 : List (Con Try.prog) := F18C :: cfgL73
noncomputable def cfg74 : Cfg := cfgOf cfgL74
theorem cfg74ok : CfgOk Try.prog cfg74 := cfgOf_ok cfgnamed cfgmixed _
/-! 8 veneer/veneerref8.Run -/
def F8L0S : Shape := ⟨[(1, .v (.one (.row (.cons (.int .i64) (.cons .str (.cons .str (.cons (.int .i64) (.cons (.int .i64) Bk)))))))), (2, .val (.ptr 0 0)), (4, .val (.ptr 1 0)), (5, .v (.one (.int .i64)))], [(0, 4, [.v (.one (.int .i64)), .v (.one (.int .i64)), .v (.one (.int .i64)), .v (.one (.row Nd))]), (1, 4, [.v (.one (.int .i64)), .v (.one (.int .i64)), .v (.one (.int .i64)), .val .nils])], 2⟩
def F8L0S0 : Shape := ⟨[(2, .val (.ptr 0 0)), (4, .val (.ptr 1 0))], [(0, 4, [.v (.one (.int .i64)), .v (.one (.int .i64)), .v (.one (.int .i64)), .v (.one (.row Nd))]), (1, 4, [.v (.one (.int .i64)), .v (.one (.int .i64)), .v (.one (.int .i64)), .val .nils])], 2⟩
def F8L0X : List (Option Nat × Shape) := [(some 0, F8L0S0)]
noncomputable def F8L0 (x : List (Int × List UInt8 × List UInt8 × Int × Int × Int × List (Int)) × Unit × Unit × Int × Int × Int × Int × List Ndt × Int × Int × Int × Unit × Unit) : DT ((List (Int × List UInt8 × List UInt8 × Int × Int × Int × List (Int)) × Unit × Unit × Int × Int × Int × Int × List Ndt × Int × Int × Int × Unit × Unit) ⊕ ((Unit × Unit × Int × Int × Int × List Ndt × Int × Int × Int × Unit × Unit) ⊕ Empty)) :=
  .node [] (decide (x.2.2.2.1 < (Int.ofNat (List.length x.1))))
    (let y0 := F18.fn ((x.2.2.2.2.1, (x.2.2.2.2.2.1, (x.2.2.2.2.2.2.1, x.2.2.2.2.2.2.2.1))), false, (@id (Int × List UInt8 × List UInt8 × Int × Int × Int × List (Int)) (xsAt (.cons (.int .i64) (.cons .str (.cons .str (.cons (.int .i64) (.cons (.int .i64) Bk))))) x.1 (Int.toNat x.2.2.2.1))), ())
    .leaf [F18.pre ((x.2.2.2.2.1, (x.2.2.2.2.2.1, (x.2.2.2.2.2.2.1, x.2.2.2.2.2.2.2.1))), false, (@id (Int × List UInt8 × List UInt8 × Int × Int × Int × List (Int)) (xsAt (.cons (.int .i64) (.cons .str (.cons .str (.cons (.int .i64) (.cons (.int .i64) Bk))))) x.1 (Int.toNat x.2.2.2.1))), ()), 0 ≤ x.2.2.2.1, x.2.2.2.1 < Int.ofNat (List.length x.1)] (.inl (x.1, (), (), (wrp .i64 (x.2.2.2.1 + (1 : Int))), y0.1.1, y0.1.2.1, y0.1.2.2.1, y0.1.2.2.2, x.2.2.2.2.2.2.2.2.1, x.2.2.2.2.2.2.2.2.2.1, x.2.2.2.2.2.2.2.2.2.2.1, (), ())))
    (.leaf [] (.inr (.inl ((), (), x.2.2.2.2.1, x.2.2.2.2.2.1, x.2.2.2.2.2.2.1, x.2.2.2.2.2.2.2.1, x.2.2.2.2.2.2.2.2.1, x.2.2.2.2.2.2.2.2.2.1, x.2.2.2.2.2.2.2.2.2.2.1, (), ()))))
noncomputable def F8 (x : Dkt × List (Int × List UInt8 × List UInt8 × Int × Int × Int × List (Int)) × Unit) : DT (Dkt × Unit) :=
  let y0 := loopOut F8L0 (x.2.1, (), (), (0 : Int), x.1.1, x.1.2.1, x.1.2.2.1, x.1.2.2.2, (0 : Int), (0 : Int), (0 : Int), (), ())
  let y1 : Unit × Unit × Int × Int × Int × List Ndt × Int × Int × Int × Unit × Unit := getL (Shape.z F8L0S0) y0
  .leaf [loopInv F8L0 (x.2.1, (), (), (0 : Int), x.1.1, x.1.2.1, x.1.2.2.1, x.1.2.2.2, (0 : Int), (0 : Int), (0 : Int), (), ())] ((y1.2.2.1, (y1.2.2.2.1, (y1.2.2.2.2.1, y1.2.2.2.2.2.1))), ())
abbrev F8A : List AT := [.v (.agg Dk), .v (.one (.row (.cons (.int .i64) (.cons .str (.cons .str (.cons (.int .i64) (.cons (.int .i64) Bk)))))))]
abbrev F8B : List AT := [.v (.agg Dk)]
noncomputable def F8R : List (Nat × Rule) := [(0, ruleOf F8L0S F8L0X F8L0)]
theorem F8L0is : ∀ x, DT.Is (runL Try.prog cfg74 1000 (lsOf F8R) 8 0 F8L0S F8L0X x) (F8L0 x) := fun x => by unfold DT.Is; kernel_rfl
theorem F8is : ∀ x, DT.Is (runF Try.prog cfg74 1000 (lsOf F8R) 8 F8A F8B x) (F8 x) := fun x => by unfold DT.Is; kernel_rfl
noncomputable def F8.fn (x : Dkt × List (Int × List UInt8 × List UInt8 × Int × Int × Int × List (Int)) × Unit) : Dkt × Unit := (F8 x).fn
noncomputable def F8.pre (x : Dkt × List (Int × List UInt8 × List UInt8 × Int × Int × Int × List (Int)) × Unit) : Prop := (F8 x).pre
theorem F8ok : DataOk Try.prog 8 F8A F8B F8.pre F8.fn := data_of_tree F8A F8B F8 cfg74ok (.of_all cfg74ok (.cons (rule_of_tree F8L0S F8L0X F8L0 (F8L0is)) .nil)) F8is
noncomputable def F8C : Con Try.prog := conD 8 F8A F8B F8.pre F8.fn F8ok (by kernel_rfl)
noncomputable def cfgL75 : List (Con Try.prog) := F8C :: cfgL74
noncomputable def cfg75 : Cfg := cfgOf cfgL75
theorem cfg75ok : CfgOk Try.prog cfg75 := cfgOf_ok cfgnamed cfgmixed _
/-! 26 veneer/seen.Limit -/
noncomputable def F26 (x : Wdt × List Spt × List UInt8 × Unit) : DT (Int × Unit) :=
  let y0 := F19.fn (x.1, x.2.1, x.2.2.1, ())
  .leaf [F19.pre (x.1, x.2.1, x.2.2.1, ())] (y0.2.1, ())
abbrev F26A : List AT := [.v (.agg Wd), .v (.one (.row Sp)), .v (.one .str)]
abbrev F26B : List AT := [.v (.one (.int .i64))]
theorem F26is : ∀ x, DT.Is (runF Try.prog cfg75 1000 noL 26 F26A F26B x) (F26 x) := fun x => by unfold DT.Is; kernel_rfl
noncomputable def F26.fn (x : Wdt × List Spt × List UInt8 × Unit) : Int × Unit := (F26 x).fn
noncomputable def F26.pre (x : Wdt × List Spt × List UInt8 × Unit) : Prop := (F26 x).pre
theorem F26ok : DataOk Try.prog 26 F26A F26B F26.pre F26.fn := data_of_tree F26A F26B F26 cfg75ok FnLoops.none F26is
noncomputable def F26C : Con Try.prog := conD 26 F26A F26B F26.pre F26.fn F26ok (by kernel_rfl)
noncomputable def cfgL76 : List (Con Try.prog) := F26C :: cfgL75
noncomputable def cfg76 : Cfg := cfgOf cfgL76
theorem cfg76ok : CfgOk Try.prog cfg76 := cfgOf_ok cfgnamed cfgmixed _
/-! 27 veneer/seen.Cover -/
def F27L0S : Shape := ⟨[(2, .v (.one .str)), (3, .val (.ptr 0 0)), (9, .v (.one (.row Sp))), (10, .v (.one (.int .i64))), (11, .v (.one (.int .i64)))], [(0, 7, [.v (.one (.row (.one (.int .i64)))), .v (.one (.int .i64)), .v (.one (.row Dk)), .v (.one (.int .i64)), .v (.one (.row Rw)), .v (.one (.row Rw)), .v (.one (.int .i64))])], 1⟩
def F27L0S0 : Shape := ⟨[(6, .v (.one (.int .i64)))], [], 1⟩
def F27L0S1 : Shape := ⟨[(3, .val (.ptr 0 0))], [(0, 7, [.v (.one (.row (.one (.int .i64)))), .v (.one (.int .i64)), .v (.one (.row Dk)), .v (.one (.int .i64)), .v (.one (.row Rw)), .v (.one (.row Rw)), .v (.one (.int .i64))])], 1⟩
def F27L0X : List (Option Nat × Shape) := [(none, F27L0S0), (some 0, F27L0S1)]
noncomputable def F27L0 (x : List UInt8 × Unit × List Spt × Int × Int × List (Int) × Int × List Dkt × Int × List Rwt × List Rwt × Int × Unit) : DT ((List UInt8 × Unit × List Spt × Int × Int × List (Int) × Int × List Dkt × Int × List Rwt × List Rwt × Int × Unit) ⊕ ((Int × Unit) ⊕ (Unit × List (Int) × Int × List Dkt × Int × List Rwt × List Rwt × Int × Unit) ⊕ Empty)) :=
  .node [] (decide (x.2.2.2.2.1 < x.2.2.2.1))
    (let y0 := F42.fn (x.1, ())
    let y1 := F41.fn ((x.2.2.2.2.2.1, (x.2.2.2.2.2.2.1, (x.2.2.2.2.2.2.2.1, (x.2.2.2.2.2.2.2.2.1, (x.2.2.2.2.2.2.2.2.2.1, (x.2.2.2.2.2.2.2.2.2.2.1, x.2.2.2.2.2.2.2.2.2.2.2.1)))))), (@id (Spt) (xsAt Sp x.2.2.1 (Int.toNat x.2.2.2.2.1))), y0.1, ())
    .node [F41.pre ((x.2.2.2.2.2.1, (x.2.2.2.2.2.2.1, (x.2.2.2.2.2.2.2.1, (x.2.2.2.2.2.2.2.2.1, (x.2.2.2.2.2.2.2.2.2.1, (x.2.2.2.2.2.2.2.2.2.2.1, x.2.2.2.2.2.2.2.2.2.2.2.1)))))), (@id (Spt) (xsAt Sp x.2.2.1 (Int.toNat x.2.2.2.2.1))), y0.1, ()), F42.pre (x.1, ()), (let r : List AV := [.agg [.x (.row (.one (.int .i64)) x.2.2.2.2.2.1), .x (.i .i64 x.2.2.2.2.2.2.1), .x (.row Dk x.2.2.2.2.2.2.2.1), .x (.i .i64 x.2.2.2.2.2.2.2.2.1), .x (.row (.cons (.int .i64) Sp) x.2.2.2.2.2.2.2.2.2.1), .x (.row (.cons (.int .i64) Sp) x.2.2.2.2.2.2.2.2.2.2.1), .x (.i .i64 x.2.2.2.2.2.2.2.2.2.2.2.1)]]; r = r), (let r : List AV := [.agg [.x (.i .i64 (@id (Spt) (xsAt Sp x.2.2.1 (Int.toNat x.2.2.2.2.1))).1), .x (.i .i64 (@id (Spt) (xsAt Sp x.2.2.1 (Int.toNat x.2.2.2.2.1))).2)]]; r = r), 0 ≤ x.2.2.2.2.1, x.2.2.2.2.1 < Int.ofNat (List.length x.2.2.1)] y1.1
      (.leaf [] (.inr (.inl ((@id (Spt) (xsAt Sp x.2.2.1 (Int.toNat x.2.2.2.2.1))).1, ()))))
      (.leaf [] (.inl (x.1, (), x.2.2.1, x.2.2.2.1, (wrp .i64 (x.2.2.2.2.1 + (1 : Int))), x.2.2.2.2.2.1, x.2.2.2.2.2.2.1, x.2.2.2.2.2.2.2.1, x.2.2.2.2.2.2.2.2.1, x.2.2.2.2.2.2.2.2.2.1, x.2.2.2.2.2.2.2.2.2.2.1, x.2.2.2.2.2.2.2.2.2.2.2.1, ()))))
    (.leaf [] (.inr (.inr (.inl ((), x.2.2.2.2.2.1, x.2.2.2.2.2.2.1, x.2.2.2.2.2.2.2.1, x.2.2.2.2.2.2.2.2.1, x.2.2.2.2.2.2.2.2.2.1, x.2.2.2.2.2.2.2.2.2.2.1, x.2.2.2.2.2.2.2.2.2.2.2.1, ())))))
noncomputable def F27 (x : Wdt × List Spt × List UInt8 × Unit) : DT (Int × Unit) :=
  let y0 := loopOut F27L0 (x.2.2.1, (), x.2.1, (Int.ofNat (List.length x.2.1)), (0 : Int), x.1.1, x.1.2.1, x.1.2.2.1, x.1.2.2.2.1, x.1.2.2.2.2.1, x.1.2.2.2.2.2.1, x.1.2.2.2.2.2.2, ())
  .node [loopInv F27L0 (x.2.2.1, (), x.2.1, (Int.ofNat (List.length x.2.1)), (0 : Int), x.1.1, x.1.2.1, x.1.2.2.1, x.1.2.2.2.1, x.1.2.2.2.2.1, x.1.2.2.2.2.2.1, x.1.2.2.2.2.2.2, ())] (isL y0)
    (let y1 : Int × Unit := getL (Shape.z F27L0S0) y0
    .leaf [] (y1.1, ()))
    (let y1 : Unit × List (Int) × Int × List Dkt × Int × List Rwt × List Rwt × Int × Unit := getL (Shape.z F27L0S1) (restR y0)
    .leaf [] ((Int.ofNat (List.length y1.2.2.2.1)), ()))
abbrev F27A : List AT := [.v (.agg Wd), .v (.one (.row Sp)), .v (.one .str)]
abbrev F27B : List AT := [.v (.one (.int .i64))]
noncomputable def F27R : List (Nat × Rule) := [(0, ruleOf F27L0S F27L0X F27L0)]
theorem F27L0is : ∀ x, DT.Is (runL Try.prog cfg76 1000 (lsOf F27R) 27 0 F27L0S F27L0X x) (F27L0 x) := fun x => by unfold DT.Is; kernel_rfl
theorem F27is : ∀ x, DT.Is (runF Try.prog cfg76 1000 (lsOf F27R) 27 F27A F27B x) (F27 x) := fun x => by unfold DT.Is; kernel_rfl
noncomputable def F27.fn (x : Wdt × List Spt × List UInt8 × Unit) : Int × Unit := (F27 x).fn
noncomputable def F27.pre (x : Wdt × List Spt × List UInt8 × Unit) : Prop := (F27 x).pre
theorem F27ok : DataOk Try.prog 27 F27A F27B F27.pre F27.fn := data_of_tree F27A F27B F27 cfg76ok (.of_all cfg76ok (.cons (rule_of_tree F27L0S F27L0X F27L0 (F27L0is)) .nil)) F27is
noncomputable def F27C : Con Try.prog := conD 27 F27A F27B F27.pre F27.fn F27ok (by kernel_rfl)
noncomputable def cfgL77 : List (Con Try.prog) := F27C :: cfgL76
noncomputable def cfg77 : Cfg := cfgOf cfgL77
theorem cfg77ok : CfgOk Try.prog cfg77 := cfgOf_ok cfgnamed cfgmixed _
/-! 4 veneer/veneerlaw11.SeenHides -/
def F4L0S : Shape := ⟨[(0, .v (.one (.row (.one (.int .i64))))), (1, .v (.one (.int .i64))), (2, .v (.one (.row (.one .bool)))), (3, .v (.one (.int .i64))), (10, .val (.ptr 1 0)), (11, .v (.one (.int .i64)))], [(1, 7, [.v (.one (.row (.one (.int .i64)))), .v (.one (.int .i64)), .own Dk, .v (.one (.int .i64)), .val .nils, .val .nils, .v (.one (.int .i64))])], 2⟩
def F4L0S0 : Shape := ⟨[(0, .v (.one (.row (.one (.int .i64))))), (1, .v (.one (.int .i64))), (2, .v (.one (.row (.one .bool)))), (3, .v (.one (.int .i64))), (10, .val (.ptr 1 0))], [(1, 7, [.v (.one (.row (.one (.int .i64)))), .v (.one (.int .i64)), .own Dk, .v (.one (.int .i64)), .val .nils, .val .nils, .v (.one (.int .i64))])], 2⟩
def F4L0X : List (Option Nat × Shape) := [(some 0, F4L0S0)]
noncomputable def F4L0 (x : List (Int) × Int × List (Bool) × Int × Unit × Int × List (Int) × Int × List Dkt × Int × Unit × Unit × Int × Unit) : DT ((List (Int) × Int × List (Bool) × Int × Unit × Int × List (Int) × Int × List Dkt × Int × Unit × Unit × Int × Unit) ⊕ ((List (Int) × Int × List (Bool) × Int × Unit × List (Int) × Int × List Dkt × Int × Unit × Unit × Int × Unit) ⊕ Empty)) :=
  .node [] (decide (x.2.2.2.2.2.1 < (Int.ofNat (List.length x.1))))
    (let y0 := F5.fn ((9 : Int), (9 : Int), ())
    .node [F5.pre ((9 : Int), (9 : Int), ())] (decide (x.2.2.2.2.2.1 ≥ x.2.2.2.1))
      (.node [0 ≤ x.2.2.2.2.2.1, x.2.2.2.2.2.1 < Int.ofNat (List.length x.2.2.1)] (@id (Bool) (xsAt (.one .bool) x.2.2.1 (Int.toNat x.2.2.2.2.2.1)))
        (let y1 := F15.fn (y0.1, (1 : Int), (dec 1 97 []), ((0 : Int), ((2 : Int), ((0 : Int), ((0 : Int), ((0 : Int), ([], ((dec 0 0 []), []))))))), ())
        .node [F15.pre (y0.1, (1 : Int), (dec 1 97 []), ((0 : Int), ((2 : Int), ((0 : Int), ((0 : Int), ((0 : Int), ([], ((dec 0 0 []), []))))))), ())] (x.2.2.2.2.2.1 == x.2.1)
          (let y2 := F16.fn ((dec 1 97 []), ())
          let y3 := F15.fn (y1.1, (1 : Int), y2.1, ((0 : Int), ((1 : Int), ((0 : Int), ((0 : Int), ((0 : Int), ([], ((dec 0 0 []), []))))))), ())
          .leaf [(List.length (x.2.2.2.2.2.2.2.2.1 ++ (y3.1 :: []))) * 48 ≤ Room, F15.pre (y1.1, (1 : Int), y2.1, ((0 : Int), ((1 : Int), ((0 : Int), ((0 : Int), ((0 : Int), ([], ((dec 0 0 []), []))))))), ()), F16.pre ((dec 1 97 []), ()), (let r : List AV := [.agg [.x (.i .i64 y1.1.1), .x (.i .i64 y1.1.2.1), .x (.i .i64 y1.1.2.2.1), .x (.row Nd y1.1.2.2.2)]]; r = r)] (.inl (x.1, x.2.1, x.2.2.1, x.2.2.2.1, (), (wrp .i64 (x.2.2.2.2.2.1 + (1 : Int))), x.2.2.2.2.2.2.1, x.2.2.2.2.2.2.2.1, (x.2.2.2.2.2.2.2.2.1 ++ (y3.1 :: [])), x.2.2.2.2.2.2.2.2.2.1, (), (), x.2.2.2.2.2.2.2.2.2.2.2.2.1, ())))
          (.leaf [(List.length (x.2.2.2.2.2.2.2.2.1 ++ (y1.1 :: []))) * 48 ≤ Room] (.inl (x.1, x.2.1, x.2.2.1, x.2.2.2.1, (), (wrp .i64 (x.2.2.2.2.2.1 + (1 : Int))), x.2.2.2.2.2.2.1, x.2.2.2.2.2.2.2.1, (x.2.2.2.2.2.2.2.2.1 ++ (y1.1 :: [])), x.2.2.2.2.2.2.2.2.2.1, (), (), x.2.2.2.2.2.2.2.2.2.2.2.2.1, ()))))
        (let y1 := F15.fn (y0.1, (1 : Int), (dec 1 97 []), ((0 : Int), ((1 : Int), ((0 : Int), ((0 : Int), ((0 : Int), ([], ((dec 0 0 []), []))))))), ())
        .node [F15.pre (y0.1, (1 : Int), (dec 1 97 []), ((0 : Int), ((1 : Int), ((0 : Int), ((0 : Int), ((0 : Int), ([], ((dec 0 0 []), []))))))), ())] (x.2.2.2.2.2.1 == x.2.1)
          (let y2 := F16.fn ((dec 1 97 []), ())
          let y3 := F15.fn (y1.1, (1 : Int), y2.1, ((0 : Int), ((1 : Int), ((0 : Int), ((0 : Int), ((0 : Int), ([], ((dec 0 0 []), []))))))), ())
          .leaf [(List.length (x.2.2.2.2.2.2.2.2.1 ++ (y3.1 :: []))) * 48 ≤ Room, F15.pre (y1.1, (1 : Int), y2.1, ((0 : Int), ((1 : Int), ((0 : Int), ((0 : Int), ((0 : Int), ([], ((dec 0 0 []), []))))))), ()), F16.pre ((dec 1 97 []), ()), (let r : List AV := [.agg [.x (.i .i64 y1.1.1), .x (.i .i64 y1.1.2.1), .x (.i .i64 y1.1.2.2.1), .x (.row Nd y1.1.2.2.2)]]; r = r)] (.inl (x.1, x.2.1, x.2.2.1, x.2.2.2.1, (), (wrp .i64 (x.2.2.2.2.2.1 + (1 : Int))), x.2.2.2.2.2.2.1, x.2.2.2.2.2.2.2.1, (x.2.2.2.2.2.2.2.2.1 ++ (y3.1 :: [])), x.2.2.2.2.2.2.2.2.2.1, (), (), x.2.2.2.2.2.2.2.2.2.2.2.2.1, ())))
          (.leaf [(List.length (x.2.2.2.2.2.2.2.2.1 ++ (y1.1 :: []))) * 48 ≤ Room] (.inl (x.1, x.2.1, x.2.2.1, x.2.2.2.1, (), (wrp .i64 (x.2.2.2.2.2.1 + (1 : Int))), x.2.2.2.2.2.2.1, x.2.2.2.2.2.2.2.1, (x.2.2.2.2.2.2.2.2.1 ++ (y1.1 :: [])), x.2.2.2.2.2.2.2.2.2.1, (), (), x.2.2.2.2.2.2.2.2.2.2.2.2.1, ())))))
      (.node [] (x.2.2.2.2.2.1 == x.2.1)
        (let y1 := F16.fn ((dec 1 97 []), ())
        let y2 := F15.fn (y0.1, (1 : Int), y1.1, ((0 : Int), ((1 : Int), ((0 : Int), ((0 : Int), ((0 : Int), ([], ((dec 0 0 []), []))))))), ())
        .leaf [(List.length (x.2.2.2.2.2.2.2.2.1 ++ (y2.1 :: []))) * 48 ≤ Room, F15.pre (y0.1, (1 : Int), y1.1, ((0 : Int), ((1 : Int), ((0 : Int), ((0 : Int), ((0 : Int), ([], ((dec 0 0 []), []))))))), ()), F16.pre ((dec 1 97 []), ()), (let r : List AV := [.agg [.x (.i .i64 y0.1.1), .x (.i .i64 y0.1.2.1), .x (.i .i64 y0.1.2.2.1), .x (.row Nd y0.1.2.2.2)]]; r = r)] (.inl (x.1, x.2.1, x.2.2.1, x.2.2.2.1, (), (wrp .i64 (x.2.2.2.2.2.1 + (1 : Int))), x.2.2.2.2.2.2.1, x.2.2.2.2.2.2.2.1, (x.2.2.2.2.2.2.2.2.1 ++ (y2.1 :: [])), x.2.2.2.2.2.2.2.2.2.1, (), (), x.2.2.2.2.2.2.2.2.2.2.2.2.1, ())))
        (.leaf [(List.length (x.2.2.2.2.2.2.2.2.1 ++ (y0.1 :: []))) * 48 ≤ Room] (.inl (x.1, x.2.1, x.2.2.1, x.2.2.2.1, (), (wrp .i64 (x.2.2.2.2.2.1 + (1 : Int))), x.2.2.2.2.2.2.1, x.2.2.2.2.2.2.2.1, (x.2.2.2.2.2.2.2.2.1 ++ (y0.1 :: [])), x.2.2.2.2.2.2.2.2.2.1, (), (), x.2.2.2.2.2.2.2.2.2.2.2.2.1, ())))))
    (.leaf [] (.inr (.inl (x.1, x.2.1, x.2.2.1, x.2.2.2.1, (), x.2.2.2.2.2.2.1, x.2.2.2.2.2.2.2.1, x.2.2.2.2.2.2.2.2.1, x.2.2.2.2.2.2.2.2.2.1, (), (), x.2.2.2.2.2.2.2.2.2.2.2.2.1, ()))))
def F4L1S : Shape := ⟨[(0, .v (.one (.row (.one (.int .i64))))), (1, .v (.one (.int .i64))), (2, .v (.one (.row (.one .bool)))), (10, .val (.ptr 1 0)), (14, .v (.one .bool)), (15, .own Sp), (16, .v (.one (.int .i64)))], [(1, 7, [.v (.one (.row (.one (.int .i64)))), .v (.one (.int .i64)), .own Dk, .v (.one (.int .i64)), .val .nils, .val .nils, .v (.one (.int .i64))])], 3⟩
def F4L1S0 : Shape := ⟨[(10, .val (.ptr 1 0)), (15, .own Sp)], [(1, 7, [.v (.one (.row (.one (.int .i64)))), .v (.one (.int .i64)), .own Dk, .v (.one (.int .i64)), .val .nils, .val .nils, .v (.one (.int .i64))])], 3⟩
def F4L1X : List (Option Nat × Shape) := [(some 2, F4L1S0)]
noncomputable def F4L1 (x : List (Int) × Int × List (Bool) × Unit × Bool × List Spt × Int × List (Int) × Int × List Dkt × Int × Unit × Unit × Int × Unit) : DT ((List (Int) × Int × List (Bool) × Unit × Bool × List Spt × Int × List (Int) × Int × List Dkt × Int × Unit × Unit × Int × Unit) ⊕ ((Unit × List Spt × List (Int) × Int × List Dkt × Int × Unit × Unit × Int × Unit) ⊕ Empty)) :=
  .node [] (decide (x.2.2.2.2.2.2.1 < (Int.ofNat (List.length x.1))))
    (.node [] (decide ((Int.ofNat (List.length x.2.2.2.2.2.1)) > (0 : Int)))
      (.node [0 ≤ x.2.2.2.2.2.2.1, x.2.2.2.2.2.2.1 < Int.ofNat (List.length x.2.2.1)] (!(@id (Bool) (xsAt (.one .bool) x.2.2.1 (Int.toNat x.2.2.2.2.2.2.1))))
        (.leaf [] (.inr (.inl ((), x.2.2.2.2.2.1, x.2.2.2.2.2.2.2.1, x.2.2.2.2.2.2.2.2.1, x.2.2.2.2.2.2.2.2.2.1, x.2.2.2.2.2.2.2.2.2.2.1, (), (), x.2.2.2.2.2.2.2.2.2.2.2.2.2.1, ()))))
        (.node [] x.2.2.2.2.1
          (.node [] (decide (x.2.2.2.2.2.2.1 > x.2.1))
            (.leaf [] (.inr (.inl ((), x.2.2.2.2.2.1, x.2.2.2.2.2.2.2.1, x.2.2.2.2.2.2.2.2.1, x.2.2.2.2.2.2.2.2.2.1, x.2.2.2.2.2.2.2.2.2.2.1, (), (), x.2.2.2.2.2.2.2.2.2.2.2.2.2.1, ()))))
            (.req [0 ≤ x.2.2.2.2.2.2.1, x.2.2.2.2.2.2.1 < Int.ofNat (List.length x.2.2.1), (List.length (x.2.2.2.2.2.1 ++ ((x.2.2.2.2.2.2.1, (2 : Int)) :: []))) * 16 ≤ Room] (!(@id (Bool) (xsAt (.one .bool) x.2.2.1 (Int.toNat x.2.2.2.2.2.2.1)))) false
              (.leaf [] (.inl (x.1, x.2.1, x.2.2.1, (), x.2.2.2.2.1, (x.2.2.2.2.2.1 ++ ((x.2.2.2.2.2.2.1, (2 : Int)) :: [])), (wrp .i64 (x.2.2.2.2.2.2.1 + (1 : Int))), x.2.2.2.2.2.2.2.1, x.2.2.2.2.2.2.2.2.1, x.2.2.2.2.2.2.2.2.2.1, x.2.2.2.2.2.2.2.2.2.2.1, (), (), x.2.2.2.2.2.2.2.2.2.2.2.2.2.1, ())))))
          (.req [0 ≤ x.2.2.2.2.2.2.1, x.2.2.2.2.2.2.1 < Int.ofNat (List.length x.2.2.1), (List.length (x.2.2.2.2.2.1 ++ ((x.2.2.2.2.2.2.1, (2 : Int)) :: []))) * 16 ≤ Room] (!(@id (Bool) (xsAt (.one .bool) x.2.2.1 (Int.toNat x.2.2.2.2.2.2.1)))) false
            (.leaf [] (.inl (x.1, x.2.1, x.2.2.1, (), x.2.2.2.2.1, (x.2.2.2.2.2.1 ++ ((x.2.2.2.2.2.2.1, (2 : Int)) :: [])), (wrp .i64 (x.2.2.2.2.2.2.1 + (1 : Int))), x.2.2.2.2.2.2.2.1, x.2.2.2.2.2.2.2.2.1, x.2.2.2.2.2.2.2.2.2.1, x.2.2.2.2.2.2.2.2.2.2.1, (), (), x.2.2.2.2.2.2.2.2.2.2.2.2.2.1, ()))))))
      (.node [] x.2.2.2.2.1
        (.node [] (decide (x.2.2.2.2.2.2.1 > x.2.1))
          (.leaf [] (.inr (.inl ((), x.2.2.2.2.2.1, x.2.2.2.2.2.2.2.1, x.2.2.2.2.2.2.2.2.1, x.2.2.2.2.2.2.2.2.2.1, x.2.2.2.2.2.2.2.2.2.2.1, (), (), x.2.2.2.2.2.2.2.2.2.2.2.2.2.1, ()))))
          (.node [0 ≤ x.2.2.2.2.2.2.1, x.2.2.2.2.2.2.1 < Int.ofNat (List.length x.2.2.1), (List.length (x.2.2.2.2.2.1 ++ ((x.2.2.2.2.2.2.1, (2 : Int)) :: []))) * 16 ≤ Room] (!(@id (Bool) (xsAt (.one .bool) x.2.2.1 (Int.toNat x.2.2.2.2.2.2.1))))
            (.leaf [] (.inr (.inl ((), (x.2.2.2.2.2.1 ++ ((x.2.2.2.2.2.2.1, (2 : Int)) :: [])), x.2.2.2.2.2.2.2.1, x.2.2.2.2.2.2.2.2.1, x.2.2.2.2.2.2.2.2.2.1, x.2.2.2.2.2.2.2.2.2.2.1, (), (), x.2.2.2.2.2.2.2.2.2.2.2.2.2.1, ()))))
            (.leaf [] (.inl (x.1, x.2.1, x.2.2.1, (), x.2.2.2.2.1, (x.2.2.2.2.2.1 ++ ((x.2.2.2.2.2.2.1, (2 : Int)) :: [])), (wrp .i64 (x.2.2.2.2.2.2.1 + (1 : Int))), x.2.2.2.2.2.2.2.1, x.2.2.2.2.2.2.2.2.1, x.2.2.2.2.2.2.2.2.2.1, x.2.2.2.2.2.2.2.2.2.2.1, (), (), x.2.2.2.2.2.2.2.2.2.2.2.2.2.1, ())))))
        (.node [0 ≤ x.2.2.2.2.2.2.1, x.2.2.2.2.2.2.1 < Int.ofNat (List.length x.2.2.1), (List.length (x.2.2.2.2.2.1 ++ ((x.2.2.2.2.2.2.1, (2 : Int)) :: []))) * 16 ≤ Room] (!(@id (Bool) (xsAt (.one .bool) x.2.2.1 (Int.toNat x.2.2.2.2.2.2.1))))
          (.leaf [] (.inr (.inl ((), (x.2.2.2.2.2.1 ++ ((x.2.2.2.2.2.2.1, (2 : Int)) :: [])), x.2.2.2.2.2.2.2.1, x.2.2.2.2.2.2.2.2.1, x.2.2.2.2.2.2.2.2.2.1, x.2.2.2.2.2.2.2.2.2.2.1, (), (), x.2.2.2.2.2.2.2.2.2.2.2.2.2.1, ()))))
          (.leaf [] (.inl (x.1, x.2.1, x.2.2.1, (), x.2.2.2.2.1, (x.2.2.2.2.2.1 ++ ((x.2.2.2.2.2.2.1, (2 : Int)) :: [])), (wrp .i64 (x.2.2.2.2.2.2.1 + (1 : Int))), x.2.2.2.2.2.2.2.1, x.2.2.2.2.2.2.2.2.1, x.2.2.2.2.2.2.2.2.2.1, x.2.2.2.2.2.2.2.2.2.2.1, (), (), x.2.2.2.2.2.2.2.2.2.2.2.2.2.1, ()))))))
    (.leaf [] (.inr (.inl ((), x.2.2.2.2.2.1, x.2.2.2.2.2.2.2.1, x.2.2.2.2.2.2.2.2.1, x.2.2.2.2.2.2.2.2.2.1, x.2.2.2.2.2.2.2.2.2.2.1, (), (), x.2.2.2.2.2.2.2.2.2.2.2.2.2.1, ()))))
noncomputable def F4 (x : List (Int) × Int × List (Bool) × Int × Unit) : DT (Bool × Unit) :=
  .node [] (decide ((Int.ofNat (List.length x.1)) < (1 : Int)))
    (.leaf [] (true, ()))
    (.node [] (decide ((Int.ofNat (List.length x.1)) > (8 : Int)))
      (.leaf [] (true, ()))
      (.node [] ((Int.ofNat (List.length x.2.2.1)) != (Int.ofNat (List.length x.1)))
        (.leaf [] (true, ()))
        (.node [] (decide (x.2.1 < (0 : Int)))
          (.leaf [] (true, ()))
          (.node [] (decide (x.2.1 ≥ (Int.ofNat (List.length x.1))))
            (.leaf [] (true, ()))
            (.node [] (decide (x.2.2.2.1 < (0 : Int)))
              (.leaf [] (true, ()))
              (.node [] (decide (x.2.2.2.1 > (Int.ofNat (List.length x.1))))
                (.leaf [] (true, ()))
                (let y0 := F14.fn ((x.1, (1 : Int)), ())
                .node [F14.pre ((x.1, (1 : Int)), ())] (!y0.1)
                  (.leaf [] (true, ()))
                  (let y1 := loopOut F4L0 (x.1, x.2.1, x.2.2.1, x.2.2.2.1, (), (0 : Int), x.1, (1 : Int), [], (0 : Int), (), (), (0 : Int), ())
                  let y2 : List (Int) × Int × List (Bool) × Int × Unit × List (Int) × Int × List Dkt × Int × Unit × Unit × Int × Unit := getL (Shape.z F4L0S0) y1
                  let y3 := loopOut F4L1 (y2.1, y2.2.1, y2.2.2.1, (), ((@id (Int) (xsAt (.one (.int .i64)) y2.1 (Int.toNat y2.2.1))) != (2 : Int)), [], y2.2.2.2.1, y2.2.2.2.2.2.1, y2.2.2.2.2.2.2.1, y2.2.2.2.2.2.2.2.1, y2.2.2.2.2.2.2.2.2.1, (), (), y2.2.2.2.2.2.2.2.2.2.2.2.1, ())
                  let y4 : Unit × List Spt × List (Int) × Int × List Dkt × Int × Unit × Unit × Int × Unit := getL (Shape.z F4L1S0) y3
                  let y5 := F9.fn ((y4.2.2.1, (y4.2.2.2.1, (y4.2.2.2.2.1, (y4.2.2.2.2.2.1, ([], ([], y4.2.2.2.2.2.2.2.2.1)))))), ())
                  let y6 := F10.fn ((y4.2.2.1, (y4.2.2.2.1, (y4.2.2.2.2.1, (y4.2.2.2.2.2.1, ([], ([], y4.2.2.2.2.2.2.2.2.1)))))), y5.1, (dec 1 97 []), ())
                  let y7 := F17.fn (y6.1, y4.2.1, ())
                  .node [F10.pre ((y4.2.2.1, (y4.2.2.2.1, (y4.2.2.2.2.1, (y4.2.2.2.2.2.1, ([], ([], y4.2.2.2.2.2.2.2.2.1)))))), y5.1, (dec 1 97 []), ()), F9.pre ((y4.2.2.1, (y4.2.2.2.1, (y4.2.2.2.2.1, (y4.2.2.2.2.2.1, ([], ([], y4.2.2.2.2.2.2.2.2.1)))))), ()), (let r : List AV := [.agg [.x (.row (.one (.int .i64)) y4.2.2.1), .x (.i .i64 y4.2.2.2.1), .x (.own 4 0 Dk true 0 (List.length y4.2.2.2.2.1)), .x (.i .i64 y4.2.2.2.2.2.1), .nils, .nils, .x (.i .i64 y4.2.2.2.2.2.2.2.2.1)]]; r = r), loopInv F4L1 (y2.1, y2.2.1, y2.2.2.1, (), ((@id (Int) (xsAt (.one (.int .i64)) y2.1 (Int.toNat y2.2.1))) != (2 : Int)), [], y2.2.2.2.1, y2.2.2.2.2.2.1, y2.2.2.2.2.2.2.1, y2.2.2.2.2.2.2.2.1, y2.2.2.2.2.2.2.2.2.1, (), (), y2.2.2.2.2.2.2.2.2.2.2.2.1, ()), 0 ≤ y2.2.1, y2.2.1 < Int.ofNat (List.length y2.1), loopInv F4L0 (x.1, x.2.1, x.2.2.1, x.2.2.2.1, (), (0 : Int), x.1, (1 : Int), [], (0 : Int), (), (), (0 : Int), ())] y7.1
                    (let y8 := F9.fn ((y4.2.2.1, (y4.2.2.2.1, (y4.2.2.2.2.1, (y4.2.2.2.2.2.1, ([], ([], y4.2.2.2.2.2.2.2.2.1)))))), ())
                    let y9 := F11.fn ((y4.2.2.1, (y4.2.2.2.1, (y4.2.2.2.2.1, (y4.2.2.2.2.2.1, ([], ([], y4.2.2.2.2.2.2.2.2.1)))))), y8.1, ())
                    .node [] (((Int.ofNat (List.length y9.1)) == (1 : Int)) == (decide ((Int.ofNat (List.length y4.2.1)) > (0 : Int))))
                      (let y10 := F13.fn ()
                      .leaf [F13.pre (), F11.pre ((y4.2.2.1, (y4.2.2.2.1, (y4.2.2.2.2.1, (y4.2.2.2.2.2.1, ([], ([], y4.2.2.2.2.2.2.2.2.1)))))), y8.1, ()), F9.pre ((y4.2.2.1, (y4.2.2.2.1, (y4.2.2.2.2.1, (y4.2.2.2.2.2.1, ([], ([], y4.2.2.2.2.2.2.2.2.1)))))), ()), F17.pre (y6.1, y4.2.1, ()), (let r : List AV := [.agg [.x (.row (.one (.int .i64)) y4.2.2.1), .x (.i .i64 y4.2.2.2.1), .x (.own 4 0 Dk true 0 (List.length y4.2.2.2.2.1)), .x (.i .i64 y4.2.2.2.2.2.1), .nils, .nils, .x (.i .i64 y4.2.2.2.2.2.2.2.2.1)]]; r = r)] (y10.1, ()))
                      (.leaf [F11.pre ((y4.2.2.1, (y4.2.2.2.1, (y4.2.2.2.2.1, (y4.2.2.2.2.2.1, ([], ([], y4.2.2.2.2.2.2.2.2.1)))))), y8.1, ()), F9.pre ((y4.2.2.1, (y4.2.2.2.1, (y4.2.2.2.2.1, (y4.2.2.2.2.2.1, ([], ([], y4.2.2.2.2.2.2.2.2.1)))))), ()), F17.pre (y6.1, y4.2.1, ()), (let r : List AV := [.agg [.x (.row (.one (.int .i64)) y4.2.2.1), .x (.i .i64 y4.2.2.2.1), .x (.own 4 0 Dk true 0 (List.length y4.2.2.2.2.1)), .x (.i .i64 y4.2.2.2.2.2.1), .nils, .nils, .x (.i .i64 y4.2.2.2.2.2.2.2.2.1)]]; r = r)] (false, ())))
                    (.leaf [F17.pre (y6.1, y4.2.1, ())] (false, ()))))))))))
abbrev F4A : List AT := [.v (.one (.row (.one (.int .i64)))), .v (.one (.int .i64)), .v (.one (.row (.one .bool))), .v (.one (.int .i64))]
abbrev F4B : List AT := [.v (.one .bool)]
noncomputable def F4R : List (Nat × Rule) := [(0, ruleOf F4L0S F4L0X F4L0), (1, ruleOf F4L1S F4L1X F4L1)]
theorem F4L0is : ∀ x, DT.Is (runL Try.prog cfg77 1000 (lsOf F4R) 4 0 F4L0S F4L0X x) (F4L0 x) := fun x => by unfold DT.Is; kernel_rfl
theorem F4L1is : ∀ x, DT.Is (runL Try.prog cfg77 1000 (lsOf F4R) 4 1 F4L1S F4L1X x) (F4L1 x) := fun x => by unfold DT.Is; kernel_rfl
theorem F4is : ∀ x, DT.Is (runF Try.prog cfg77 1000 (lsOf F4R) 4 F4A F4B x) (F4 x) := fun x => by unfold DT.Is; kernel_rfl
noncomputable def F4.fn (x : List (Int) × Int × List (Bool) × Int × Unit) : Bool × Unit := (F4 x).fn
noncomputable def F4.pre (x : List (Int) × Int × List (Bool) × Int × Unit) : Prop := (F4 x).pre
theorem F4ok : DataOk Try.prog 4 F4A F4B F4.pre F4.fn := data_of_tree F4A F4B F4 cfg77ok (.of_all cfg77ok (.cons (rule_of_tree F4L0S F4L0X F4L0 (F4L0is)) (.cons (rule_of_tree F4L1S F4L1X F4L1 (F4L1is)) .nil))) F4is
noncomputable def F4C : Con Try.prog := conD 4 F4A F4B F4.pre F4.fn F4ok (by kernel_rfl)
noncomputable def cfgL78 : List (Con Try.prog) := F4C :: cfgL77
noncomputable def cfg78 : Cfg := cfgOf cfgL78
theorem cfg78ok : CfgOk Try.prog cfg78 := cfgOf_ok cfgnamed cfgmixed _
end Go.Proofs.Ytkccnomdfkhfnaa
