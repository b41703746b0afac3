/- What functions of the program compute, written down; read off their code. -/
import Derived.Test.YtkccnomdfkhfnaaSHB
set_option linter.unusedSimpArgs false
set_option linter.unusedVariables false
set_option maxRecDepth 100000
namespace Go.Proofs.Ytkccnomdfkhfnaa
open Go.RowKit Go.Proofs.Ytkccnomdfkhfnaa.Ev
noncomputable def cfgL0 : List (Con Try.prog) := []
noncomputable def cfg0 : Cfg := cfgOf cfgL0
theorem cfgnamed : namedOk Try.prog = true := by kernel_rfl
theorem cfgmixed : Try.prog.follows .mixedOrders = true := by kernel_rfl
theorem cfg0ok : CfgOk Try.prog cfg0 := cfgOf_ok cfgnamed cfgmixed _
abbrev Nm : ET := (.cons .str (.one (.int .i64)))
abbrev Nmt : Type := List UInt8 × Int
abbrev Bk : ET := (.cons (.int .i64) (.one (.row (.one (.int .u8)))))
abbrev Bkt : Type := Int × List (Int)
abbrev Nd : ET := (.cons (.int .i64) (.cons (.int .i64) (.cons (.int .i64) (.cons (.int .i64) (.cons (.int .i64) (.cons (.row Bk) (.cons .str (.one (.row Nm)))))))))
abbrev Ndt : Type := Int × Int × Int × Int × Int × List Bkt × List UInt8 × List Nmt
abbrev Dk : ET := (.cons (.int .i64) (.cons (.int .i64) (.cons (.int .i64) (.one (.row Nd)))))
abbrev Dkt : Type := Int × Int × Int × List Ndt
abbrev Rw : ET := (.cons (.int .i64) (.cons (.int .i64) (.one (.int .i64))))
abbrev Rwt : Type := Int × Int × Int
abbrev Sp : ET := (.cons (.int .i64) (.one (.int .i64)))
abbrev Spt : Type := Int × Int
abbrev Cf : ET := (.cons (.row (.one (.int .i64))) (.one (.int .i64)))
abbrev Cft : Type := List (Int) × Int
abbrev Tb : ET := (.cons (.int .i64) (.cons (.row Rw) (.cons (.row Rw) (.one (.int .i64)))))
abbrev Tbt : Type := Int × List Rwt × List Rwt × Int
abbrev Wd : ET := (.cons (.row (.one (.int .i64))) (.cons (.int .i64) (.cons (.row Dk) Tb)))
abbrev Wdt : Type := List (Int) × Int × List Dkt × Int × List Rwt × List Rwt × Int
/-! 13 veneer/veneerlaw11.known -/
noncomputable def F13 (x : Unit) : DT (Bool × Unit) :=
  .leaf [] (true, ())
abbrev F13A : List AT := []
abbrev F13B : List AT := [.v (.one .bool)]
theorem F13is : ∀ x, DT.Is (runF Try.prog cfg0 1000 noL 13 F13A F13B x) (F13 x) := fun x => by unfold DT.Is; kernel_rfl
noncomputable def F13.fn (x : Unit) : Bool × Unit := (F13 x).fn
noncomputable def F13.pre (x : Unit) : Prop := (F13 x).pre
theorem F13ok : DataOk Try.prog 13 F13A F13B F13.pre F13.fn := data_of_tree F13A F13B F13 cfg0ok FnLoops.none F13is
noncomputable def F13C : Con Try.prog := conD 13 F13A F13B F13.pre F13.fn F13ok (by kernel_rfl)
noncomputable def cfgL1 : List (Con Try.prog) := F13C :: cfgL0
noncomputable def cfg1 : Cfg := cfgOf cfgL1
theorem cfg1ok : CfgOk Try.prog cfg1 := cfgOf_ok cfgnamed cfgmixed _
end Go.Proofs.Ytkccnomdfkhfnaa
