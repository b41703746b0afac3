/- What functions of the program compute, written down; read off their code. -/
import Derived.Test.YtkccnomdfkhfnaaGreatSEB
set_option linter.unusedSimpArgs false
set_option linter.unusedVariables false
set_option maxRecDepth 100000
namespace Go.Proofs.YtkccnomdfkhfnaaGreat
open Go.RowKit Go.Proofs.YtkccnomdfkhfnaaGreat.Ev
noncomputable def cfgL0 : List (Con Tryz.prog) := []
noncomputable def cfg0 : Cfg := cfgOf cfgL0
theorem cfgnamed : namedOk Tryz.prog = true := by kernel_rfl
theorem cfgmixed : Tryz.prog.follows .mixedOrders = true := by kernel_rfl
theorem cfg0ok : CfgOk Tryz.prog cfg0 := cfgOf_ok cfgnamed cfgmixed _
abbrev Nm : ET := (.cons .str (.one (.int .i64)))
abbrev Nmt : Type := List UInt8 × Int
abbrev Bk : ET := (.cons (.int .i64) (.one (.row (.one (.int .u8)))))
abbrev Bkt : Type := Int × List (Int)
abbrev Nd : ET := (.cons (.int .i64) (.cons (.int .i64) (.cons (.int .i64) (.cons (.int .i64) (.cons (.int .i64) (.cons (.row Bk) (.cons .str (.one (.row Nm)))))))))
abbrev Ndt : Type := Int × Int × Int × Int × Int × List Bkt × List UInt8 × List Nmt
abbrev Dk : ET := (.cons (.int .i64) (.cons (.int .i64) (.cons (.int .i64) (.one (.row Nd)))))
abbrev Dkt : Type := Int × Int × Int × List Ndt
abbrev Rw : ET := (.cons (.int .i64) (.cons (.int .i64) (.one (.int .i64))))
abbrev Rwt : Type := Int × Int × Int
abbrev Sp : ET := (.cons (.int .i64) (.one (.int .i64)))
abbrev Spt : Type := Int × Int
abbrev Cf : ET := (.cons (.row (.one (.int .i64))) (.one (.int .i64)))
abbrev Cft : Type := List (Int) × Int
abbrev Tb : ET := (.cons (.int .i64) (.cons (.row Rw) (.cons (.row Rw) (.one (.int .i64)))))
abbrev Tbt : Type := Int × List Rwt × List Rwt × Int
abbrev Wd : ET := (.cons (.row (.one (.int .i64))) (.cons (.int .i64) (.cons (.row Dk) Tb)))
abbrev Wdt : Type := List (Int) × Int × List Dkt × Int × List Rwt × List Rwt × Int
/-! 11 veneer/veneerlaw11.known -/
noncomputable def F11 (x : Unit) : DT (Bool × Unit) :=
  .leaf [] (true, ())
abbrev F11A : List AT := []
abbrev F11B : List AT := [.v (.one .bool)]
theorem F11is : ∀ x, DT.Is (runF Tryz.prog cfg0 1000 noL 11 F11A F11B x) (F11 x) := fun x => by unfold DT.Is; kernel_rfl
noncomputable def F11.fn (x : Unit) : Bool × Unit := (F11 x).fn
noncomputable def F11.pre (x : Unit) : Prop := (F11 x).pre
theorem F11ok : DataOk Tryz.prog 11 F11A F11B F11.pre F11.fn := data_of_tree F11A F11B F11 cfg0ok FnLoops.none F11is
noncomputable def F11C : Con Tryz.prog := conD 11 F11A F11B F11.pre F11.fn F11ok (by kernel_rfl)
noncomputable def cfgL1 : List (Con Tryz.prog) := F11C :: cfgL0
noncomputable def cfg1 : Cfg := cfgOf cfgL1
theorem cfg1ok : CfgOk Tryz.prog cfg1 := cfgOf_ok cfgnamed cfgmixed _
end Go.Proofs.YtkccnomdfkhfnaaGreat
