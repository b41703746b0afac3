/-
  NARROWER THAN 'FOR EVERY INPUT', by the rows' own cells (each row's printed sentence says how): FailWraps: laid · FailInner: laid · FailOther: laid · FailOdd: laid.
  DERIVED. THE GIVEN ROWS OF THIS SEAT. 4 by the template 'for every input the law returns true; each argument reads behind the call as it read before'; 0 by the template 'total and deterministic' (their statements: YtgehndnlbbkieaaDoorTotals.lean).
  GIVEN WITH THE SEED: the statements are not yours to turn. If you find one false, say at which input.
  Laid BY PROGRAM, IN A SANDBOX (cutbox-rows.mjs): the forced cells as the released guide's own fill.sh prints them over the translation aef9acb5f027b7d2… (all of the seat's roots in one cut). By AI agents, Wed Nov 11 2026. No macro, syntax, notation, axiom, sorry.
-/
import Derived.Test.YtgehndnlbbkieaaDoorChecked
import GoSem.Claim
import GoSem.ClaimJoined
import GoSem.ClaimMapViews
import Derived.JoinedTies
import Derived.KernelRfl
namespace Go.Proofs.YtgehndnlbbkieaaDoor
/- THE CELL 'sum', in the pinned program and in every row, IS THE sha256 OF THE DUMP (.gsa) THAT YtgehndnlbbkieaaDoorProg.lean LOADS. Nothing in Lean hashes anything: it is a label: what it is worth is what the hold of that sum in a sandbox is worth. -/
noncomputable def Tryd.pinned : Pinned := { name := "ytgehndnlbbkieaadoor", sum := "aef9acb5f027b7d2c4349aa8d9f71164b5097628d276f107a98aa00e780ad706", checked := Tryd.checked }
namespace Rows
def none {H : Type} : Left H := { results := [], args := [] }

/- WHAT THE LISTED PACKAGE-LEVEL VARIABLES READ AS WHEN THE CALL BEGINS. Each datum BY PROGRAM (the guide's laid-datum.mjs) off the statement by which the dump's own 'gosem.cut.vars' lays the variable. In a bare row this is a premise. The card (YtgehndnlbbkieaaDoorCards.lean) ties it to the program's text. -/
def laid_errors_errorType {H : Type} : DataW H := .iface "internal/reflectlite.rtype" (.agg [.ptr (.lit (.string [101, 114, 114, 111, 114]))])

/-- 'veneerlaw4.FailWraps': WHATEVER THE INPUT: true; the input reads as it did. -/
def failWrapsSpec : ChangeSpec := { name := "failWraps", fn := fun _ => fun
  | [d1, d2, d3] => { results := [.lit (.bool true)], args := [d1, d2, d3] }
  | _ => none }
def failWrapsRow : OpenClaim := { program := "ytgehndnlbbkieaadoor", sum := "aef9acb5f027b7d2c4349aa8d9f71164b5097628d276f107a98aa00e780ad706", func := "veneer/veneerlaw4.FailWraps", spec := "failWraps", inPlace := ["internal/reflectlite.ValueOf", "(internal/reflectlite.Value).Type", "(internal/reflectlite.Value).IsNil", "internal/reflectlite.TypeOf", "(internal/reflectlite.Value).Elem", "(internal/reflectlite.Value).Set"], unfollowed := true, recurses := true, named := ["errors.errorType"], apart := false, laid := [("errors.errorType", laid_errors_errorType)] }
def FailWrapsSaid : Prop := failWrapsRow.holds Tryd.pinned (OpenSpec.ofChange failWrapsSpec)

/-- ITS FALSE NEIGHBOUR: 'it returns false'. Refute it at one input. -/
def failWrapsWrong : ChangeSpec := { name := "failWraps", fn := fun _ => fun
  | [d1, d2, d3] => { results := [.lit (.bool false)], args := [d1, d2, d3] }
  | _ => none }
def FailWrapsWrongFalsely : Prop := failWrapsRow.holds Tryd.pinned (OpenSpec.ofChange failWrapsWrong)

/-- 'veneerlaw4.FailInner': WHATEVER THE INPUT: true; the input reads as it did. -/
def failInnerSpec : ChangeSpec := { name := "failInner", fn := fun _ => fun
  | [d1, d2, d3, d4] => { results := [.lit (.bool true)], args := [d1, d2, d3, d4] }
  | _ => none }
def failInnerRow : OpenClaim := { program := "ytgehndnlbbkieaadoor", sum := "aef9acb5f027b7d2c4349aa8d9f71164b5097628d276f107a98aa00e780ad706", func := "veneer/veneerlaw4.FailInner", spec := "failInner", inPlace := ["internal/reflectlite.ValueOf", "(internal/reflectlite.Value).Type", "(internal/reflectlite.Value).IsNil", "internal/reflectlite.TypeOf", "(internal/reflectlite.Value).Elem", "(internal/reflectlite.Value).Set"], unfollowed := true, recurses := true, named := ["errors.errorType"], apart := false, laid := [("errors.errorType", laid_errors_errorType)] }
def FailInnerSaid : Prop := failInnerRow.holds Tryd.pinned (OpenSpec.ofChange failInnerSpec)

/-- ITS FALSE NEIGHBOUR: 'it returns false'. Refute it at one input. -/
def failInnerWrong : ChangeSpec := { name := "failInner", fn := fun _ => fun
  | [d1, d2, d3, d4] => { results := [.lit (.bool false)], args := [d1, d2, d3, d4] }
  | _ => none }
def FailInnerWrongFalsely : Prop := failInnerRow.holds Tryd.pinned (OpenSpec.ofChange failInnerWrong)

/-- 'veneerlaw4.FailOther': WHATEVER THE INPUT: true; the input reads as it did. -/
def failOtherSpec : ChangeSpec := { name := "failOther", fn := fun _ => fun
  | [d1, d2, d3] => { results := [.lit (.bool true)], args := [d1, d2, d3] }
  | _ => none }
def failOtherRow : OpenClaim := { program := "ytgehndnlbbkieaadoor", sum := "aef9acb5f027b7d2c4349aa8d9f71164b5097628d276f107a98aa00e780ad706", func := "veneer/veneerlaw4.FailOther", spec := "failOther", inPlace := ["internal/reflectlite.ValueOf", "(internal/reflectlite.Value).Type", "(internal/reflectlite.Value).IsNil", "internal/reflectlite.TypeOf", "(internal/reflectlite.Value).Elem", "(internal/reflectlite.Value).Set"], unfollowed := true, recurses := true, named := ["errors.errorType"], apart := false, laid := [("errors.errorType", laid_errors_errorType)] }
def FailOtherSaid : Prop := failOtherRow.holds Tryd.pinned (OpenSpec.ofChange failOtherSpec)

/-- ITS FALSE NEIGHBOUR: 'it returns false'. Refute it at one input. -/
def failOtherWrong : ChangeSpec := { name := "failOther", fn := fun _ => fun
  | [d1, d2, d3] => { results := [.lit (.bool false)], args := [d1, d2, d3] }
  | _ => none }
def FailOtherWrongFalsely : Prop := failOtherRow.holds Tryd.pinned (OpenSpec.ofChange failOtherWrong)

/-- 'veneerlaw4.FailOdd': WHATEVER THE INPUT: true; the input reads as it did. -/
def failOddSpec : ChangeSpec := { name := "failOdd", fn := fun _ => fun
  | [d] => { results := [.lit (.bool true)], args := [d] }
  | _ => none }
def failOddRow : OpenClaim := { program := "ytgehndnlbbkieaadoor", sum := "aef9acb5f027b7d2c4349aa8d9f71164b5097628d276f107a98aa00e780ad706", func := "veneer/veneerlaw4.FailOdd", spec := "failOdd", inPlace := ["internal/reflectlite.ValueOf", "(internal/reflectlite.Value).Type", "(internal/reflectlite.Value).IsNil", "internal/reflectlite.TypeOf", "(internal/reflectlite.Value).Elem", "(internal/reflectlite.Value).Set"], unfollowed := true, recurses := true, named := ["errors.errorType"], apart := false, laid := [("errors.errorType", laid_errors_errorType)] }
def FailOddSaid : Prop := failOddRow.holds Tryd.pinned (OpenSpec.ofChange failOddSpec)

/-- ITS FALSE NEIGHBOUR: 'it returns false'. Refute it at one input. -/
def failOddWrong : ChangeSpec := { name := "failOdd", fn := fun _ => fun
  | [d] => { results := [.lit (.bool false)], args := [d] }
  | _ => none }
def FailOddWrongFalsely : Prop := failOddRow.holds Tryd.pinned (OpenSpec.ofChange failOddWrong)

/- THE SECOND FORM. 'bulk': how many values and letters a reading holds, each counted each time it is reached (what is shared counts as often as it is met; a slice's spare places count too). A statement '..UptoSaid' is the law's where the arguments, and the package variables that the reading takes, are together of bulk at most 1048576: NARROWER than '..Said'. Prove '..Said' where nothing that the law and all that it calls make is longer than what came in: it says more and counts as full. Else prove '..UptoSaid'. A law counts once. -/
mutual
def uptoBulk {H : Type} : DataW H → Nat
  | .lit (.string bytes) => bytes.length + 1
  | .lit _ => 1
  | .nil => 1
  | .ptr d => uptoBulk d + 1
  | .slice elems spare => uptoBulkAll elems + uptoBulkAll spare + 1
  | .agg parts => uptoBulkAll parts + 1
  | .iface _ d => uptoBulk d + 1
  | .map entries => uptoBulkEntries entries + 1
  | .held _ => 1
def uptoBulkAll {H : Type} : List (DataW H) → Nat
  | [] => 0
  | d :: r => uptoBulk d + uptoBulkAll r
def uptoBulkEntries {H : Type} : List (Lit × DataW H) → Nat
  | [] => 0
  | x :: r => uptoBulkEntry x + uptoBulkEntries r
def uptoBulkEntry {H : Type} : Lit × DataW H → Nat
  | (.string bytes, d) => bytes.length + uptoBulk d + 1
  | (_, d) => uptoBulk d + 1
 end
def uptoSmall : (H : Type) → List (DataW H) → Bool := fun _ ds => decide (uptoBulkAll ds ≤ 1048576)
def OpenSpec.upto (s : _root_.Go.ChangeSpec) : _root_.Go.OpenSpec := { _root_.Go.OpenSpec.ofChange s with cond := some uptoSmall }

/-- 'veneerlaw4.FailWraps', WHERE WHAT IT READS IS OF BULK AT MOST 1048576: true; the input reads as it did. -/
def failWrapsUptoRow : OpenClaim := { program := "ytgehndnlbbkieaadoor", sum := "aef9acb5f027b7d2c4349aa8d9f71164b5097628d276f107a98aa00e780ad706", func := "veneer/veneerlaw4.FailWraps", spec := "failWraps", inPlace := ["internal/reflectlite.ValueOf", "(internal/reflectlite.Value).Type", "(internal/reflectlite.Value).IsNil", "internal/reflectlite.TypeOf", "(internal/reflectlite.Value).Elem", "(internal/reflectlite.Value).Set"], unfollowed := true, recurses := true, named := ["errors.errorType"], apart := false, laid := [("errors.errorType", laid_errors_errorType)], narrowed := true }
def FailWrapsUptoSaid : Prop := failWrapsUptoRow.holds Tryd.pinned (OpenSpec.upto failWrapsSpec)

/-- 'veneerlaw4.FailInner', WHERE WHAT IT READS IS OF BULK AT MOST 1048576: true; the input reads as it did. -/
def failInnerUptoRow : OpenClaim := { program := "ytgehndnlbbkieaadoor", sum := "aef9acb5f027b7d2c4349aa8d9f71164b5097628d276f107a98aa00e780ad706", func := "veneer/veneerlaw4.FailInner", spec := "failInner", inPlace := ["internal/reflectlite.ValueOf", "(internal/reflectlite.Value).Type", "(internal/reflectlite.Value).IsNil", "internal/reflectlite.TypeOf", "(internal/reflectlite.Value).Elem", "(internal/reflectlite.Value).Set"], unfollowed := true, recurses := true, named := ["errors.errorType"], apart := false, laid := [("errors.errorType", laid_errors_errorType)], narrowed := true }
def FailInnerUptoSaid : Prop := failInnerUptoRow.holds Tryd.pinned (OpenSpec.upto failInnerSpec)

/-- 'veneerlaw4.FailOther', WHERE WHAT IT READS IS OF BULK AT MOST 1048576: true; the input reads as it did. -/
def failOtherUptoRow : OpenClaim := { program := "ytgehndnlbbkieaadoor", sum := "aef9acb5f027b7d2c4349aa8d9f71164b5097628d276f107a98aa00e780ad706", func := "veneer/veneerlaw4.FailOther", spec := "failOther", inPlace := ["internal/reflectlite.ValueOf", "(internal/reflectlite.Value).Type", "(internal/reflectlite.Value).IsNil", "internal/reflectlite.TypeOf", "(internal/reflectlite.Value).Elem", "(internal/reflectlite.Value).Set"], unfollowed := true, recurses := true, named := ["errors.errorType"], apart := false, laid := [("errors.errorType", laid_errors_errorType)], narrowed := true }
def FailOtherUptoSaid : Prop := failOtherUptoRow.holds Tryd.pinned (OpenSpec.upto failOtherSpec)

/-- 'veneerlaw4.FailOdd', WHERE WHAT IT READS IS OF BULK AT MOST 1048576: true; the input reads as it did. -/
def failOddUptoRow : OpenClaim := { program := "ytgehndnlbbkieaadoor", sum := "aef9acb5f027b7d2c4349aa8d9f71164b5097628d276f107a98aa00e780ad706", func := "veneer/veneerlaw4.FailOdd", spec := "failOdd", inPlace := ["internal/reflectlite.ValueOf", "(internal/reflectlite.Value).Type", "(internal/reflectlite.Value).IsNil", "internal/reflectlite.TypeOf", "(internal/reflectlite.Value).Elem", "(internal/reflectlite.Value).Set"], unfollowed := true, recurses := true, named := ["errors.errorType"], apart := false, laid := [("errors.errorType", laid_errors_errorType)], narrowed := true }
def FailOddUptoSaid : Prop := failOddUptoRow.holds Tryd.pinned (OpenSpec.upto failOddSpec)

end Rows
end Go.Proofs.YtgehndnlbbkieaaDoor
