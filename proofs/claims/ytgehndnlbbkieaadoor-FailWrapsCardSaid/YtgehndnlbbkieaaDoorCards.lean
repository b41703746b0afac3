/-
  DERIVED. GIVEN WITH THE SEED: THE CARDS: each row of YtgehndnlbbkieaaDoorRows.lean that lists a variable, with what it lists TIED to the program's text (the seventh form; the later family's looks); each row that meets fmt, with fmt's text TOLD by the authors' own Lean function (tested against real Go, not proved from fmt's source: count such statements apart). THE CARD IS WHAT COUNTS. Prove the row's statement (the work); the ties are given (YtgehndnlbbkieaaDoorTie.lean); close each card by the builder's one call (the guide's Derived/Test/ToyasCard.lean, 'card_holds'). Laid BY PROGRAM, IN A SANDBOX (cutbox-door.mjs). By AI agents, Wed Nov 11 2026. No macro, syntax, notation, axiom, sorry.
-/
import Derived.Test.YtgehndnlbbkieaaDoorRows
import GoSem.ClaimSeven
namespace Go.Proofs.YtgehndnlbbkieaaDoor
namespace Rows

/-- THE TIED CARD OF 'veneerlaw4.FailWraps'. -/
def failWrapsCard : Claim7 := { stood := { row := failWrapsRow, standIns := [], harness := (true, "475952b161d6dc062948f5c023af32f7d7a5334ac9328cf5d8665ee932505715"), looks := true }, kinds := [], alts := [], laidByText := true, laidKinds := [.handle], laidTests := true, laidLooks := .later }
def FailWrapsCardSaid : Prop := Claim7.holds Tryd.pinned (.plain (OpenSpec.ofChange failWrapsSpec)) failWrapsCard

/-- THE TIED CARD OF 'veneerlaw4.FailInner'. -/
def failInnerCard : Claim7 := { stood := { row := failInnerRow, standIns := [], harness := (true, "475952b161d6dc062948f5c023af32f7d7a5334ac9328cf5d8665ee932505715"), looks := true }, kinds := [], alts := [], laidByText := true, laidKinds := [.handle], laidTests := true, laidLooks := .later }
def FailInnerCardSaid : Prop := Claim7.holds Tryd.pinned (.plain (OpenSpec.ofChange failInnerSpec)) failInnerCard

/-- THE TIED CARD OF 'veneerlaw4.FailOther'. -/
def failOtherCard : Claim7 := { stood := { row := failOtherRow, standIns := [], harness := (true, "475952b161d6dc062948f5c023af32f7d7a5334ac9328cf5d8665ee932505715"), looks := true }, kinds := [], alts := [], laidByText := true, laidKinds := [.handle], laidTests := true, laidLooks := .later }
def FailOtherCardSaid : Prop := Claim7.holds Tryd.pinned (.plain (OpenSpec.ofChange failOtherSpec)) failOtherCard

/-- THE TIED CARD OF 'veneerlaw4.FailOdd'. -/
def failOddCard : Claim7 := { stood := { row := failOddRow, standIns := [], harness := (true, "475952b161d6dc062948f5c023af32f7d7a5334ac9328cf5d8665ee932505715"), looks := true }, kinds := [], alts := [], laidByText := true, laidKinds := [.handle], laidTests := true, laidLooks := .later }
def FailOddCardSaid : Prop := Claim7.holds Tryd.pinned (.plain (OpenSpec.ofChange failOddSpec)) failOddCard

/-- THE SECOND FORM's CARD OF 'veneerlaw4.FailWraps'. -/
def failWrapsUptoCard : Claim7 := { stood := { row := failWrapsUptoRow, standIns := [], harness := (true, "475952b161d6dc062948f5c023af32f7d7a5334ac9328cf5d8665ee932505715"), looks := true }, kinds := [], alts := [], laidByText := true, laidKinds := [.handle], laidTests := true, laidLooks := .later }
def FailWrapsUptoCardSaid : Prop := Claim7.holds Tryd.pinned (.plain (OpenSpec.upto failWrapsSpec)) failWrapsUptoCard

/-- THE SECOND FORM's CARD OF 'veneerlaw4.FailInner'. -/
def failInnerUptoCard : Claim7 := { stood := { row := failInnerUptoRow, standIns := [], harness := (true, "475952b161d6dc062948f5c023af32f7d7a5334ac9328cf5d8665ee932505715"), looks := true }, kinds := [], alts := [], laidByText := true, laidKinds := [.handle], laidTests := true, laidLooks := .later }
def FailInnerUptoCardSaid : Prop := Claim7.holds Tryd.pinned (.plain (OpenSpec.upto failInnerSpec)) failInnerUptoCard

/-- THE SECOND FORM's CARD OF 'veneerlaw4.FailOther'. -/
def failOtherUptoCard : Claim7 := { stood := { row := failOtherUptoRow, standIns := [], harness := (true, "475952b161d6dc062948f5c023af32f7d7a5334ac9328cf5d8665ee932505715"), looks := true }, kinds := [], alts := [], laidByText := true, laidKinds := [.handle], laidTests := true, laidLooks := .later }
def FailOtherUptoCardSaid : Prop := Claim7.holds Tryd.pinned (.plain (OpenSpec.upto failOtherSpec)) failOtherUptoCard

/-- THE SECOND FORM's CARD OF 'veneerlaw4.FailOdd'. -/
def failOddUptoCard : Claim7 := { stood := { row := failOddUptoRow, standIns := [], harness := (true, "475952b161d6dc062948f5c023af32f7d7a5334ac9328cf5d8665ee932505715"), looks := true }, kinds := [], alts := [], laidByText := true, laidKinds := [.handle], laidTests := true, laidLooks := .later }
def FailOddUptoCardSaid : Prop := Claim7.holds Tryd.pinned (.plain (OpenSpec.upto failOddSpec)) failOddUptoCard
end Rows
end Go.Proofs.YtgehndnlbbkieaaDoor
