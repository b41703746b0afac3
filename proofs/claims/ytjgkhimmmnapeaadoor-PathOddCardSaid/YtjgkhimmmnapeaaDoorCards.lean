/-
  DERIVED. GIVEN WITH THE SEED: THE CARDS: each row of YtjgkhimmmnapeaaDoorRows.lean that lists a variable, with what it lists TIED to the program's text (the seventh form; the later family's looks); each row that meets fmt, with fmt's text TOLD by the authors' own Lean function (tested against real Go, not proved from fmt's source: count such statements apart). THE CARD IS WHAT COUNTS. Prove the row's statement (the work); the ties are given (YtjgkhimmmnapeaaDoorTie.lean); close each card by the builder's one call (the guide's Derived/Test/ToyasCard.lean, 'card_holds'). Laid BY PROGRAM, IN A SANDBOX (cutbox-door.mjs). By AI agents, Wed Nov 11 2026. No macro, syntax, notation, axiom, sorry.
-/
import Derived.Test.YtjgkhimmmnapeaaDoorRows
import GoSem.ClaimSeven
namespace Go.Proofs.YtjgkhimmmnapeaaDoor
namespace Rows

/-- THE TIED CARD OF 'veneerlaw1.PathOdd'. -/
def pathOddCard : Claim7 := { stood := { row := pathOddRow, standIns := [], harness := (true, "a428fe20aafc692d6269eea5a012c9826d94329e314077d82acef106740c56cb"), looks := false }, kinds := [], alts := [], laidByText := true, laidKinds := [.data, .pinned], laidTests := true, laidLooks := .later }
def PathOddCardSaid : Prop := Claim7.holds Tryd.pinned (.plain (OpenSpec.ofChange pathOddSpec)) pathOddCard

/-- THE TIED CARD OF 'veneerlaw1.PathFree'. -/
def pathFreeCard : Claim7 := { stood := { row := pathFreeRow, standIns := [], harness := (true, "a428fe20aafc692d6269eea5a012c9826d94329e314077d82acef106740c56cb"), looks := false }, kinds := [], alts := [], laidByText := true, laidKinds := [.data, .pinned], laidTests := true, laidLooks := .later }
def PathFreeCardSaid : Prop := Claim7.holds Tryd.pinned (.plain (OpenSpec.ofChange pathFreeSpec)) pathFreeCard

/-- THE SECOND FORM's CARD OF 'veneerlaw1.PathOdd'. -/
def pathOddUptoCard : Claim7 := { stood := { row := pathOddUptoRow, standIns := [], harness := (true, "a428fe20aafc692d6269eea5a012c9826d94329e314077d82acef106740c56cb"), looks := false }, kinds := [], alts := [], laidByText := true, laidKinds := [.data, .pinned], laidTests := true, laidLooks := .later }
def PathOddUptoCardSaid : Prop := Claim7.holds Tryd.pinned (.plain (OpenSpec.upto pathOddSpec)) pathOddUptoCard

/-- THE SECOND FORM's CARD OF 'veneerlaw1.PathFree'. -/
def pathFreeUptoCard : Claim7 := { stood := { row := pathFreeUptoRow, standIns := [], harness := (true, "a428fe20aafc692d6269eea5a012c9826d94329e314077d82acef106740c56cb"), looks := false }, kinds := [], alts := [], laidByText := true, laidKinds := [.data, .pinned], laidTests := true, laidLooks := .later }
def PathFreeUptoCardSaid : Prop := Claim7.holds Tryd.pinned (.plain (OpenSpec.upto pathFreeSpec)) pathFreeUptoCard
end Rows
end Go.Proofs.YtjgkhimmmnapeaaDoor
