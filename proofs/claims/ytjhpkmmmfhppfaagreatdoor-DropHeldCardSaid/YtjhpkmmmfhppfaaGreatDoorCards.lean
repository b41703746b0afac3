/-
  DERIVED. GIVEN WITH THE SEED: THE CARDS: each row of YtjhpkmmmfhppfaaGreatDoorRows.lean that lists a variable, with what it lists TIED to the program's text (the seventh form; the later family's looks); each row that meets fmt, with fmt's text TOLD by the authors' own Lean function (tested against real Go, not proved from fmt's source: count such statements apart). THE CARD IS WHAT COUNTS. Prove the row's statement (the work); the ties are given (YtjhpkmmmfhppfaaGreatDoorTie.lean); close each card by the builder's one call (the guide's Derived/Test/ToyasCard.lean, 'card_holds'). Laid BY PROGRAM, IN A SANDBOX (cutbox-door.mjs). By AI agents, Wed Nov 11 2026. No macro, syntax, notation, axiom, sorry.
-/
import Derived.Test.YtjhpkmmmfhppfaaGreatDoorRows
import GoSem.ClaimSeven
namespace Go.Proofs.YtjhpkmmmfhppfaaGreatDoor
namespace Rows

/-- THE TIED CARD OF 'veneerlaw20.DropHeld'. -/
def dropHeldCard : Claim7 := { stood := { row := dropHeldRow, standIns := [], harness := (true, "61e9f4b592e51edc86fd351d9582a96948d8625077b6d0dc5e04618e4a833066"), looks := false }, kinds := [], alts := [], laidByText := true, laidKinds := [.data, .data, .data], laidTests := true, laidLooks := .later }
def DropHeldCardSaid : Prop := Claim7.holds Tryz.pinned (.plain (OpenSpec.ofChange dropHeldSpec)) dropHeldCard

/-- THE SECOND FORM's CARD OF 'veneerlaw20.DropHeld'. -/
def dropHeldUptoCard : Claim7 := { stood := { row := dropHeldUptoRow, standIns := [], harness := (true, "61e9f4b592e51edc86fd351d9582a96948d8625077b6d0dc5e04618e4a833066"), looks := false }, kinds := [], alts := [], laidByText := true, laidKinds := [.data, .data, .data], laidTests := true, laidLooks := .later }
def DropHeldUptoCardSaid : Prop := Claim7.holds Tryz.pinned (.plain (OpenSpec.upto dropHeldSpec)) dropHeldUptoCard
end Rows
end Go.Proofs.YtjhpkmmmfhppfaaGreatDoor
