/-
  DERIVED. GIVEN WITH THE SEED: THE CARDS: each row of YthamgngpbknlpaaGreatDoorRows.lean that lists a variable, with what it lists TIED to the program's text (the seventh form; the later family's looks); each row that meets fmt, with fmt's text TOLD by the authors' own Lean function (tested against real Go, not proved from fmt's source: count such statements apart). THE CARD IS WHAT COUNTS. Prove the row's statement (the work); the ties are given (YthamgngpbknlpaaGreatDoorTie.lean); close each card by the builder's one call (the guide's Derived/Test/ToyasCard.lean, 'card_holds'). Laid BY PROGRAM, IN A SANDBOX (cutbox-door.mjs). By AI agents, Wed Nov 11 2026. No macro, syntax, notation, axiom, sorry.
-/
import Derived.Test.YthamgngpbknlpaaGreatDoorRows
import GoSem.ClaimSeven
namespace Go.Proofs.YthamgngpbknlpaaGreatDoor
namespace Rows

/-- THE TIED CARD OF 'veneerlaw21.TurnBack'. -/
def turnBackCard : Claim7 := { stood := { row := turnBackRow, standIns := [], harness := (true, "e72817d9d22731d9c685987e7c778003f695ca9e79dd840b2225463e2ccb6449"), looks := false }, kinds := [], alts := [], laidByText := true, laidKinds := [.data, .data, .data], laidTests := true, laidLooks := .later }
def TurnBackCardSaid : Prop := Claim7.holds Tryz.pinned (.plain (OpenSpec.ofChange turnBackSpec)) turnBackCard

/-- THE TIED CARD OF 'veneerlaw21.TurnOver'. -/
def turnOverCard : Claim7 := { stood := { row := turnOverRow, standIns := [], harness := (true, "e72817d9d22731d9c685987e7c778003f695ca9e79dd840b2225463e2ccb6449"), looks := false }, kinds := [], alts := [], laidByText := true, laidKinds := [.data, .data, .data], laidTests := true, laidLooks := .later }
def TurnOverCardSaid : Prop := Claim7.holds Tryz.pinned (.plain (OpenSpec.ofChange turnOverSpec)) turnOverCard

/-- THE SECOND FORM's CARD OF 'veneerlaw21.TurnBack'. -/
def turnBackUptoCard : Claim7 := { stood := { row := turnBackUptoRow, standIns := [], harness := (true, "e72817d9d22731d9c685987e7c778003f695ca9e79dd840b2225463e2ccb6449"), looks := false }, kinds := [], alts := [], laidByText := true, laidKinds := [.data, .data, .data], laidTests := true, laidLooks := .later }
def TurnBackUptoCardSaid : Prop := Claim7.holds Tryz.pinned (.plain (OpenSpec.upto turnBackSpec)) turnBackUptoCard

/-- THE SECOND FORM's CARD OF 'veneerlaw21.TurnOver'. -/
def turnOverUptoCard : Claim7 := { stood := { row := turnOverUptoRow, standIns := [], harness := (true, "e72817d9d22731d9c685987e7c778003f695ca9e79dd840b2225463e2ccb6449"), looks := false }, kinds := [], alts := [], laidByText := true, laidKinds := [.data, .data, .data], laidTests := true, laidLooks := .later }
def TurnOverUptoCardSaid : Prop := Claim7.holds Tryz.pinned (.plain (OpenSpec.upto turnOverSpec)) turnOverUptoCard
end Rows
end Go.Proofs.YthamgngpbknlpaaGreatDoor
