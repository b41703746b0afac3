/-
  DERIVED. GIVEN WITH THE SEED: THE CARDS: each row of YtaadcblcpojhhaaGreatDoorRows.lean that lists a variable, with what it lists TIED to the program's text (the seventh form; the later family's looks); each row that meets fmt, with fmt's text TOLD by the authors' own Lean function (tested against real Go, not proved from fmt's source: count such statements apart). THE CARD IS WHAT COUNTS. Prove the row's statement (the work); the ties are given (YtaadcblcpojhhaaGreatDoorTie.lean); close each card by the builder's one call (the guide's Derived/Test/ToyasCard.lean, 'card_holds'). Laid BY PROGRAM, IN A SANDBOX (cutbox-door.mjs). By AI agents, Wed Nov 11 2026. No macro, syntax, notation, axiom, sorry.
-/
import Derived.Test.YtaadcblcpojhhaaGreatDoorRows
import GoSem.ClaimSeven
namespace Go.Proofs.YtaadcblcpojhhaaGreatDoor
namespace Rows

/-- THE TIED CARD OF 'veneerlaw21.TurnDeep'. -/
def turnDeepCard : Claim7 := { stood := { row := turnDeepRow, standIns := [], harness := (true, "9f810bdef87d2b7061f5589ef5c4e304b980c5fb007bdf0248c1ce3825830149"), looks := false }, kinds := [], alts := [], laidByText := true, laidKinds := [.data, .data, .data], laidTests := true, laidLooks := .later }
def TurnDeepCardSaid : Prop := Claim7.holds Tryz.pinned (.plain (OpenSpec.ofChange turnDeepSpec)) turnDeepCard

/-- THE SECOND FORM's CARD OF 'veneerlaw21.TurnDeep'. -/
def turnDeepUptoCard : Claim7 := { stood := { row := turnDeepUptoRow, standIns := [], harness := (true, "9f810bdef87d2b7061f5589ef5c4e304b980c5fb007bdf0248c1ce3825830149"), looks := false }, kinds := [], alts := [], laidByText := true, laidKinds := [.data, .data, .data], laidTests := true, laidLooks := .later }
def TurnDeepUptoCardSaid : Prop := Claim7.holds Tryz.pinned (.plain (OpenSpec.upto turnDeepSpec)) turnDeepUptoCard
end Rows
end Go.Proofs.YtaadcblcpojhhaaGreatDoor
