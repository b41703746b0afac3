/-
  DERIVED. GIVEN WITH THE SEED: THE CARDS: each row of YtbfckpbmelnpdaaGreatDoorRows.lean that lists a variable, with what it lists TIED to the program's text (the seventh form; the later family's looks); each row that meets fmt, with fmt's text TOLD by the authors' own Lean function (tested against real Go, not proved from fmt's source: count such statements apart). THE CARD IS WHAT COUNTS. Prove the row's statement (the work); the ties are given (YtbfckpbmelnpdaaGreatDoorTie.lean); close each card by the builder's one call (the guide's Derived/Test/ToyasCard.lean, 'card_holds'). Laid BY PROGRAM, IN A SANDBOX (cutbox-door.mjs). By AI agents, Wed Nov 11 2026. No macro, syntax, notation, axiom, sorry.
-/
import Derived.Test.YtbfckpbmelnpdaaGreatDoorRows
import GoSem.ClaimSeven
namespace Go.Proofs.YtbfckpbmelnpdaaGreatDoor
namespace Rows

/-- THE TIED CARD OF 'veneerlaw25.MountOdd'. -/
def mountOddCard : Claim7 := { stood := { row := mountOddRow, standIns := [], harness := (true, "572a0cf632353bb2b1e3dc2d7f9d09b76e57cd7808dfb0619b0b3c9b20df9c56"), looks := false }, kinds := [], alts := [], laidByText := true, laidKinds := [.data, .data, .data], laidTests := true, laidLooks := .later }
def MountOddCardSaid : Prop := Claim7.holds Tryz.pinned (.plain (OpenSpec.ofChange mountOddSpec)) mountOddCard

/-- THE SECOND FORM's CARD OF 'veneerlaw25.MountOdd'. -/
def mountOddUptoCard : Claim7 := { stood := { row := mountOddUptoRow, standIns := [], harness := (true, "572a0cf632353bb2b1e3dc2d7f9d09b76e57cd7808dfb0619b0b3c9b20df9c56"), looks := false }, kinds := [], alts := [], laidByText := true, laidKinds := [.data, .data, .data], laidTests := true, laidLooks := .later }
def MountOddUptoCardSaid : Prop := Claim7.holds Tryz.pinned (.plain (OpenSpec.upto mountOddSpec)) mountOddUptoCard
end Rows
end Go.Proofs.YtbfckpbmelnpdaaGreatDoor
