/-
  DERIVED. GIVEN WITH THE SEED: THE CARDS: each row of YtiaofpolndcijaaGreatDoorRows.lean that lists a variable, with what it lists TIED to the program's text (the seventh form; the later family's looks); each row that meets fmt, with fmt's text TOLD by the authors' own Lean function (tested against real Go, not proved from fmt's source: count such statements apart). THE CARD IS WHAT COUNTS. Prove the row's statement (the work); the ties are given (YtiaofpolndcijaaGreatDoorTie.lean); close each card by the builder's one call (the guide's Derived/Test/ToyasCard.lean, 'card_holds'). Laid BY PROGRAM, IN A SANDBOX (cutbox-door.mjs). By AI agents, Wed Nov 11 2026. No macro, syntax, notation, axiom, sorry.
-/
import Derived.Test.YtiaofpolndcijaaGreatDoorRows
import GoSem.ClaimSeven
namespace Go.Proofs.YtiaofpolndcijaaGreatDoor
namespace Rows

/-- THE TIED CARD OF 'veneerlaw22.ModelSame'. -/
def modelSameCard : Claim7 := { stood := { row := modelSameRow, standIns := [], harness := (true, "b1c249ed85bf975a1829a5c67d252025e39d5b00cea8eb24aac47ed8e8a70cc4"), looks := false }, kinds := [], alts := [], laidByText := true, laidKinds := [.data, .pinned], laidTests := true, laidLooks := .later }
def ModelSameCardSaid : Prop := Claim7.holds Tryz.pinned (.plain (OpenSpec.ofChange modelSameSpec)) modelSameCard

/-- THE SECOND FORM's CARD OF 'veneerlaw22.ModelSame'. -/
def modelSameUptoCard : Claim7 := { stood := { row := modelSameUptoRow, standIns := [], harness := (true, "b1c249ed85bf975a1829a5c67d252025e39d5b00cea8eb24aac47ed8e8a70cc4"), looks := false }, kinds := [], alts := [], laidByText := true, laidKinds := [.data, .pinned], laidTests := true, laidLooks := .later }
def ModelSameUptoCardSaid : Prop := Claim7.holds Tryz.pinned (.plain (OpenSpec.upto modelSameSpec)) modelSameUptoCard
end Rows
end Go.Proofs.YtiaofpolndcijaaGreatDoor
