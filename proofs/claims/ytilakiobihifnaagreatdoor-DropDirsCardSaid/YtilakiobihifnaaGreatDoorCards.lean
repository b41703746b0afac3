/-
  DERIVED. GIVEN WITH THE SEED: THE CARDS: each row of YtilakiobihifnaaGreatDoorRows.lean that lists a variable, with what it lists TIED to the program's text (the seventh form; the later family's looks); each row that meets fmt, with fmt's text TOLD by the authors' own Lean function (tested against real Go, not proved from fmt's source: count such statements apart). THE CARD IS WHAT COUNTS. Prove the row's statement (the work); the ties are given (YtilakiobihifnaaGreatDoorTie.lean); close each card by the builder's one call (the guide's Derived/Test/ToyasCard.lean, 'card_holds'). Laid BY PROGRAM, IN A SANDBOX (cutbox-door.mjs). By AI agents, Wed Nov 11 2026. No macro, syntax, notation, axiom, sorry.
-/
import Derived.Test.YtilakiobihifnaaGreatDoorRows
import GoSem.ClaimSeven
namespace Go.Proofs.YtilakiobihifnaaGreatDoor
namespace Rows

/-- THE TIED CARD OF 'veneerlaw20.DropNone'. -/
def dropNoneCard : Claim7 := { stood := { row := dropNoneRow, standIns := [], harness := (true, "9c8ba23f7355e099719889350af732cf3a546fa23d156900ae010f6dec4b9e68"), looks := false }, kinds := [], alts := [], laidByText := true, laidKinds := [.data, .data, .data], laidTests := true, laidLooks := .later }
def DropNoneCardSaid : Prop := Claim7.holds Tryz.pinned (.plain (OpenSpec.ofChange dropNoneSpec)) dropNoneCard

/-- THE TIED CARD OF 'veneerlaw20.DropDirs'. -/
def dropDirsCard : Claim7 := { stood := { row := dropDirsRow, standIns := [], harness := (true, "9c8ba23f7355e099719889350af732cf3a546fa23d156900ae010f6dec4b9e68"), looks := false }, kinds := [], alts := [], laidByText := true, laidKinds := [.data, .data, .data], laidTests := true, laidLooks := .later }
def DropDirsCardSaid : Prop := Claim7.holds Tryz.pinned (.plain (OpenSpec.ofChange dropDirsSpec)) dropDirsCard

/-- THE SECOND FORM's CARD OF 'veneerlaw20.DropNone'. -/
def dropNoneUptoCard : Claim7 := { stood := { row := dropNoneUptoRow, standIns := [], harness := (true, "9c8ba23f7355e099719889350af732cf3a546fa23d156900ae010f6dec4b9e68"), looks := false }, kinds := [], alts := [], laidByText := true, laidKinds := [.data, .data, .data], laidTests := true, laidLooks := .later }
def DropNoneUptoCardSaid : Prop := Claim7.holds Tryz.pinned (.plain (OpenSpec.upto dropNoneSpec)) dropNoneUptoCard

/-- THE SECOND FORM's CARD OF 'veneerlaw20.DropDirs'. -/
def dropDirsUptoCard : Claim7 := { stood := { row := dropDirsUptoRow, standIns := [], harness := (true, "9c8ba23f7355e099719889350af732cf3a546fa23d156900ae010f6dec4b9e68"), looks := false }, kinds := [], alts := [], laidByText := true, laidKinds := [.data, .data, .data], laidTests := true, laidLooks := .later }
def DropDirsUptoCardSaid : Prop := Claim7.holds Tryz.pinned (.plain (OpenSpec.upto dropDirsSpec)) dropDirsUptoCard
end Rows
end Go.Proofs.YtilakiobihifnaaGreatDoor
