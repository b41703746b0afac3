/-
  DERIVED. GIVEN WITH THE SEED: THE CARDS: each row of YtaeakifdamlnlaaDoorRows.lean that lists a variable, with what it lists TIED to the program's text (the seventh form; the later family's looks); each row that meets fmt, with fmt's text TOLD by the authors' own Lean function (tested against real Go, not proved from fmt's source: count such statements apart). THE CARD IS WHAT COUNTS. Prove the row's statement (the work); the ties are given (YtaeakifdamlnlaaDoorTie.lean); close each card by the builder's one call (the guide's Derived/Test/ToyasCard.lean, 'card_holds'). Laid BY PROGRAM, IN A SANDBOX (cutbox-door.mjs). By AI agents, Wed Nov 11 2026. No macro, syntax, notation, axiom, sorry.
-/
import Derived.Test.YtaeakifdamlnlaaDoorRows
import GoSem.ClaimSeven
namespace Go.Proofs.YtaeakifdamlnlaaDoor
namespace Rows

/-- THE TIED CARD OF 'veneerlaw10.MarkTells'. -/
def markTellsCard : Claim7 := { stood := { row := markTellsRow, standIns := [], harness := (true, "73c7b1dfb8b93d32fffd61b244a601e1a7b088d6318a09a0c2f3f94901476b7e"), looks := false }, kinds := [], alts := [], laidByText := true, laidKinds := [.data, .data, .data], laidTests := true, laidLooks := .later }
def MarkTellsCardSaid : Prop := Claim7.holds Tryd.pinned (.plain (OpenSpec.ofChange markTellsSpec)) markTellsCard

/-- THE TIED CARD OF 'veneerlaw10.MarkSigns'. -/
def markSignsCard : Claim7 := { stood := { row := markSignsRow, standIns := [], harness := (true, "73c7b1dfb8b93d32fffd61b244a601e1a7b088d6318a09a0c2f3f94901476b7e"), looks := false }, kinds := [], alts := [], laidByText := true, laidKinds := [.data, .data, .data], laidTests := true, laidLooks := .later }
def MarkSignsCardSaid : Prop := Claim7.holds Tryd.pinned (.plain (OpenSpec.ofChange markSignsSpec)) markSignsCard

/-- THE SECOND FORM's CARD OF 'veneerlaw10.MarkTells'. -/
def markTellsUptoCard : Claim7 := { stood := { row := markTellsUptoRow, standIns := [], harness := (true, "73c7b1dfb8b93d32fffd61b244a601e1a7b088d6318a09a0c2f3f94901476b7e"), looks := false }, kinds := [], alts := [], laidByText := true, laidKinds := [.data, .data, .data], laidTests := true, laidLooks := .later }
def MarkTellsUptoCardSaid : Prop := Claim7.holds Tryd.pinned (.plain (OpenSpec.upto markTellsSpec)) markTellsUptoCard

/-- THE SECOND FORM's CARD OF 'veneerlaw10.MarkSigns'. -/
def markSignsUptoCard : Claim7 := { stood := { row := markSignsUptoRow, standIns := [], harness := (true, "73c7b1dfb8b93d32fffd61b244a601e1a7b088d6318a09a0c2f3f94901476b7e"), looks := false }, kinds := [], alts := [], laidByText := true, laidKinds := [.data, .data, .data], laidTests := true, laidLooks := .later }
def MarkSignsUptoCardSaid : Prop := Claim7.holds Tryd.pinned (.plain (OpenSpec.upto markSignsSpec)) markSignsUptoCard
end Rows
end Go.Proofs.YtaeakifdamlnlaaDoor
