/-
  DERIVED. GIVEN WITH THE SEED: THE CARDS: each row of YtjgkhimmmnapeaaGreatDoorRows.lean that lists a variable, with what it lists TIED to the program's text (the seventh form; the later family's looks); each row that meets fmt, with fmt's text TOLD by the authors' own Lean function (tested against real Go, not proved from fmt's source: count such statements apart). THE CARD IS WHAT COUNTS. Prove the row's statement (the work); the ties are given (YtjgkhimmmnapeaaGreatDoorTie.lean); close each card by the builder's one call (the guide's Derived/Test/ToyasCard.lean, 'card_holds'). Laid BY PROGRAM, IN A SANDBOX (cutbox-door.mjs). By AI agents, Wed Nov 11 2026. No macro, syntax, notation, axiom, sorry.
-/
import Derived.Test.YtjgkhimmmnapeaaGreatDoorRows
import GoSem.ClaimSeven
namespace Go.Proofs.YtjgkhimmmnapeaaGreatDoor
namespace Rows

/-- THE TIED CARD OF 'veneerlaw8.BranchOrder'. -/
def branchOrderCard : Claim7 := { stood := { row := branchOrderRow, standIns := [], harness := (true, "5f2df0834e29848c4c6a266343f92d5814869743f7b255ffecc07db109a3bb8b"), looks := false }, kinds := [], alts := [], laidByText := true, laidKinds := [.data, .pinned], laidTests := true, laidLooks := .later }
def BranchOrderCardSaid : Prop := Claim7.holds Tryz.pinned (.plain (OpenSpec.ofChange branchOrderSpec)) branchOrderCard

/-- THE TIED CARD OF 'veneerlaw8.BranchLinks'. -/
def branchLinksCard : Claim7 := { stood := { row := branchLinksRow, standIns := [], harness := (true, "5f2df0834e29848c4c6a266343f92d5814869743f7b255ffecc07db109a3bb8b"), looks := false }, kinds := [], alts := [], laidByText := true, laidKinds := [.data, .pinned], laidTests := true, laidLooks := .later }
def BranchLinksCardSaid : Prop := Claim7.holds Tryz.pinned (.plain (OpenSpec.ofChange branchLinksSpec)) branchLinksCard

/-- THE TIED CARD OF 'veneerlaw22.ModelOrder'. -/
def modelOrderCard : Claim7 := { stood := { row := modelOrderRow, standIns := [], harness := (true, "5f2df0834e29848c4c6a266343f92d5814869743f7b255ffecc07db109a3bb8b"), looks := false }, kinds := [], alts := [], laidByText := true, laidKinds := [.data, .pinned], laidTests := true, laidLooks := .later }
def ModelOrderCardSaid : Prop := Claim7.holds Tryz.pinned (.plain (OpenSpec.ofChange modelOrderSpec)) modelOrderCard

/-- THE SECOND FORM's CARD OF 'veneerlaw8.BranchOrder'. -/
def branchOrderUptoCard : Claim7 := { stood := { row := branchOrderUptoRow, standIns := [], harness := (true, "5f2df0834e29848c4c6a266343f92d5814869743f7b255ffecc07db109a3bb8b"), looks := false }, kinds := [], alts := [], laidByText := true, laidKinds := [.data, .pinned], laidTests := true, laidLooks := .later }
def BranchOrderUptoCardSaid : Prop := Claim7.holds Tryz.pinned (.plain (OpenSpec.upto branchOrderSpec)) branchOrderUptoCard

/-- THE SECOND FORM's CARD OF 'veneerlaw8.BranchLinks'. -/
def branchLinksUptoCard : Claim7 := { stood := { row := branchLinksUptoRow, standIns := [], harness := (true, "5f2df0834e29848c4c6a266343f92d5814869743f7b255ffecc07db109a3bb8b"), looks := false }, kinds := [], alts := [], laidByText := true, laidKinds := [.data, .pinned], laidTests := true, laidLooks := .later }
def BranchLinksUptoCardSaid : Prop := Claim7.holds Tryz.pinned (.plain (OpenSpec.upto branchLinksSpec)) branchLinksUptoCard

/-- THE SECOND FORM's CARD OF 'veneerlaw22.ModelOrder'. -/
def modelOrderUptoCard : Claim7 := { stood := { row := modelOrderUptoRow, standIns := [], harness := (true, "5f2df0834e29848c4c6a266343f92d5814869743f7b255ffecc07db109a3bb8b"), looks := false }, kinds := [], alts := [], laidByText := true, laidKinds := [.data, .pinned], laidTests := true, laidLooks := .later }
def ModelOrderUptoCardSaid : Prop := Claim7.holds Tryz.pinned (.plain (OpenSpec.upto modelOrderSpec)) modelOrderUptoCard
end Rows
end Go.Proofs.YtjgkhimmmnapeaaGreatDoor
