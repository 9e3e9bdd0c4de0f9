/-
  DERIVED. GIVEN WITH THE SEED: THE CARDS: each row of YtlihjoclchlflaaGreatDoorRows.lean that lists a variable, with what it lists TIED to the program's text (the seventh form; the later family's looks); each row that meets fmt, with fmt's text TOLD by the authors' own Lean function (tested against real Go, not proved from fmt's source: count such statements apart). THE CARD IS WHAT COUNTS. Prove the row's statement (the work); the ties are given (YtlihjoclchlflaaGreatDoorTie.lean); close each card by the builder's one call (the guide's Derived/Test/ToyasCard.lean, 'card_holds'). Laid BY PROGRAM, IN A SANDBOX (cutbox-door.mjs). By AI agents, Wed Nov 11 2026. No macro, syntax, notation, axiom, sorry.
-/
import Derived.Test.YtlihjoclchlflaaGreatDoorRows
import GoSem.ClaimSeven
namespace Go.Proofs.YtlihjoclchlflaaGreatDoor
namespace Rows

/-- THE TIED CARD OF 'turnerylaw4.DeadRing'. -/
def deadRingCard : Claim7 := { stood := { row := deadRingRow, standIns := [], harness := (true, "febfead6179cd52806174045115f0adfb374baf1c29284a0ea4ebc439c84c3d8"), looks := false }, kinds := [], alts := [], laidByText := true, laidKinds := [.data], laidTests := true, laidLooks := .later }
def DeadRingCardSaid : Prop := Claim7.holds Tryz.pinned (.plain (OpenSpec.ofChange deadRingSpec)) deadRingCard

/-- THE SECOND FORM's CARD OF 'turnerylaw4.DeadRing'. -/
def deadRingUptoCard : Claim7 := { stood := { row := deadRingUptoRow, standIns := [], harness := (true, "febfead6179cd52806174045115f0adfb374baf1c29284a0ea4ebc439c84c3d8"), looks := false }, kinds := [], alts := [], laidByText := true, laidKinds := [.data], laidTests := true, laidLooks := .later }
def DeadRingUptoCardSaid : Prop := Claim7.holds Tryz.pinned (.plain (OpenSpec.upto deadRingSpec)) deadRingUptoCard
end Rows
end Go.Proofs.YtlihjoclchlflaaGreatDoor
