/-
  DERIVED. GIVEN WITH THE SEED: THE CARDS: each row of YtehbhfobjechpaaGreatDoorRows.lean that lists a variable, with what it lists TIED to the program's text (the seventh form; the later family's looks); each row that meets fmt, with fmt's text TOLD by the authors' own Lean function (tested against real Go, not proved from fmt's source: count such statements apart). THE CARD IS WHAT COUNTS. Prove the row's statement (the work); the ties are given (YtehbhfobjechpaaGreatDoorTie.lean); close each card by the builder's one call (the guide's Derived/Test/ToyasCard.lean, 'card_holds'). Laid BY PROGRAM, IN A SANDBOX (cutbox-door.mjs). By AI agents, Wed Nov 11 2026. No macro, syntax, notation, axiom, sorry.
-/
import Derived.Test.YtehbhfobjechpaaGreatDoorRows
import GoSem.ClaimSeven
namespace Go.Proofs.YtehbhfobjechpaaGreatDoor
namespace Rows

/-- THE TIED CARD OF 'turnerylaw4.SparseStraight'. -/
def sparseStraightCard : Claim7 := { stood := { row := sparseStraightRow, standIns := [], harness := (true, "cd51d1fa9e9a31288bdcc1f5d4ae17780c9a171f5dc01996384a8e5d9392ab20"), looks := false }, kinds := [], alts := [], laidByText := true, laidKinds := [.data], laidTests := true, laidLooks := .later }
def SparseStraightCardSaid : Prop := Claim7.holds Tryz.pinned (.plain (OpenSpec.ofChange sparseStraightSpec)) sparseStraightCard

/-- THE SECOND FORM's CARD OF 'turnerylaw4.SparseStraight'. -/
def sparseStraightUptoCard : Claim7 := { stood := { row := sparseStraightUptoRow, standIns := [], harness := (true, "cd51d1fa9e9a31288bdcc1f5d4ae17780c9a171f5dc01996384a8e5d9392ab20"), looks := false }, kinds := [], alts := [], laidByText := true, laidKinds := [.data], laidTests := true, laidLooks := .later }
def SparseStraightUptoCardSaid : Prop := Claim7.holds Tryz.pinned (.plain (OpenSpec.upto sparseStraightSpec)) sparseStraightUptoCard
end Rows
end Go.Proofs.YtehbhfobjechpaaGreatDoor
