/-
  DERIVED. GIVEN WITH THE SEED: THE CARDS: each row of YtamemffnklfofaaGreatDoorRows.lean that lists a variable, with what it lists TIED to the program's text (the seventh form; the later family's looks); each row that meets fmt, with fmt's text TOLD by the authors' own Lean function (tested against real Go, not proved from fmt's source: count such statements apart). THE CARD IS WHAT COUNTS. Prove the row's statement (the work); the ties are given (YtamemffnklfofaaGreatDoorTie.lean); close each card by the builder's one call (the guide's Derived/Test/ToyasCard.lean, 'card_holds'). Laid BY PROGRAM, IN A SANDBOX (cutbox-door.mjs). By AI agents, Wed Nov 11 2026. No macro, syntax, notation, axiom, sorry.
-/
import Derived.Test.YtamemffnklfofaaGreatDoorRows
import GoSem.ClaimSeven
namespace Go.Proofs.YtamemffnklfofaaGreatDoor
namespace Rows

/-- THE TIED CARD OF 'turnerylaw4.ThreadOne'. -/
def threadOneCard : Claim7 := { stood := { row := threadOneRow, standIns := [], harness := (true, "6d99981f20c1efa55b9ade450aacba829922f710623b5d0e589e5579aef47a9b"), looks := false }, kinds := [], alts := [], laidByText := true, laidKinds := [.data], laidTests := true, laidLooks := .later }
def ThreadOneCardSaid : Prop := Claim7.holds Tryz.pinned (.plain (OpenSpec.ofChange threadOneSpec)) threadOneCard

/-- THE SECOND FORM's CARD OF 'turnerylaw4.ThreadOne'. -/
def threadOneUptoCard : Claim7 := { stood := { row := threadOneUptoRow, standIns := [], harness := (true, "6d99981f20c1efa55b9ade450aacba829922f710623b5d0e589e5579aef47a9b"), looks := false }, kinds := [], alts := [], laidByText := true, laidKinds := [.data], laidTests := true, laidLooks := .later }
def ThreadOneUptoCardSaid : Prop := Claim7.holds Tryz.pinned (.plain (OpenSpec.upto threadOneSpec)) threadOneUptoCard
end Rows
end Go.Proofs.YtamemffnklfofaaGreatDoor
