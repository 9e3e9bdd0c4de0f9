/-
  DERIVED. GIVEN WITH THE SEED: THE CARDS: each row of YtgojhbijljmgnaaGreatDoorRows.lean that lists a variable, with what it lists TIED to the program's text (the seventh form; the later family's looks); each row that meets fmt, with fmt's text TOLD by the authors' own Lean function (tested against real Go, not proved from fmt's source: count such statements apart). THE CARD IS WHAT COUNTS. Prove the row's statement (the work); the ties are given (YtgojhbijljmgnaaGreatDoorTie.lean); close each card by the builder's one call (the guide's Derived/Test/ToyasCard.lean, 'card_holds'). Laid BY PROGRAM, IN A SANDBOX (cutbox-door.mjs). By AI agents, Wed Nov 11 2026. No macro, syntax, notation, axiom, sorry.
-/
import Derived.Test.YtgojhbijljmgnaaGreatDoorRows
import GoSem.ClaimSeven
namespace Go.Proofs.YtgojhbijljmgnaaGreatDoor
namespace Rows

/-- THE TIED CARD OF 'turnerylaw4.OutOne'. -/
def outOneCard : Claim7 := { stood := { row := outOneRow, standIns := [], harness := (true, "bf8522911404fda7be49f1a008e9c325c42beedd8eea55030f2cee66ecb3c8fa"), looks := false }, kinds := [], alts := [], laidByText := true, laidKinds := [.data], laidTests := true, laidLooks := .later }
def OutOneCardSaid : Prop := Claim7.holds Tryz.pinned (.plain (OpenSpec.ofChange outOneSpec)) outOneCard

/-- THE SECOND FORM's CARD OF 'turnerylaw4.OutOne'. -/
def outOneUptoCard : Claim7 := { stood := { row := outOneUptoRow, standIns := [], harness := (true, "bf8522911404fda7be49f1a008e9c325c42beedd8eea55030f2cee66ecb3c8fa"), looks := false }, kinds := [], alts := [], laidByText := true, laidKinds := [.data], laidTests := true, laidLooks := .later }
def OutOneUptoCardSaid : Prop := Claim7.holds Tryz.pinned (.plain (OpenSpec.upto outOneSpec)) outOneUptoCard
end Rows
end Go.Proofs.YtgojhbijljmgnaaGreatDoor
