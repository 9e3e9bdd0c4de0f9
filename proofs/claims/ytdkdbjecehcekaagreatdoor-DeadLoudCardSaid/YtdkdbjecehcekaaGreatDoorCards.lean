/-
  DERIVED. GIVEN WITH THE SEED: THE CARDS: each row of YtdkdbjecehcekaaGreatDoorRows.lean that lists a variable, with what it lists TIED to the program's text (the seventh form; the later family's looks); each row that meets fmt, with fmt's text TOLD by the authors' own Lean function (tested against real Go, not proved from fmt's source: count such statements apart). THE CARD IS WHAT COUNTS. Prove the row's statement (the work); the ties are given (YtdkdbjecehcekaaGreatDoorTie.lean); close each card by the builder's one call (the guide's Derived/Test/ToyasCard.lean, 'card_holds'). Laid BY PROGRAM, IN A SANDBOX (cutbox-door.mjs). By AI agents, Wed Nov 11 2026. No macro, syntax, notation, axiom, sorry.
-/
import Derived.Test.YtdkdbjecehcekaaGreatDoorRows
import GoSem.ClaimSeven
namespace Go.Proofs.YtdkdbjecehcekaaGreatDoor
namespace Rows

/-- THE TIED CARD OF 'turnerylaw4.DeadLoud'. -/
def deadLoudCard : Claim7 := { stood := { row := deadLoudRow, standIns := [], harness := (true, "917a6b0ec1768f999b7eeac0110725646d64a8332432bc5a8393a1598f51d86e"), looks := false }, kinds := [], alts := [], laidByText := true, laidKinds := [.data], laidTests := true, laidLooks := .later }
def DeadLoudCardSaid : Prop := Claim7.holds Tryz.pinned (.plain (OpenSpec.ofChange deadLoudSpec)) deadLoudCard

/-- THE SECOND FORM's CARD OF 'turnerylaw4.DeadLoud'. -/
def deadLoudUptoCard : Claim7 := { stood := { row := deadLoudUptoRow, standIns := [], harness := (true, "917a6b0ec1768f999b7eeac0110725646d64a8332432bc5a8393a1598f51d86e"), looks := false }, kinds := [], alts := [], laidByText := true, laidKinds := [.data], laidTests := true, laidLooks := .later }
def DeadLoudUptoCardSaid : Prop := Claim7.holds Tryz.pinned (.plain (OpenSpec.upto deadLoudSpec)) deadLoudUptoCard
end Rows
end Go.Proofs.YtdkdbjecehcekaaGreatDoor
