/-
  DERIVED. GIVEN WITH THE SEED: THE CARDS: each row of YtaimplifmlljlaaGreatDoorRows.lean that lists a variable, with what it lists TIED to the program's text (the seventh form; the later family's looks); each row that meets fmt, with fmt's text TOLD by the authors' own Lean function (tested against real Go, not proved from fmt's source: count such statements apart). THE CARD IS WHAT COUNTS. Prove the row's statement (the work); the ties are given (YtaimplifmlljlaaGreatDoorTie.lean); close each card by the builder's one call (the guide's Derived/Test/ToyasCard.lean, 'card_holds'). Laid BY PROGRAM, IN A SANDBOX (cutbox-door.mjs). By AI agents, Wed Nov 11 2026. No macro, syntax, notation, axiom, sorry.
-/
import Derived.Test.YtaimplifmlljlaaGreatDoorRows
import GoSem.ClaimSeven
namespace Go.Proofs.YtaimplifmlljlaaGreatDoor
namespace Rows

/-- THE TIED CARD OF 'turnerylaw4.StepOne'. -/
def stepOneCard : Claim7 := { stood := { row := stepOneRow, standIns := [], harness := (true, "f3d14f2bf2746eb19e895181275e3e51db81255bcfda4ba7c9a42c7d9dfd27b7"), looks := false }, kinds := [], alts := [], laidByText := true, laidKinds := [.data], laidTests := true, laidLooks := .later }
def StepOneCardSaid : Prop := Claim7.holds Tryz.pinned (.plain (OpenSpec.ofChange stepOneSpec)) stepOneCard

/-- THE SECOND FORM's CARD OF 'turnerylaw4.StepOne'. -/
def stepOneUptoCard : Claim7 := { stood := { row := stepOneUptoRow, standIns := [], harness := (true, "f3d14f2bf2746eb19e895181275e3e51db81255bcfda4ba7c9a42c7d9dfd27b7"), looks := false }, kinds := [], alts := [], laidByText := true, laidKinds := [.data], laidTests := true, laidLooks := .later }
def StepOneUptoCardSaid : Prop := Claim7.holds Tryz.pinned (.plain (OpenSpec.upto stepOneSpec)) stepOneUptoCard
end Rows
end Go.Proofs.YtaimplifmlljlaaGreatDoor
