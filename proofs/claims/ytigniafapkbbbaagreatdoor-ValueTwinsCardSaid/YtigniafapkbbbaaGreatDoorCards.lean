/-
  DERIVED. GIVEN WITH THE SEED: THE CARDS: each row of YtigniafapkbbbaaGreatDoorRows.lean that lists a variable, with what it lists TIED to the program's text (the seventh form; the later family's looks); each row that meets fmt, with fmt's text TOLD by the authors' own Lean function (tested against real Go, not proved from fmt's source: count such statements apart). THE CARD IS WHAT COUNTS. Prove the row's statement (the work); the ties are given (YtigniafapkbbbaaGreatDoorTie.lean); close each card by the builder's one call (the guide's Derived/Test/ToyasCard.lean, 'card_holds'). Laid BY PROGRAM, IN A SANDBOX (cutbox-door.mjs). By AI agents, Wed Nov 11 2026. No macro, syntax, notation, axiom, sorry.
-/
import Derived.Test.YtigniafapkbbbaaGreatDoorRows
import GoSem.ClaimSeven
namespace Go.Proofs.YtigniafapkbbbaaGreatDoor
namespace Rows

/-- THE TIED CARD OF 'turnerylaw4.ValueTwins'. -/
def valueTwinsCard : Claim7 := { stood := { row := valueTwinsRow, standIns := [], harness := (true, "dd267b7c8c78b1cdd5200fdcce0930503b04a00beeea74ecfb9d34f0ac7da32b"), looks := false }, kinds := [], alts := [], laidByText := true, laidKinds := [.data], laidTests := true, laidLooks := .later }
def ValueTwinsCardSaid : Prop := Claim7.holds Tryz.pinned (.plain (OpenSpec.ofChange valueTwinsSpec)) valueTwinsCard

/-- THE SECOND FORM's CARD OF 'turnerylaw4.ValueTwins'. -/
def valueTwinsUptoCard : Claim7 := { stood := { row := valueTwinsUptoRow, standIns := [], harness := (true, "dd267b7c8c78b1cdd5200fdcce0930503b04a00beeea74ecfb9d34f0ac7da32b"), looks := false }, kinds := [], alts := [], laidByText := true, laidKinds := [.data], laidTests := true, laidLooks := .later }
def ValueTwinsUptoCardSaid : Prop := Claim7.holds Tryz.pinned (.plain (OpenSpec.upto valueTwinsSpec)) valueTwinsUptoCard
end Rows
end Go.Proofs.YtigniafapkbbbaaGreatDoor
