/-
  DERIVED. GIVEN WITH THE SEED: THE CARDS: each row of YtmidnladamlfnaaGreatDoorRows.lean that lists a variable, with what it lists TIED to the program's text (the seventh form; the later family's looks); each row that meets fmt, with fmt's text TOLD by the authors' own Lean function (tested against real Go, not proved from fmt's source: count such statements apart). THE CARD IS WHAT COUNTS. Prove the row's statement (the work); the ties are given (YtmidnladamlfnaaGreatDoorTie.lean); close each card by the builder's one call (the guide's Derived/Test/ToyasCard.lean, 'card_holds'). Laid BY PROGRAM, IN A SANDBOX (cutbox-door.mjs). By AI agents, Wed Nov 11 2026. No macro, syntax, notation, axiom, sorry.
-/
import Derived.Test.YtmidnladamlfnaaGreatDoorRows
import GoSem.ClaimSeven
namespace Go.Proofs.YtmidnladamlfnaaGreatDoor
namespace Rows

/-- THE TIED CARD OF 'turnerylaw4.HoistOne'. -/
def hoistOneCard : Claim7 := { stood := { row := hoistOneRow, standIns := [], harness := (true, "157ee2d1ba1675fec66a8ecd8bb9d98de07ce41e632b70da5952d83e1a91a9e4"), looks := false }, kinds := [], alts := [], laidByText := true, laidKinds := [.data], laidTests := true, laidLooks := .later }
def HoistOneCardSaid : Prop := Claim7.holds Tryz.pinned (.plain (OpenSpec.ofChange hoistOneSpec)) hoistOneCard

/-- THE SECOND FORM's CARD OF 'turnerylaw4.HoistOne'. -/
def hoistOneUptoCard : Claim7 := { stood := { row := hoistOneUptoRow, standIns := [], harness := (true, "157ee2d1ba1675fec66a8ecd8bb9d98de07ce41e632b70da5952d83e1a91a9e4"), looks := false }, kinds := [], alts := [], laidByText := true, laidKinds := [.data], laidTests := true, laidLooks := .later }
def HoistOneUptoCardSaid : Prop := Claim7.holds Tryz.pinned (.plain (OpenSpec.upto hoistOneSpec)) hoistOneUptoCard
end Rows
end Go.Proofs.YtmidnladamlfnaaGreatDoor
