/-
  DERIVED. GIVEN WITH THE SEED: THE CARDS: each row of YtmdpidhnaddbcaaGreatDoorRows.lean that lists a variable, with what it lists TIED to the program's text (the seventh form; the later family's looks); each row that meets fmt, with fmt's text TOLD by the authors' own Lean function (tested against real Go, not proved from fmt's source: count such statements apart). THE CARD IS WHAT COUNTS. Prove the row's statement (the work); the ties are given (YtmdpidhnaddbcaaGreatDoorTie.lean); close each card by the builder's one call (the guide's Derived/Test/ToyasCard.lean, 'card_holds'). Laid BY PROGRAM, IN A SANDBOX (cutbox-door.mjs). By AI agents, Wed Nov 11 2026. No macro, syntax, notation, axiom, sorry.
-/
import Derived.Test.YtmdpidhnaddbcaaGreatDoorRows
import GoSem.ClaimSeven
namespace Go.Proofs.YtmdpidhnaddbcaaGreatDoor
namespace Rows

/-- THE TIED CARD OF 'turnerylaw4.DeadNothing'. -/
def deadNothingCard : Claim7 := { stood := { row := deadNothingRow, standIns := [], harness := (true, "2ef1104f007a141d081564d7ff898667ecb67cfb063685da66494314089acc7d"), looks := false }, kinds := [], alts := [], laidByText := true, laidKinds := [.data], laidTests := true, laidLooks := .later }
def DeadNothingCardSaid : Prop := Claim7.holds Tryz.pinned (.plain (OpenSpec.ofChange deadNothingSpec)) deadNothingCard

/-- THE SECOND FORM's CARD OF 'turnerylaw4.DeadNothing'. -/
def deadNothingUptoCard : Claim7 := { stood := { row := deadNothingUptoRow, standIns := [], harness := (true, "2ef1104f007a141d081564d7ff898667ecb67cfb063685da66494314089acc7d"), looks := false }, kinds := [], alts := [], laidByText := true, laidKinds := [.data], laidTests := true, laidLooks := .later }
def DeadNothingUptoCardSaid : Prop := Claim7.holds Tryz.pinned (.plain (OpenSpec.upto deadNothingSpec)) deadNothingUptoCard
end Rows
end Go.Proofs.YtmdpidhnaddbcaaGreatDoor
