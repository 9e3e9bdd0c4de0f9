/-
  DERIVED. GIVEN WITH THE SEED: THE CARDS: each row of YtdhnndleffachaaGreatDoorRows.lean that lists a variable, with what it lists TIED to the program's text (the seventh form; the later family's looks); each row that meets fmt, with fmt's text TOLD by the authors' own Lean function (tested against real Go, not proved from fmt's source: count such statements apart). THE CARD IS WHAT COUNTS. Prove the row's statement (the work); the ties are given (YtdhnndleffachaaGreatDoorTie.lean); close each card by the builder's one call (the guide's Derived/Test/ToyasCard.lean, 'card_holds'). Laid BY PROGRAM, IN A SANDBOX (cutbox-door.mjs). By AI agents, Wed Nov 11 2026. No macro, syntax, notation, axiom, sorry.
-/
import Derived.Test.YtdhnndleffachaaGreatDoorRows
import GoSem.ClaimSeven
namespace Go.Proofs.YtdhnndleffachaaGreatDoor
namespace Rows

/-- THE TIED CARD OF 'turnerylaw4.DeadSays'. -/
def deadSaysCard : Claim7 := { stood := { row := deadSaysRow, standIns := [], harness := (true, "cb32942601511fab7ad9fbdee645987344ef58f4d4a0d260ec0b96243efde1ec"), looks := false }, kinds := [], alts := [], laidByText := true, laidKinds := [.data], laidTests := true, laidLooks := .later }
def DeadSaysCardSaid : Prop := Claim7.holds Tryz.pinned (.plain (OpenSpec.ofChange deadSaysSpec)) deadSaysCard

/-- THE TIED CARD OF 'turnerylaw4.ThreadSays'. -/
def threadSaysCard : Claim7 := { stood := { row := threadSaysRow, standIns := [], harness := (true, "cb32942601511fab7ad9fbdee645987344ef58f4d4a0d260ec0b96243efde1ec"), looks := false }, kinds := [], alts := [], laidByText := true, laidKinds := [.data], laidTests := true, laidLooks := .later }
def ThreadSaysCardSaid : Prop := Claim7.holds Tryz.pinned (.plain (OpenSpec.ofChange threadSaysSpec)) threadSaysCard

/-- THE TIED CARD OF 'turnerylaw4.ValueSays'. -/
def valueSaysCard : Claim7 := { stood := { row := valueSaysRow, standIns := [], harness := (true, "cb32942601511fab7ad9fbdee645987344ef58f4d4a0d260ec0b96243efde1ec"), looks := false }, kinds := [], alts := [], laidByText := true, laidKinds := [.data], laidTests := true, laidLooks := .later }
def ValueSaysCardSaid : Prop := Claim7.holds Tryz.pinned (.plain (OpenSpec.ofChange valueSaysSpec)) valueSaysCard

/-- THE TIED CARD OF 'turnerylaw4.ValueLoud'. -/
def valueLoudCard : Claim7 := { stood := { row := valueLoudRow, standIns := [], harness := (true, "cb32942601511fab7ad9fbdee645987344ef58f4d4a0d260ec0b96243efde1ec"), looks := false }, kinds := [], alts := [], laidByText := true, laidKinds := [.data], laidTests := true, laidLooks := .later }
def ValueLoudCardSaid : Prop := Claim7.holds Tryz.pinned (.plain (OpenSpec.ofChange valueLoudSpec)) valueLoudCard

/-- THE TIED CARD OF 'turnerylaw4.SparseSays'. -/
def sparseSaysCard : Claim7 := { stood := { row := sparseSaysRow, standIns := [], harness := (true, "cb32942601511fab7ad9fbdee645987344ef58f4d4a0d260ec0b96243efde1ec"), looks := false }, kinds := [], alts := [], laidByText := true, laidKinds := [.data], laidTests := true, laidLooks := .later }
def SparseSaysCardSaid : Prop := Claim7.holds Tryz.pinned (.plain (OpenSpec.ofChange sparseSaysSpec)) sparseSaysCard

/-- THE TIED CARD OF 'turnerylaw4.SparseLoud'. -/
def sparseLoudCard : Claim7 := { stood := { row := sparseLoudRow, standIns := [], harness := (true, "cb32942601511fab7ad9fbdee645987344ef58f4d4a0d260ec0b96243efde1ec"), looks := false }, kinds := [], alts := [], laidByText := true, laidKinds := [.data], laidTests := true, laidLooks := .later }
def SparseLoudCardSaid : Prop := Claim7.holds Tryz.pinned (.plain (OpenSpec.ofChange sparseLoudSpec)) sparseLoudCard

/-- THE TIED CARD OF 'turnerylaw4.OutSays'. -/
def outSaysCard : Claim7 := { stood := { row := outSaysRow, standIns := [], harness := (true, "cb32942601511fab7ad9fbdee645987344ef58f4d4a0d260ec0b96243efde1ec"), looks := false }, kinds := [], alts := [], laidByText := true, laidKinds := [.data], laidTests := true, laidLooks := .later }
def OutSaysCardSaid : Prop := Claim7.holds Tryz.pinned (.plain (OpenSpec.ofChange outSaysSpec)) outSaysCard

/-- THE TIED CARD OF 'turnerylaw4.OutRegs'. -/
def outRegsCard : Claim7 := { stood := { row := outRegsRow, standIns := [], harness := (true, "cb32942601511fab7ad9fbdee645987344ef58f4d4a0d260ec0b96243efde1ec"), looks := false }, kinds := [], alts := [], laidByText := true, laidKinds := [.data], laidTests := true, laidLooks := .later }
def OutRegsCardSaid : Prop := Claim7.holds Tryz.pinned (.plain (OpenSpec.ofChange outRegsSpec)) outRegsCard

/-- THE SECOND FORM's CARD OF 'turnerylaw4.DeadSays'. -/
def deadSaysUptoCard : Claim7 := { stood := { row := deadSaysUptoRow, standIns := [], harness := (true, "cb32942601511fab7ad9fbdee645987344ef58f4d4a0d260ec0b96243efde1ec"), looks := false }, kinds := [], alts := [], laidByText := true, laidKinds := [.data], laidTests := true, laidLooks := .later }
def DeadSaysUptoCardSaid : Prop := Claim7.holds Tryz.pinned (.plain (OpenSpec.upto deadSaysSpec)) deadSaysUptoCard

/-- THE SECOND FORM's CARD OF 'turnerylaw4.ThreadSays'. -/
def threadSaysUptoCard : Claim7 := { stood := { row := threadSaysUptoRow, standIns := [], harness := (true, "cb32942601511fab7ad9fbdee645987344ef58f4d4a0d260ec0b96243efde1ec"), looks := false }, kinds := [], alts := [], laidByText := true, laidKinds := [.data], laidTests := true, laidLooks := .later }
def ThreadSaysUptoCardSaid : Prop := Claim7.holds Tryz.pinned (.plain (OpenSpec.upto threadSaysSpec)) threadSaysUptoCard

/-- THE SECOND FORM's CARD OF 'turnerylaw4.ValueSays'. -/
def valueSaysUptoCard : Claim7 := { stood := { row := valueSaysUptoRow, standIns := [], harness := (true, "cb32942601511fab7ad9fbdee645987344ef58f4d4a0d260ec0b96243efde1ec"), looks := false }, kinds := [], alts := [], laidByText := true, laidKinds := [.data], laidTests := true, laidLooks := .later }
def ValueSaysUptoCardSaid : Prop := Claim7.holds Tryz.pinned (.plain (OpenSpec.upto valueSaysSpec)) valueSaysUptoCard

/-- THE SECOND FORM's CARD OF 'turnerylaw4.ValueLoud'. -/
def valueLoudUptoCard : Claim7 := { stood := { row := valueLoudUptoRow, standIns := [], harness := (true, "cb32942601511fab7ad9fbdee645987344ef58f4d4a0d260ec0b96243efde1ec"), looks := false }, kinds := [], alts := [], laidByText := true, laidKinds := [.data], laidTests := true, laidLooks := .later }
def ValueLoudUptoCardSaid : Prop := Claim7.holds Tryz.pinned (.plain (OpenSpec.upto valueLoudSpec)) valueLoudUptoCard

/-- THE SECOND FORM's CARD OF 'turnerylaw4.SparseSays'. -/
def sparseSaysUptoCard : Claim7 := { stood := { row := sparseSaysUptoRow, standIns := [], harness := (true, "cb32942601511fab7ad9fbdee645987344ef58f4d4a0d260ec0b96243efde1ec"), looks := false }, kinds := [], alts := [], laidByText := true, laidKinds := [.data], laidTests := true, laidLooks := .later }
def SparseSaysUptoCardSaid : Prop := Claim7.holds Tryz.pinned (.plain (OpenSpec.upto sparseSaysSpec)) sparseSaysUptoCard

/-- THE SECOND FORM's CARD OF 'turnerylaw4.SparseLoud'. -/
def sparseLoudUptoCard : Claim7 := { stood := { row := sparseLoudUptoRow, standIns := [], harness := (true, "cb32942601511fab7ad9fbdee645987344ef58f4d4a0d260ec0b96243efde1ec"), looks := false }, kinds := [], alts := [], laidByText := true, laidKinds := [.data], laidTests := true, laidLooks := .later }
def SparseLoudUptoCardSaid : Prop := Claim7.holds Tryz.pinned (.plain (OpenSpec.upto sparseLoudSpec)) sparseLoudUptoCard

/-- THE SECOND FORM's CARD OF 'turnerylaw4.OutSays'. -/
def outSaysUptoCard : Claim7 := { stood := { row := outSaysUptoRow, standIns := [], harness := (true, "cb32942601511fab7ad9fbdee645987344ef58f4d4a0d260ec0b96243efde1ec"), looks := false }, kinds := [], alts := [], laidByText := true, laidKinds := [.data], laidTests := true, laidLooks := .later }
def OutSaysUptoCardSaid : Prop := Claim7.holds Tryz.pinned (.plain (OpenSpec.upto outSaysSpec)) outSaysUptoCard

/-- THE SECOND FORM's CARD OF 'turnerylaw4.OutRegs'. -/
def outRegsUptoCard : Claim7 := { stood := { row := outRegsUptoRow, standIns := [], harness := (true, "cb32942601511fab7ad9fbdee645987344ef58f4d4a0d260ec0b96243efde1ec"), looks := false }, kinds := [], alts := [], laidByText := true, laidKinds := [.data], laidTests := true, laidLooks := .later }
def OutRegsUptoCardSaid : Prop := Claim7.holds Tryz.pinned (.plain (OpenSpec.upto outRegsSpec)) outRegsUptoCard
end Rows
end Go.Proofs.YtdhnndleffachaaGreatDoor
