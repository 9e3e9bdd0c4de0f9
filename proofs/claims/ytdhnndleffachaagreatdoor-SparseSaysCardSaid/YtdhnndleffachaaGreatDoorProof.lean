/- For every unit the law SparseSays returns true, and what stood in memory stands as it stood; the variable turnery/code.ways holds what the program's text lays. -/
import Derived.Test.YtdhnndleffachaaGreatDoorRows
import Derived.Test.YtdhnndleffachaaGreatDoorCards
import Derived.Test.YtdhnndleffachaaGreatDoorTie
import Derived.Test.YtdhnndleffachaaGreatDoorProofB
set_option linter.all false
set_option maxHeartbeats 1000000
namespace Go.Proofs.YtdhnndleffachaaGreatDoor
open Go Go.ChangeShapes Go.WideShapes Go.ChangeAt Go.RowKit
theorem sparseSays_card:Rows.SparseSaysCardSaid:=
 Claim7.holds_tied_plain_at .later [] [.data] true (true, "cb32942601511fab7ad9fbdee645987344ef58f4d4a0d260ec0b96243efde1ec") false
  Jx (fun _ h=>by cases h) (by kernel_rfl) (fun _ h=>by cases h) sparseSays_row_tie rfl ⟨rfl,rfl⟩ (by kernel_rfl) rfl
  (fun f fn hf Qx=>by
   obtain rfl:f=7:=Option.some.inj ((show Tryz.prog.funcNamed "turnery/turnerylaw4.SparseSays" =some 7 by kernel_rfl).symm.trans hf) |>.symm;obtain rfl:fn=Tryz.f7:=(Option.some.inj (Tryz.func7.symm.trans Qx)).symm;exact⟨by kernel_rfl,fun j t ht=>by
    rw[Tryz.params7] at ht;rcases j with _|j
    .obtain rfl:t=25:=by simpa using ht.symm
     exact(show Tryz.prog.wantsStandIn 25=false by kernel_rfl)
    simp at ht⟩)
  (by kernel_rfl)
#print axioms sparseSays_card
end Go.Proofs.YtdhnndleffachaaGreatDoor
