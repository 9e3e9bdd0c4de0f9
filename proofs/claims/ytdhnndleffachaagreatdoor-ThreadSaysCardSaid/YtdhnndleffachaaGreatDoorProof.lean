/- For every unit the law ThreadSays returns true, and what stood in memory stands as it stood; the variable turnery/code.ways holds what the program's text lays. -/
import Derived.Test.YtdhnndleffachaaGreatDoorRows
import Derived.Test.YtdhnndleffachaaGreatDoorCards
import Derived.Test.YtdhnndleffachaaGreatDoorTie
import Derived.Test.YtdhnndleffachaaGreatDoorProofB
set_option linter.all false
set_option maxHeartbeats 1000000
namespace Go.Proofs.YtdhnndleffachaaGreatDoor
open Go Go.ChangeShapes Go.WideShapes Go.ChangeAt Go.RowKit
theorem threadSays_card:Rows.ThreadSaysCardSaid:=
 Claim7.holds_tied_plain_at .later [] [.data] true (true, "cb32942601511fab7ad9fbdee645987344ef58f4d4a0d260ec0b96243efde1ec") false
  Ib (fun _ h=>by cases h) (by kernel_rfl) (fun _ h=>by cases h) threadSays_row_tie rfl ⟨rfl,rfl⟩ (by kernel_rfl) rfl
  (fun f fn hf O0=>by
   obtain rfl:f=4:=Option.some.inj ((show Tryz.prog.funcNamed "turnery/turnerylaw4.ThreadSays" =some 4 by kernel_rfl).symm.trans hf) |>.symm;obtain rfl:fn=Tryz.f4:=(Option.some.inj (Tryz.func4.symm.trans O0)).symm;exact⟨by kernel_rfl,fun j t ht=>by
    rw[Tryz.params4] at ht;rcases j with _|j
    .obtain rfl:t=25:=by simpa using ht.symm
     exact(show Tryz.prog.wantsStandIn 25=false by kernel_rfl)
    simp at ht⟩)
  (by kernel_rfl)
#print axioms threadSays_card
end Go.Proofs.YtdhnndleffachaaGreatDoor
