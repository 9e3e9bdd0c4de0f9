import Derived.Test.YtdhnndleffachaaGreatDoorProofA
import Derived.Test.YtdhnndleffachaaGreatDoorProofK
set_option linter.all false
set_option maxHeartbeats 1000000
namespace Go.Proofs.YtdhnndleffachaaGreatDoor
open Go Go.ChangeShapes Go.WideShapes Go.ChangeAt Go.RowKit
open Go.AI (bM)
theorem Jx:Rows.SparseSaysSaid:=
 OpenClaim.holds_of_wide 7 Tryz.f7 rfl rfl rfl rfl rfl rfl rfl ⟨rfl,rfl,rfl,rfl,rfl⟩ rfl rfl rfl rfl rfl (by kernel_rfl) Tryz.func7 jk0
  (of_decide_eq_true (by kernel_rfl)) (by unfold Func.isWrapper;rw[bM (of_decide_eq_false (by kernel_rfl))];exact⟨rfl,rfl⟩)
  (fun os started H enc _=>Ib os started H enc)
end Go.Proofs.YtdhnndleffachaaGreatDoor
