import Derived.Test.YtdhnndleffachaaGreatDoorProofA
import Derived.Test.YtdhnndleffachaaGreatDoorProofK
set_option linter.all false
set_option maxHeartbeats 1000000
namespace Go.Proofs.YtdhnndleffachaaGreatDoor
open Go Go.ChangeShapes Go.WideShapes Go.ChangeAt Go.RowKit
open Go.AI (bU)
theorem Ia:Rows.DeadSaysSaid:=
 OpenClaim.holds_of_wide 3 Tryz.f3 rfl rfl rfl rfl rfl rfl rfl ⟨rfl,rfl,rfl,rfl,rfl⟩ rfl rfl rfl rfl rfl (by kernel_rfl) Tryz.func3 jk0
  (of_decide_eq_true (by kernel_rfl)) (by unfold Func.isWrapper;rw[bU (of_decide_eq_false (by kernel_rfl))];exact⟨rfl,rfl⟩)
  (fun os started H enc _=>GZ os started H enc)
end Go.Proofs.YtdhnndleffachaaGreatDoor
