import Derived.Test.YtdhnndleffachaaGreatDoorRows
import Derived.Test.YtdhnndleffachaaGreatDoorCards
import Derived.Test.YtdhnndleffachaaGreatDoorTie
import Derived.OpenShut
import Derived.ProofKit
import Derived.SevenTiedAt
set_option linter.all false
set_option maxHeartbeats 1000000
namespace Go.Proofs.YtdhnndleffachaaGreatDoor
open Go Go.ChangeShapes Go.WideShapes Go.ChangeAt Go.RowKit
theorem jk0:joinedFacts Tryz.prog 7 Tryz.f7 Rows.sparseSaysSpec Rows.sparseSaysRow=true:=by kernel_rfl
end Go.Proofs.YtdhnndleffachaaGreatDoor
