/- The functions, as the abstract interpreter has them. -/
import Derived.Test.YtehbhfobjechpaaGreatDoorFuncs
namespace Go.Proofs.YtehbhfobjechpaaGreatDoor
open Go.AI
noncomputable def FF : Nat → Option AFunc := funcsOf Tryz.prog 1 funcAt
end Go.Proofs.YtehbhfobjechpaaGreatDoor
