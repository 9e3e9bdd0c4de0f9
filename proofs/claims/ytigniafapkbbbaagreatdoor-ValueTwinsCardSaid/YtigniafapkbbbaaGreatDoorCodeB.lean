/- The functions, as the abstract interpreter has them. -/
import Derived.Test.YtigniafapkbbbaaGreatDoorFuncs
namespace Go.Proofs.YtigniafapkbbbaaGreatDoor
open Go.AI
noncomputable def FF : Nat → Option AFunc := funcsOf Tryz.prog 1 funcAt
end Go.Proofs.YtigniafapkbbbaaGreatDoor
