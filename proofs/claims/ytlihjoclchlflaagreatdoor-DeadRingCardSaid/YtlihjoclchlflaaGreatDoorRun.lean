/- The abstract interpreter's run of the law DeadRing: for every number it answers true. -/
import Derived.Test.YtlihjoclchlflaaGreatDoorFuncs
import Derived.KernelRfl
namespace Go.Proofs.YtlihjoclchlflaaGreatDoor
open Go.AI
set_option maxRecDepth 100000
def waysCells : List Value := [.int .i64 0, .int .i64 0, .int .i64 1, .int .i64 2]
theorem deadRing_run (n : Int) : (call (funcsOf Tryz.prog 1 funcAt) 100000 3 [.int .i64 n] (heap1 waysCells)).map (·.1) = some (.bool true) := by kernel_rfl
end Go.Proofs.YtlihjoclchlflaaGreatDoor
