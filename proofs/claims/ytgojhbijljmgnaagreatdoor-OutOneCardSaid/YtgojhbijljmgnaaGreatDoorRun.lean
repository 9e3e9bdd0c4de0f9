/- The abstract interpreter's run of the law OutOne: for every two numbers it answers true. -/
import Derived.Test.YtgojhbijljmgnaaGreatDoorFuncs
import Derived.KernelRfl
namespace Go.Proofs.YtgojhbijljmgnaaGreatDoor
open Go.AI
set_option maxRecDepth 100000
def waysCells : List Value := [.int .i64 0, .int .i64 0, .int .i64 1, .int .i64 2]
theorem outOne_run (m n : Int) : (call (funcsOf Tryz.prog 1 funcAt) 100000 3 [.int .i64 m, .int .i64 n] (heap1 waysCells)).map (·.1) = some (.bool true) := by kernel_rfl
end Go.Proofs.YtgojhbijljmgnaaGreatDoor
