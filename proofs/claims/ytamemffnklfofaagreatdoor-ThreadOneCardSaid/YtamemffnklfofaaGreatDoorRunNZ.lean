/- The abstract interpreter's run of the law ThreadOne, for one sort of each number. -/
import Derived.Test.YtamemffnklfofaaGreatDoorPrims
import Derived.KernelRfl
namespace Go.Proofs.YtamemffnklfofaaGreatDoor
open Go.AI
set_option maxRecDepth 100000
theorem threadOne_runNZ (m : Nat)  : (call FX 100000 3 [.int .i64 (.negSucc m), .int .i64 (.ofNat 0)] (heap1 [.int .i64 0, .int .i64 0, .int .i64 1, .int .i64 2])).map (·.1) = some (.bool true) := by kernel_rfl
end Go.Proofs.YtamemffnklfofaaGreatDoor
