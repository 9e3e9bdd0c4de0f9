/- The abstract interpreter's run of the law HoistOne: for every two numbers it answers true. -/
import Derived.Test.YtmidnladamlfnaaGreatDoorFuncs
import Derived.KernelRfl
namespace Go.Proofs.YtmidnladamlfnaaGreatDoor
open Go.AI
set_option maxRecDepth 100000
def waysCells : List Value := [.int .i64 0, .int .i64 0, .int .i64 1, .int .i64 2]
theorem hoistOne_run0 (m n : Int) : (call (funcsOf Tryz.prog 1 funcAt) 100000 3 [.int .i64 m, .int .i64 n] (heap1 waysCells)).map (·.1) = some (.bool ((false == false) && ((m == m) && true))) := by kernel_rfl
theorem hoistOne_run (m n : Int) : (call (funcsOf Tryz.prog 1 funcAt) 100000 3 [.int .i64 m, .int .i64 n] (heap1 waysCells)).map (·.1) = some (.bool true) := by
  rw [hoistOne_run0]
  simp
end Go.Proofs.YtmidnladamlfnaaGreatDoor
