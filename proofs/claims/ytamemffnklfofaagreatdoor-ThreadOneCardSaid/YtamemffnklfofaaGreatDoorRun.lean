/- The abstract interpreter's run of the law ThreadOne: for every two numbers it answers true. -/
import Derived.Test.YtamemffnklfofaaGreatDoorRunZZ
import Derived.Test.YtamemffnklfofaaGreatDoorRunZP
import Derived.Test.YtamemffnklfofaaGreatDoorRunZN
import Derived.Test.YtamemffnklfofaaGreatDoorRunPZ
import Derived.Test.YtamemffnklfofaaGreatDoorRunPP
import Derived.Test.YtamemffnklfofaaGreatDoorRunPN
import Derived.Test.YtamemffnklfofaaGreatDoorRunNZ
import Derived.Test.YtamemffnklfofaaGreatDoorRunNP
import Derived.Test.YtamemffnklfofaaGreatDoorRunNN
namespace Go.Proofs.YtamemffnklfofaaGreatDoor
open Go.AI
def waysCells : List Value := [.int .i64 0, .int .i64 0, .int .i64 1, .int .i64 2]
theorem threadOne_run (m n : Int) : (call FX 100000 3 [.int .i64 m, .int .i64 n] (heap1 waysCells)).map (·.1) = some (.bool true) := by
  rcases m with m | m
  · rcases m with _ | m
    · rcases n with n | n
      · rcases n with _ | n
        · exact threadOne_runZZ
        · exact threadOne_runZP n
      · exact threadOne_runZN n
    · rcases n with n | n
      · rcases n with _ | n
        · exact threadOne_runPZ m
        · exact threadOne_runPP m n
      · exact threadOne_runPN m n
  · rcases n with n | n
    · rcases n with _ | n
      · exact threadOne_runNZ m
      · exact threadOne_runNP m n
    · exact threadOne_runNN m n
end Go.Proofs.YtamemffnklfofaaGreatDoor
