/- All code. -/
import Derived.Test.YtehbhfobjechpaaGreatDoorCode0
import Derived.Test.YtehbhfobjechpaaGreatDoorCode1
import Derived.Test.YtehbhfobjechpaaGreatDoorCode2
