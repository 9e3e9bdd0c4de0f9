/- All code. -/
import Derived.Test.YtmdpidhnaddbcaaGreatDoorCode0
import Derived.Test.YtmdpidhnaddbcaaGreatDoorCode1
import Derived.Test.YtmdpidhnaddbcaaGreatDoorCode2
