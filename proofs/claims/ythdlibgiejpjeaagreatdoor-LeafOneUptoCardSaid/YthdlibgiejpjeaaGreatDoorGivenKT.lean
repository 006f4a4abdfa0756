/- The hand-written contracts that the printed texts of span's scan stand on. -/
import Derived.Test.YthdlibgiejpjeaaGreatDoorGivM
import Derived.Test.YthdlibgiejpjeaaGreatDoorGW
set_option linter.unusedVariables false
set_option linter.unusedSimpArgs false
