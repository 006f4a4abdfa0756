/- The hand-written contracts that the printed texts of a Leaf law stand on. -/
import Derived.Test.YthdlibgiejpjeaaGreatDoorGivM
import Derived.Test.YthdlibgiejpjeaaGreatDoorNumM
import Derived.Test.YthdlibgiejpjeaaGreatDoorUnescape
import Derived.Test.YthdlibgiejpjeaaGreatDoorHtmlSix
set_option linter.unusedVariables false
set_option linter.unusedSimpArgs false
