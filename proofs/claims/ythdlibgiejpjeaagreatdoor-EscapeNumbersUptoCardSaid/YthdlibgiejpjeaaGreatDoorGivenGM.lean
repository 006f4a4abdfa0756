/- The hand-written contracts that the printed texts of the Escape laws stand on. -/
import Derived.Test.YthdlibgiejpjeaaGreatDoorGivM
import Derived.Test.YthdlibgiejpjeaaGreatDoorNumM
import Derived.Test.YthdlibgiejpjeaaGreatDoorUnescape
import Derived.Test.YthdlibgiejpjeaaGreatDoorUrl
import Derived.Test.YthdlibgiejpjeaaGreatDoorHtmlM
import Derived.Test.YthdlibgiejpjeaaGreatDoorPlain
set_option linter.unusedVariables false
set_option linter.unusedSimpArgs false
