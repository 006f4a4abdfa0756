/- The hand-written contracts that the printed texts of a Link law stand on. -/
import Derived.Test.YthdlibgiejpjeaaGreatDoorLinkC
set_option linter.unusedVariables false
set_option linter.unusedSimpArgs false
