/- A closed fact of the program alone: a part of mayEnter. -/
import Derived.Test.YthdlibgiejpjeaaGreatDoorRows
set_option linter.unusedVariables false
set_option linter.unusedSimpArgs false
namespace Go.Proofs.YthdlibgiejpjeaaGreatDoor.facts
open Go
set_option maxRecDepth 100000 in
theorem maye : Tryz.pinned.checked.prog.doorFits (stripLifts liftWords (behindMainWord (wordsSigns Tryz.pinned.checked.prog.initOrder.toList))).1 = true := by kernel_rfl
end Go.Proofs.YthdlibgiejpjeaaGreatDoor.facts
