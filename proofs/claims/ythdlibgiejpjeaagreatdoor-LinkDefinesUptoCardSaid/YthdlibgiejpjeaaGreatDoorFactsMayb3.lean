import Derived.Test.YthdlibgiejpjeaaGreatDoorRows
/- A closed fact of the program alone: a part of mayEnter. -/
set_option linter.unusedVariables false
set_option linter.unusedSimpArgs false
namespace Go.Proofs.YthdlibgiejpjeaaGreatDoor.facts
open Go
set_option maxRecDepth 100000 in
theorem mayb : ((stripLifts liftWords (behindMainWord (wordsSigns Tryz.pinned.checked.prog.initOrder.toList))).1.contains "finals" || !Tryz.pinned.checked.prog.laysLater) = true := by kernel_rfl
end Go.Proofs.YthdlibgiejpjeaaGreatDoor.facts

/- A closed fact of the program alone: a part of mayEnter. -/
set_option linter.unusedVariables false
set_option linter.unusedSimpArgs false
namespace Go.Proofs.YthdlibgiejpjeaaGreatDoor.facts
open Go
set_option maxRecDepth 100000 in
theorem mayc : ((stripLifts liftWords (behindMainWord (wordsSigns Tryz.pinned.checked.prog.initOrder.toList))).1.contains "reflectrows" || !Tryz.pinned.checked.prog.bearsReflect) = true := by kernel_rfl
end Go.Proofs.YthdlibgiejpjeaaGreatDoor.facts

/- A closed fact of the program alone: a part of mayEnter. -/
set_option linter.unusedVariables false
set_option linter.unusedSimpArgs false
namespace Go.Proofs.YthdlibgiejpjeaaGreatDoor.facts
open Go
set_option maxRecDepth 100000 in
theorem maye : Tryz.pinned.checked.prog.doorFits (stripLifts liftWords (behindMainWord (wordsSigns Tryz.pinned.checked.prog.initOrder.toList))).1 = true := by kernel_rfl
end Go.Proofs.YthdlibgiejpjeaaGreatDoor.facts

