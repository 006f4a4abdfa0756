/- Closed facts of the program alone: mayEnter, in parts. -/
import Derived.Test.YthdlibgiejpjeaaGreatDoorRows
set_option linter.unusedVariables false
set_option linter.unusedSimpArgs false
namespace Go.Proofs.YthdlibgiejpjeaaGreatDoor.facts
open Go
theorem may_of (P : Program) (h0 : (behindMainWord (wordsSigns P.initOrder.toList)).isEmpty = false)
    (ha : ((stripLifts liftWords (behindMainWord (wordsSigns P.initOrder.toList))).2.head? == some "cut".toList) = true)
    (hb : ((stripLifts liftWords (behindMainWord (wordsSigns P.initOrder.toList))).1.contains "finals" || !P.laysLater) = true)
    (hc : ((stripLifts liftWords (behindMainWord (wordsSigns P.initOrder.toList))).1.contains "reflectrows" || !P.bearsReflect) = true)
    (hd : ((stripLifts liftWords (behindMainWord (wordsSigns P.initOrder.toList))).1.contains "reflectrows" || !(stripLifts liftWords (behindMainWord (wordsSigns P.initOrder.toList))).1.contains "leanrows") = true)
    (he : P.doorFits (stripLifts liftWords (behindMainWord (wordsSigns P.initOrder.toList))).1 = true) : P.mayEnter = true := by
  unfold Program.mayEnter
  generalize behindMainWord (wordsSigns P.initOrder.toList) = W at *
  cases W with
  | nil => cases h0
  | cons c rest =>
    simp only [ha, hb, hc, hd, he, Bool.and_self, Bool.or_true]
set_option maxRecDepth 100000 in
theorem may0 : (behindMainWord (wordsSigns Tryz.pinned.checked.prog.initOrder.toList)).isEmpty = false := by kernel_rfl
set_option maxRecDepth 100000 in
theorem maya : ((stripLifts liftWords (behindMainWord (wordsSigns Tryz.pinned.checked.prog.initOrder.toList))).2.head? == some "cut".toList) = true := by kernel_rfl
set_option maxRecDepth 100000 in
theorem mayd : ((stripLifts liftWords (behindMainWord (wordsSigns Tryz.pinned.checked.prog.initOrder.toList))).1.contains "reflectrows" || !(stripLifts liftWords (behindMainWord (wordsSigns Tryz.pinned.checked.prog.initOrder.toList))).1.contains "leanrows") = true := by kernel_rfl
end Go.Proofs.YthdlibgiejpjeaaGreatDoor.facts
