/- LinkFront: the card's closed facts. -/
import Derived.Test.YthdlibgiejpjeaaGreatDoorCards
import Derived.SevenTiedAt
set_option linter.unusedVariables false
set_option linter.unusedSimpArgs false
namespace Go.Proofs.YthdlibgiejpjeaaGreatDoor.linkFront
open Go
set_option maxRecDepth 100000 in
theorem hw : Rows.linkFrontUptoRow.wfByText (Rows.OpenSpec.upto Rows.linkFrontSpec) = true := by kernel_rfl
set_option maxRecDepth 100000 in
theorem hm : Tryz.pinned.checked.prog.mainIs = some (Rows.linkFrontUptoCard.stood.harness.1, Rows.linkFrontUptoCard.stood.harness.2.toList) := by kernel_rfl
set_option maxRecDepth 100000 in
theorem hg : false = Rows.linkFrontUptoRow.goesBy Tryz.pinned.checked.prog := by kernel_rfl
end Go.Proofs.YthdlibgiejpjeaaGreatDoor.linkFront
