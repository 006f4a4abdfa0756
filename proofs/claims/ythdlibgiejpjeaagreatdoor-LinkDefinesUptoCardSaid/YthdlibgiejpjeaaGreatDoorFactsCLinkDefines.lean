/- LinkDefines: the card's closed facts. -/
import Derived.Test.YthdlibgiejpjeaaGreatDoorCards
import Derived.SevenTiedAt
set_option linter.unusedVariables false
set_option linter.unusedSimpArgs false
namespace Go.Proofs.YthdlibgiejpjeaaGreatDoor.linkDefines
open Go
set_option maxRecDepth 100000 in
theorem hw : Rows.linkDefinesUptoRow.wfByText (Rows.OpenSpec.upto Rows.linkDefinesSpec) = true := by kernel_rfl
set_option maxRecDepth 100000 in
theorem hm : Tryz.pinned.checked.prog.mainIs = some (Rows.linkDefinesUptoCard.stood.harness.1, Rows.linkDefinesUptoCard.stood.harness.2.toList) := by kernel_rfl
set_option maxRecDepth 100000 in
theorem hg : false = Rows.linkDefinesUptoRow.goesBy Tryz.pinned.checked.prog := by kernel_rfl
end Go.Proofs.YthdlibgiejpjeaaGreatDoor.linkDefines
