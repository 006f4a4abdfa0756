/- LinkDefines: the closed facts of its row. -/
import Derived.Test.YthdlibgiejpjeaaGreatDoorCards
import Derived.Test.YthdlibgiejpjeaaGreatDoorFacts0
import Derived.JoinedCond
set_option linter.unusedVariables false
set_option linter.unusedSimpArgs false
namespace Go.Proofs.YthdlibgiejpjeaaGreatDoor.linkDefines
open Go
set_option maxRecDepth 100000 in
theorem j0 : (fun (P : Program) (f : FuncId) (fn : Func) (s : ChangeSpec) (c : OpenClaim) => (c.wf (OpenSpec.ofChange s))) Tryz.pinned.checked.prog 17 Tryz.f17 (Rows.OpenSpec.upto Rows.linkDefinesSpec).bare Rows.linkDefinesUptoRow = true := by kernel_rfl
set_option maxRecDepth 100000 in
theorem j1 : (fun (P : Program) (f : FuncId) (fn : Func) (s : ChangeSpec) (c : OpenClaim) => (laidOutB P)) Tryz.pinned.checked.prog 17 Tryz.f17 (Rows.OpenSpec.upto Rows.linkDefinesSpec).bare Rows.linkDefinesUptoRow = true := by kernel_rfl
set_option maxRecDepth 100000 in
theorem j2 : (fun (P : Program) (f : FuncId) (fn : Func) (s : ChangeSpec) (c : OpenClaim) => (mapsRowed P)) Tryz.pinned.checked.prog 17 Tryz.f17 (Rows.OpenSpec.upto Rows.linkDefinesSpec).bare Rows.linkDefinesUptoRow = true := by kernel_rfl
set_option maxRecDepth 100000 in
theorem j3 : (fun (P : Program) (f : FuncId) (fn : Func) (s : ChangeSpec) (c : OpenClaim) => (fn.params.all (P.readableRec ·))) Tryz.pinned.checked.prog 17 Tryz.f17 (Rows.OpenSpec.upto Rows.linkDefinesSpec).bare Rows.linkDefinesUptoRow = true := by kernel_rfl
set_option maxRecDepth 100000 in
theorem j4 : (fun (P : Program) (f : FuncId) (fn : Func) (s : ChangeSpec) (c : OpenClaim) => (namedTie P c.named s.vars)) Tryz.pinned.checked.prog 17 Tryz.f17 (Rows.OpenSpec.upto Rows.linkDefinesSpec).bare Rows.linkDefinesUptoRow = true := by kernel_rfl
set_option maxRecDepth 100000 in
theorem j5 : (fun (P : Program) (f : FuncId) (fn : Func) (s : ChangeSpec) (c : OpenClaim) => ((c.stops == []))) Tryz.pinned.checked.prog 17 Tryz.f17 (Rows.OpenSpec.upto Rows.linkDefinesSpec).bare Rows.linkDefinesUptoRow = true := by kernel_rfl
set_option maxRecDepth 100000 in
theorem j6 : (fun (P : Program) (f : FuncId) (fn : Func) (s : ChangeSpec) (c : OpenClaim) => ((P.stops == []))) Tryz.pinned.checked.prog 17 Tryz.f17 (Rows.OpenSpec.upto Rows.linkDefinesSpec).bare Rows.linkDefinesUptoRow = true := by kernel_rfl
set_option maxRecDepth 100000 in
theorem j7 : (fun (P : Program) (f : FuncId) (fn : Func) (s : ChangeSpec) (c : OpenClaim) => ((c.knobs == []))) Tryz.pinned.checked.prog 17 Tryz.f17 (Rows.OpenSpec.upto Rows.linkDefinesSpec).bare Rows.linkDefinesUptoRow = true := by kernel_rfl
set_option maxRecDepth 100000 in
theorem j8 : (fun (P : Program) (f : FuncId) (fn : Func) (s : ChangeSpec) (c : OpenClaim) => ((P.stopKnobs == []))) Tryz.pinned.checked.prog 17 Tryz.f17 (Rows.OpenSpec.upto Rows.linkDefinesSpec).bare Rows.linkDefinesUptoRow = true := by kernel_rfl
set_option maxRecDepth 100000 in
theorem j9 : (fun (P : Program) (f : FuncId) (fn : Func) (s : ChangeSpec) (c : OpenClaim) => ((c.inPlace == P.inPlace f))) Tryz.pinned.checked.prog 17 Tryz.f17 (Rows.OpenSpec.upto Rows.linkDefinesSpec).bare Rows.linkDefinesUptoRow = true := by kernel_rfl
set_option maxRecDepth 100000 in
theorem j10 : (fun (P : Program) (f : FuncId) (fn : Func) (s : ChangeSpec) (c : OpenClaim) => ((c.unfollowed == P.unfollowed f))) Tryz.pinned.checked.prog 17 Tryz.f17 (Rows.OpenSpec.upto Rows.linkDefinesSpec).bare Rows.linkDefinesUptoRow = true := by kernel_rfl
set_option maxRecDepth 100000 in
theorem j11 : (fun (P : Program) (f : FuncId) (fn : Func) (s : ChangeSpec) (c : OpenClaim) => ((c.recurses == P.recurses f))) Tryz.pinned.checked.prog 17 Tryz.f17 (Rows.OpenSpec.upto Rows.linkDefinesSpec).bare Rows.linkDefinesUptoRow = true := by kernel_rfl
set_option maxRecDepth 100000 in
theorem j12 : (fun (P : Program) (f : FuncId) (fn : Func) (s : ChangeSpec) (c : OpenClaim) => ((c.named == P.varsNamed f))) Tryz.pinned.checked.prog 17 Tryz.f17 (Rows.OpenSpec.upto Rows.linkDefinesSpec).bare Rows.linkDefinesUptoRow = true := by kernel_rfl
set_option maxRecDepth 100000 in
theorem j13 : (fun (P : Program) (f : FuncId) (fn : Func) (s : ChangeSpec) (c : OpenClaim) => ((c.maps == (fn.params.toList ++ s.plain.varTypes P).any (P.mapsRec ·)))) Tryz.pinned.checked.prog 17 Tryz.f17 (Rows.OpenSpec.upto Rows.linkDefinesSpec).bare Rows.linkDefinesUptoRow = true := by kernel_rfl
set_option maxRecDepth 100000 in
theorem j14 : (fun (P : Program) (f : FuncId) (fn : Func) (s : ChangeSpec) (c : OpenClaim) => ((c.ifaces == (fn.params.toList ++ s.plain.varTypes P).any (P.ifacesRec ·)))) Tryz.pinned.checked.prog 17 Tryz.f17 (Rows.OpenSpec.upto Rows.linkDefinesSpec).bare Rows.linkDefinesUptoRow = true := by kernel_rfl
set_option maxRecDepth 100000 in
theorem j15 : (fun (P : Program) (f : FuncId) (fn : Func) (s : ChangeSpec) (c : OpenClaim) => ((c.mapsOut == P.mapsAmong fn.resultTypes.toList))) Tryz.pinned.checked.prog 17 Tryz.f17 (Rows.OpenSpec.upto Rows.linkDefinesSpec).bare Rows.linkDefinesUptoRow = true := by kernel_rfl
set_option maxRecDepth 100000 in
theorem j16 : (fun (P : Program) (f : FuncId) (fn : Func) (s : ChangeSpec) (c : OpenClaim) => ((c.loops == (fn.params.toList ++ s.plain.varTypes P).any (P.loopsFrom ·)))) Tryz.pinned.checked.prog 17 Tryz.f17 (Rows.OpenSpec.upto Rows.linkDefinesSpec).bare Rows.linkDefinesUptoRow = true := by kernel_rfl
set_option maxRecDepth 100000 in
theorem j17 : (fun (P : Program) (f : FuncId) (fn : Func) (s : ChangeSpec) (c : OpenClaim) => ((c.wideKeys == (fn.params.toList ++ s.plain.varTypes P ++ fn.resultTypes.toList).any (P.wideKeysFrom ·)))) Tryz.pinned.checked.prog 17 Tryz.f17 (Rows.OpenSpec.upto Rows.linkDefinesSpec).bare Rows.linkDefinesUptoRow = true := by kernel_rfl
set_option maxRecDepth 100000 in
theorem j18 : (fun (P : Program) (f : FuncId) (fn : Func) (s : ChangeSpec) (c : OpenClaim) => (s.vars.all (P.varReadable ·))) Tryz.pinned.checked.prog 17 Tryz.f17 (Rows.OpenSpec.upto Rows.linkDefinesSpec).bare Rows.linkDefinesUptoRow = true := by kernel_rfl
set_option maxRecDepth 100000 in
theorem j19 : (fun (P : Program) (f : FuncId) (fn : Func) (s : ChangeSpec) (c : OpenClaim) => (fn.resultTypes.all (fun t => P.readableRec t && decide (t < P.types.size)))) Tryz.pinned.checked.prog 17 Tryz.f17 (Rows.OpenSpec.upto Rows.linkDefinesSpec).bare Rows.linkDefinesUptoRow = true := by kernel_rfl
set_option maxRecDepth 100000 in
theorem j20 : (fun (P : Program) (f : FuncId) (fn : Func) (s : ChangeSpec) (c : OpenClaim) => ((c.ifacesOut == fn.resultTypes.toList.any (P.ifacesRec ·)))) Tryz.pinned.checked.prog 17 Tryz.f17 (Rows.OpenSpec.upto Rows.linkDefinesSpec).bare Rows.linkDefinesUptoRow = true := by kernel_rfl
set_option maxRecDepth 100000 in
theorem j21 : (fun (P : Program) (f : FuncId) (fn : Func) (s : ChangeSpec) (c : OpenClaim) => ((c.loopsOut == fn.resultTypes.toList.any (P.loopsFrom ·)))) Tryz.pinned.checked.prog 17 Tryz.f17 (Rows.OpenSpec.upto Rows.linkDefinesSpec).bare Rows.linkDefinesUptoRow = true := by kernel_rfl
set_option maxRecDepth 100000 in
theorem j22 : (fun (P : Program) (f : FuncId) (fn : Func) (s : ChangeSpec) (c : OpenClaim) => ((c.plainKeys == P.plainKeys))) Tryz.pinned.checked.prog 17 Tryz.f17 (Rows.OpenSpec.upto Rows.linkDefinesSpec).bare Rows.linkDefinesUptoRow = true := by kernel_rfl
set_option maxRecDepth 100000 in
theorem j23 : (fun (P : Program) (f : FuncId) (fn : Func) (s : ChangeSpec) (c : OpenClaim) => (c.shortTexts.isNone)) Tryz.pinned.checked.prog 17 Tryz.f17 (Rows.OpenSpec.upto Rows.linkDefinesSpec).bare Rows.linkDefinesUptoRow = true := by kernel_rfl
set_option maxRecDepth 100000 in
theorem j24 : (fun (P : Program) (f : FuncId) (fn : Func) (s : ChangeSpec) (c : OpenClaim) => (P.stopsHeard)) Tryz.pinned.checked.prog 17 Tryz.f17 (Rows.OpenSpec.upto Rows.linkDefinesSpec).bare Rows.linkDefinesUptoRow = true := by kernel_rfl
set_option maxRecDepth 100000 in
theorem j26 : (fun (P : Program) (f : FuncId) (fn : Func) (s : ChangeSpec) (c : OpenClaim) => ((c.lifted == P.liftsFinal))) Tryz.pinned.checked.prog 17 Tryz.f17 (Rows.OpenSpec.upto Rows.linkDefinesSpec).bare Rows.linkDefinesUptoRow = true := by kernel_rfl
set_option maxRecDepth 100000 in
theorem j27 : (fun (P : Program) (f : FuncId) (fn : Func) (s : ChangeSpec) (c : OpenClaim) => ((P.make == some c.make))) Tryz.pinned.checked.prog 17 Tryz.f17 (Rows.OpenSpec.upto Rows.linkDefinesSpec).bare Rows.linkDefinesUptoRow = true := by kernel_rfl
set_option maxRecDepth 100000 in
theorem j28 : (fun (P : Program) (f : FuncId) (fn : Func) (s : ChangeSpec) (c : OpenClaim) => ((c.kinds == (if c.domain.isEmpty then [] else fn.params.toList.map fun t => match P.underlying t with | some (.int k) => some k | _ => none)))) Tryz.pinned.checked.prog 17 Tryz.f17 (Rows.OpenSpec.upto Rows.linkDefinesSpec).bare Rows.linkDefinesUptoRow = true := by kernel_rfl
set_option maxRecDepth 100000 in
theorem j29 : (fun (P : Program) (f : FuncId) (fn : Func) (s : ChangeSpec) (c : OpenClaim) => ((c.pinned == c.pinnedBy))) Tryz.pinned.checked.prog 17 Tryz.f17 (Rows.OpenSpec.upto Rows.linkDefinesSpec).bare Rows.linkDefinesUptoRow = true := by kernel_rfl
set_option maxRecDepth 100000 in
theorem j30 : (fun (P : Program) (f : FuncId) (fn : Func) (s : ChangeSpec) (c : OpenClaim) => ((c.veiled == (fn.params.toList ++ s.plain.varTypes P ++ fn.resultTypes.toList).any (P.veiledRec ·)))) Tryz.pinned.checked.prog 17 Tryz.f17 (Rows.OpenSpec.upto Rows.linkDefinesSpec).bare Rows.linkDefinesUptoRow = true := by kernel_rfl
set_option maxRecDepth 100000 in
theorem j31 : (fun (P : Program) (f : FuncId) (fn : Func) (s : ChangeSpec) (c : OpenClaim) => (c.veiledFits P fn.params.toList (fn.params.toList ++ s.plain.varTypes P ++ fn.resultTypes.toList))) Tryz.pinned.checked.prog 17 Tryz.f17 (Rows.OpenSpec.upto Rows.linkDefinesSpec).bare Rows.linkDefinesUptoRow = true := by kernel_rfl
end Go.Proofs.YthdlibgiejpjeaaGreatDoor.linkDefines
