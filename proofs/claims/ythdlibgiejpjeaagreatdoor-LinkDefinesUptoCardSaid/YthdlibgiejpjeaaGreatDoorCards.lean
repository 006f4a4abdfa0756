/-
  DERIVED. GIVEN WITH THE SEED: THE CARDS: each row of YthdlibgiejpjeaaGreatDoorRows.lean that lists a variable, with what it lists TIED to the program's text (the seventh form; the later family's looks); each row that meets fmt, with fmt's text TOLD by the authors' own Lean function (tested against real Go, not proved from fmt's source: count such statements apart). THE CARD IS WHAT COUNTS. Prove the row's statement (the work); the ties are given (YthdlibgiejpjeaaGreatDoorTie.lean); close each card by the builder's one call (the guide's Derived/Test/ToyasCard.lean, 'card_holds'). Laid BY PROGRAM, IN A SANDBOX (cutbox-door.mjs). By AI agents, Wed Nov 11 2026. No macro, syntax, notation, axiom, sorry.
-/
import Derived.Test.YthdlibgiejpjeaaGreatDoorRows
import GoSem.ClaimSeven
namespace Go.Proofs.YthdlibgiejpjeaaGreatDoor
namespace Rows

/-- THE TIED CARD OF 'scriptoriumlaw02.EscapeWrites'. -/
def escapeWritesCard : Claim7 := { stood := { row := escapeWritesRow, standIns := [], harness := (true, "d68f85093359dd6a4abca75b4dc5b280ceb7a6108f759abfe3ec820667999835"), looks := true }, kinds := [], alts := [], laidByText := true, laidKinds := [.data, .data, .data, .data, .sentinel, .sentinel, .pinned, .pinned], laidTests := true, laidLooks := .later }
def EscapeWritesCardSaid : Prop := Claim7.holds Tryz.pinned (.plain (OpenSpec.ofChange escapeWritesSpec)) escapeWritesCard

/-- THE TIED CARD OF 'scriptoriumlaw02.EscapeReads'. -/
def escapeReadsCard : Claim7 := { stood := { row := escapeReadsRow, standIns := [], harness := (true, "d68f85093359dd6a4abca75b4dc5b280ceb7a6108f759abfe3ec820667999835"), looks := true }, kinds := [], alts := [], laidByText := true, laidKinds := [.data, .data, .data, .data, .sentinel, .sentinel, .pinned, .pinned], laidTests := true, laidLooks := .later }
def EscapeReadsCardSaid : Prop := Claim7.holds Tryz.pinned (.plain (OpenSpec.ofChange escapeReadsSpec)) escapeReadsCard

/-- THE TIED CARD OF 'scriptoriumlaw02.EscapeBack'. -/
def escapeBackCard : Claim7 := { stood := { row := escapeBackRow, standIns := [], harness := (true, "d68f85093359dd6a4abca75b4dc5b280ceb7a6108f759abfe3ec820667999835"), looks := true }, kinds := [], alts := [], laidByText := true, laidKinds := [.data, .data, .data, .data, .sentinel, .sentinel, .pinned, .pinned], laidTests := true, laidLooks := .later }
def EscapeBackCardSaid : Prop := Claim7.holds Tryz.pinned (.plain (OpenSpec.ofChange escapeBackSpec)) escapeBackCard

/-- THE TIED CARD OF 'scriptoriumlaw02.EscapeURL'. -/
def escapeURLCard : Claim7 := { stood := { row := escapeURLRow, standIns := [], harness := (true, "d68f85093359dd6a4abca75b4dc5b280ceb7a6108f759abfe3ec820667999835"), looks := true }, kinds := [], alts := [], laidByText := true, laidKinds := [.data, .data, .data, .data, .sentinel, .sentinel, .pinned, .pinned], laidTests := true, laidLooks := .later }
def EscapeURLCardSaid : Prop := Claim7.holds Tryz.pinned (.plain (OpenSpec.ofChange escapeURLSpec)) escapeURLCard

/-- THE TIED CARD OF 'scriptoriumlaw02.EscapeNumbers'. -/
def escapeNumbersCard : Claim7 := { stood := { row := escapeNumbersRow, standIns := [], harness := (true, "d68f85093359dd6a4abca75b4dc5b280ceb7a6108f759abfe3ec820667999835"), looks := true }, kinds := [], alts := [], laidByText := true, laidKinds := [.data, .data, .data, .data, .sentinel, .sentinel, .pinned, .pinned], laidTests := true, laidLooks := .later }
def EscapeNumbersCardSaid : Prop := Claim7.holds Tryz.pinned (.plain (OpenSpec.ofChange escapeNumbersSpec)) escapeNumbersCard

/-- THE TIED CARD OF 'scriptoriumlaw02.EscapePlain'. -/
def escapePlainCard : Claim7 := { stood := { row := escapePlainRow, standIns := [], harness := (true, "d68f85093359dd6a4abca75b4dc5b280ceb7a6108f759abfe3ec820667999835"), looks := true }, kinds := [], alts := [], laidByText := true, laidKinds := [.data, .data, .data, .data, .sentinel, .sentinel, .pinned, .pinned], laidTests := true, laidLooks := .later }
def EscapePlainCardSaid : Prop := Claim7.holds Tryz.pinned (.plain (OpenSpec.ofChange escapePlainSpec)) escapePlainCard

/-- THE TIED CARD OF 'scriptoriumlaw02.EscapeMarks'. -/
def escapeMarksCard : Claim7 := { stood := { row := escapeMarksRow, standIns := [], harness := (true, "d68f85093359dd6a4abca75b4dc5b280ceb7a6108f759abfe3ec820667999835"), looks := true }, kinds := [], alts := [], laidByText := true, laidKinds := [.data, .data, .data, .data, .sentinel, .sentinel, .pinned, .pinned], laidTests := true, laidLooks := .later }
def EscapeMarksCardSaid : Prop := Claim7.holds Tryz.pinned (.plain (OpenSpec.ofChange escapeMarksSpec)) escapeMarksCard

/-- THE TIED CARD OF 'scriptoriumlaw05.LeafOne'. -/
def leafOneCard : Claim7 := { stood := { row := leafOneRow, standIns := [], harness := (true, "d68f85093359dd6a4abca75b4dc5b280ceb7a6108f759abfe3ec820667999835"), looks := true }, kinds := [], alts := [], laidByText := true, laidKinds := [.data, .data, .data, .data, .sentinel, .sentinel, .pinned], laidTests := true, laidLooks := .later }
def LeafOneCardSaid : Prop := Claim7.holds Tryz.pinned (.plain (OpenSpec.ofChange leafOneSpec)) leafOneCard

/-- THE TIED CARD OF 'scriptoriumlaw05.LeafMarkers'. -/
def leafMarkersCard : Claim7 := { stood := { row := leafMarkersRow, standIns := [], harness := (true, "d68f85093359dd6a4abca75b4dc5b280ceb7a6108f759abfe3ec820667999835"), looks := true }, kinds := [], alts := [], laidByText := true, laidKinds := [.data, .data, .data, .data, .sentinel, .sentinel, .pinned], laidTests := true, laidLooks := .later }
def LeafMarkersCardSaid : Prop := Claim7.holds Tryz.pinned (.plain (OpenSpec.ofChange leafMarkersSpec)) leafMarkersCard

/-- THE TIED CARD OF 'scriptoriumlaw05.LeafHeadings'. -/
def leafHeadingsCard : Claim7 := { stood := { row := leafHeadingsRow, standIns := [], harness := (true, "d68f85093359dd6a4abca75b4dc5b280ceb7a6108f759abfe3ec820667999835"), looks := true }, kinds := [], alts := [], laidByText := true, laidKinds := [.data, .data, .data, .data, .sentinel, .sentinel, .pinned], laidTests := true, laidLooks := .later }
def LeafHeadingsCardSaid : Prop := Claim7.holds Tryz.pinned (.plain (OpenSpec.ofChange leafHeadingsSpec)) leafHeadingsCard

/-- THE TIED CARD OF 'scriptoriumlaw05.LeafRules'. -/
def leafRulesCard : Claim7 := { stood := { row := leafRulesRow, standIns := [], harness := (true, "d68f85093359dd6a4abca75b4dc5b280ceb7a6108f759abfe3ec820667999835"), looks := true }, kinds := [], alts := [], laidByText := true, laidKinds := [.data, .data, .data, .data, .sentinel, .sentinel, .pinned], laidTests := true, laidLooks := .later }
def LeafRulesCardSaid : Prop := Claim7.holds Tryz.pinned (.plain (OpenSpec.ofChange leafRulesSpec)) leafRulesCard

/-- THE TIED CARD OF 'scriptoriumlaw05.LeafUnders'. -/
def leafUndersCard : Claim7 := { stood := { row := leafUndersRow, standIns := [], harness := (true, "d68f85093359dd6a4abca75b4dc5b280ceb7a6108f759abfe3ec820667999835"), looks := true }, kinds := [], alts := [], laidByText := true, laidKinds := [.data, .data, .data, .data, .sentinel, .sentinel, .pinned], laidTests := true, laidLooks := .later }
def LeafUndersCardSaid : Prop := Claim7.holds Tryz.pinned (.plain (OpenSpec.ofChange leafUndersSpec)) leafUndersCard

/-- THE TIED CARD OF 'scriptoriumlaw05.LeafFences'. -/
def leafFencesCard : Claim7 := { stood := { row := leafFencesRow, standIns := [], harness := (true, "d68f85093359dd6a4abca75b4dc5b280ceb7a6108f759abfe3ec820667999835"), looks := true }, kinds := [], alts := [], laidByText := true, laidKinds := [.data, .data, .data, .data, .sentinel, .sentinel, .pinned], laidTests := true, laidLooks := .later }
def LeafFencesCardSaid : Prop := Claim7.holds Tryz.pinned (.plain (OpenSpec.ofChange leafFencesSpec)) leafFencesCard

/-- THE TIED CARD OF 'scriptoriumlaw06.LinkFront'. -/
def linkFrontCard : Claim7 := { stood := { row := linkFrontRow, standIns := [], harness := (true, "d68f85093359dd6a4abca75b4dc5b280ceb7a6108f759abfe3ec820667999835"), looks := true }, kinds := [], alts := [], laidByText := true, laidKinds := [.data, .data, .data, .data, .sentinel, .sentinel, .pinned], laidTests := true, laidLooks := .later }
def LinkFrontCardSaid : Prop := Claim7.holds Tryz.pinned (.plain (OpenSpec.ofChange linkFrontSpec)) linkFrontCard

/-- THE TIED CARD OF 'scriptoriumlaw06.LinkDefines'. -/
def linkDefinesCard : Claim7 := { stood := { row := linkDefinesRow, standIns := [], harness := (true, "d68f85093359dd6a4abca75b4dc5b280ceb7a6108f759abfe3ec820667999835"), looks := true }, kinds := [], alts := [], laidByText := true, laidKinds := [.data, .data, .data, .data, .sentinel, .sentinel, .pinned], laidTests := true, laidLooks := .later }
def LinkDefinesCardSaid : Prop := Claim7.holds Tryz.pinned (.plain (OpenSpec.ofChange linkDefinesSpec)) linkDefinesCard

/-- THE TIED CARD OF 'scriptoriumlaw06.LinkLabels'. -/
def linkLabelsCard : Claim7 := { stood := { row := linkLabelsRow, standIns := [], harness := (true, "d68f85093359dd6a4abca75b4dc5b280ceb7a6108f759abfe3ec820667999835"), looks := true }, kinds := [], alts := [], laidByText := true, laidKinds := [.data, .data, .data, .data, .sentinel, .sentinel, .pinned], laidTests := true, laidLooks := .later }
def LinkLabelsCardSaid : Prop := Claim7.holds Tryz.pinned (.plain (OpenSpec.ofChange linkLabelsSpec)) linkLabelsCard

/-- THE TIED CARD OF 'scriptoriumlaw06.LinkPlaces'. -/
def linkPlacesCard : Claim7 := { stood := { row := linkPlacesRow, standIns := [], harness := (true, "d68f85093359dd6a4abca75b4dc5b280ceb7a6108f759abfe3ec820667999835"), looks := true }, kinds := [], alts := [], laidByText := true, laidKinds := [.data, .data, .data, .data, .sentinel, .sentinel, .pinned], laidTests := true, laidLooks := .later }
def LinkPlacesCardSaid : Prop := Claim7.holds Tryz.pinned (.plain (OpenSpec.ofChange linkPlacesSpec)) linkPlacesCard

/-- THE SECOND FORM's CARD OF 'scriptoriumlaw02.EscapeWrites'. -/
def escapeWritesUptoCard : Claim7 := { stood := { row := escapeWritesUptoRow, standIns := [], harness := (true, "d68f85093359dd6a4abca75b4dc5b280ceb7a6108f759abfe3ec820667999835"), looks := true }, kinds := [], alts := [], laidByText := true, laidKinds := [.data, .data, .data, .data, .sentinel, .sentinel, .pinned, .pinned], laidTests := true, laidLooks := .later }
def EscapeWritesUptoCardSaid : Prop := Claim7.holds Tryz.pinned (.plain (OpenSpec.upto escapeWritesSpec)) escapeWritesUptoCard

/-- THE SECOND FORM's CARD OF 'scriptoriumlaw02.EscapeReads'. -/
def escapeReadsUptoCard : Claim7 := { stood := { row := escapeReadsUptoRow, standIns := [], harness := (true, "d68f85093359dd6a4abca75b4dc5b280ceb7a6108f759abfe3ec820667999835"), looks := true }, kinds := [], alts := [], laidByText := true, laidKinds := [.data, .data, .data, .data, .sentinel, .sentinel, .pinned, .pinned], laidTests := true, laidLooks := .later }
def EscapeReadsUptoCardSaid : Prop := Claim7.holds Tryz.pinned (.plain (OpenSpec.upto escapeReadsSpec)) escapeReadsUptoCard

/-- THE SECOND FORM's CARD OF 'scriptoriumlaw02.EscapeBack'. -/
def escapeBackUptoCard : Claim7 := { stood := { row := escapeBackUptoRow, standIns := [], harness := (true, "d68f85093359dd6a4abca75b4dc5b280ceb7a6108f759abfe3ec820667999835"), looks := true }, kinds := [], alts := [], laidByText := true, laidKinds := [.data, .data, .data, .data, .sentinel, .sentinel, .pinned, .pinned], laidTests := true, laidLooks := .later }
def EscapeBackUptoCardSaid : Prop := Claim7.holds Tryz.pinned (.plain (OpenSpec.upto escapeBackSpec)) escapeBackUptoCard

/-- THE SECOND FORM's CARD OF 'scriptoriumlaw02.EscapeURL'. -/
def escapeURLUptoCard : Claim7 := { stood := { row := escapeURLUptoRow, standIns := [], harness := (true, "d68f85093359dd6a4abca75b4dc5b280ceb7a6108f759abfe3ec820667999835"), looks := true }, kinds := [], alts := [], laidByText := true, laidKinds := [.data, .data, .data, .data, .sentinel, .sentinel, .pinned, .pinned], laidTests := true, laidLooks := .later }
def EscapeURLUptoCardSaid : Prop := Claim7.holds Tryz.pinned (.plain (OpenSpec.upto escapeURLSpec)) escapeURLUptoCard

/-- THE SECOND FORM's CARD OF 'scriptoriumlaw02.EscapeNumbers'. -/
def escapeNumbersUptoCard : Claim7 := { stood := { row := escapeNumbersUptoRow, standIns := [], harness := (true, "d68f85093359dd6a4abca75b4dc5b280ceb7a6108f759abfe3ec820667999835"), looks := true }, kinds := [], alts := [], laidByText := true, laidKinds := [.data, .data, .data, .data, .sentinel, .sentinel, .pinned, .pinned], laidTests := true, laidLooks := .later }
def EscapeNumbersUptoCardSaid : Prop := Claim7.holds Tryz.pinned (.plain (OpenSpec.upto escapeNumbersSpec)) escapeNumbersUptoCard

/-- THE SECOND FORM's CARD OF 'scriptoriumlaw02.EscapePlain'. -/
def escapePlainUptoCard : Claim7 := { stood := { row := escapePlainUptoRow, standIns := [], harness := (true, "d68f85093359dd6a4abca75b4dc5b280ceb7a6108f759abfe3ec820667999835"), looks := true }, kinds := [], alts := [], laidByText := true, laidKinds := [.data, .data, .data, .data, .sentinel, .sentinel, .pinned, .pinned], laidTests := true, laidLooks := .later }
def EscapePlainUptoCardSaid : Prop := Claim7.holds Tryz.pinned (.plain (OpenSpec.upto escapePlainSpec)) escapePlainUptoCard

/-- THE SECOND FORM's CARD OF 'scriptoriumlaw02.EscapeMarks'. -/
def escapeMarksUptoCard : Claim7 := { stood := { row := escapeMarksUptoRow, standIns := [], harness := (true, "d68f85093359dd6a4abca75b4dc5b280ceb7a6108f759abfe3ec820667999835"), looks := true }, kinds := [], alts := [], laidByText := true, laidKinds := [.data, .data, .data, .data, .sentinel, .sentinel, .pinned, .pinned], laidTests := true, laidLooks := .later }
def EscapeMarksUptoCardSaid : Prop := Claim7.holds Tryz.pinned (.plain (OpenSpec.upto escapeMarksSpec)) escapeMarksUptoCard

/-- THE SECOND FORM's CARD OF 'scriptoriumlaw05.LeafOne'. -/
def leafOneUptoCard : Claim7 := { stood := { row := leafOneUptoRow, standIns := [], harness := (true, "d68f85093359dd6a4abca75b4dc5b280ceb7a6108f759abfe3ec820667999835"), looks := true }, kinds := [], alts := [], laidByText := true, laidKinds := [.data, .data, .data, .data, .sentinel, .sentinel, .pinned], laidTests := true, laidLooks := .later }
def LeafOneUptoCardSaid : Prop := Claim7.holds Tryz.pinned (.plain (OpenSpec.upto leafOneSpec)) leafOneUptoCard

/-- THE SECOND FORM's CARD OF 'scriptoriumlaw05.LeafMarkers'. -/
def leafMarkersUptoCard : Claim7 := { stood := { row := leafMarkersUptoRow, standIns := [], harness := (true, "d68f85093359dd6a4abca75b4dc5b280ceb7a6108f759abfe3ec820667999835"), looks := true }, kinds := [], alts := [], laidByText := true, laidKinds := [.data, .data, .data, .data, .sentinel, .sentinel, .pinned], laidTests := true, laidLooks := .later }
def LeafMarkersUptoCardSaid : Prop := Claim7.holds Tryz.pinned (.plain (OpenSpec.upto leafMarkersSpec)) leafMarkersUptoCard

/-- THE SECOND FORM's CARD OF 'scriptoriumlaw05.LeafHeadings'. -/
def leafHeadingsUptoCard : Claim7 := { stood := { row := leafHeadingsUptoRow, standIns := [], harness := (true, "d68f85093359dd6a4abca75b4dc5b280ceb7a6108f759abfe3ec820667999835"), looks := true }, kinds := [], alts := [], laidByText := true, laidKinds := [.data, .data, .data, .data, .sentinel, .sentinel, .pinned], laidTests := true, laidLooks := .later }
def LeafHeadingsUptoCardSaid : Prop := Claim7.holds Tryz.pinned (.plain (OpenSpec.upto leafHeadingsSpec)) leafHeadingsUptoCard

/-- THE SECOND FORM's CARD OF 'scriptoriumlaw05.LeafRules'. -/
def leafRulesUptoCard : Claim7 := { stood := { row := leafRulesUptoRow, standIns := [], harness := (true, "d68f85093359dd6a4abca75b4dc5b280ceb7a6108f759abfe3ec820667999835"), looks := true }, kinds := [], alts := [], laidByText := true, laidKinds := [.data, .data, .data, .data, .sentinel, .sentinel, .pinned], laidTests := true, laidLooks := .later }
def LeafRulesUptoCardSaid : Prop := Claim7.holds Tryz.pinned (.plain (OpenSpec.upto leafRulesSpec)) leafRulesUptoCard

/-- THE SECOND FORM's CARD OF 'scriptoriumlaw05.LeafUnders'. -/
def leafUndersUptoCard : Claim7 := { stood := { row := leafUndersUptoRow, standIns := [], harness := (true, "d68f85093359dd6a4abca75b4dc5b280ceb7a6108f759abfe3ec820667999835"), looks := true }, kinds := [], alts := [], laidByText := true, laidKinds := [.data, .data, .data, .data, .sentinel, .sentinel, .pinned], laidTests := true, laidLooks := .later }
def LeafUndersUptoCardSaid : Prop := Claim7.holds Tryz.pinned (.plain (OpenSpec.upto leafUndersSpec)) leafUndersUptoCard

/-- THE SECOND FORM's CARD OF 'scriptoriumlaw05.LeafFences'. -/
def leafFencesUptoCard : Claim7 := { stood := { row := leafFencesUptoRow, standIns := [], harness := (true, "d68f85093359dd6a4abca75b4dc5b280ceb7a6108f759abfe3ec820667999835"), looks := true }, kinds := [], alts := [], laidByText := true, laidKinds := [.data, .data, .data, .data, .sentinel, .sentinel, .pinned], laidTests := true, laidLooks := .later }
def LeafFencesUptoCardSaid : Prop := Claim7.holds Tryz.pinned (.plain (OpenSpec.upto leafFencesSpec)) leafFencesUptoCard

/-- THE SECOND FORM's CARD OF 'scriptoriumlaw06.LinkFront'. -/
def linkFrontUptoCard : Claim7 := { stood := { row := linkFrontUptoRow, standIns := [], harness := (true, "d68f85093359dd6a4abca75b4dc5b280ceb7a6108f759abfe3ec820667999835"), looks := true }, kinds := [], alts := [], laidByText := true, laidKinds := [.data, .data, .data, .data, .sentinel, .sentinel, .pinned], laidTests := true, laidLooks := .later }
def LinkFrontUptoCardSaid : Prop := Claim7.holds Tryz.pinned (.plain (OpenSpec.upto linkFrontSpec)) linkFrontUptoCard

/-- THE SECOND FORM's CARD OF 'scriptoriumlaw06.LinkDefines'. -/
def linkDefinesUptoCard : Claim7 := { stood := { row := linkDefinesUptoRow, standIns := [], harness := (true, "d68f85093359dd6a4abca75b4dc5b280ceb7a6108f759abfe3ec820667999835"), looks := true }, kinds := [], alts := [], laidByText := true, laidKinds := [.data, .data, .data, .data, .sentinel, .sentinel, .pinned], laidTests := true, laidLooks := .later }
def LinkDefinesUptoCardSaid : Prop := Claim7.holds Tryz.pinned (.plain (OpenSpec.upto linkDefinesSpec)) linkDefinesUptoCard

/-- THE SECOND FORM's CARD OF 'scriptoriumlaw06.LinkLabels'. -/
def linkLabelsUptoCard : Claim7 := { stood := { row := linkLabelsUptoRow, standIns := [], harness := (true, "d68f85093359dd6a4abca75b4dc5b280ceb7a6108f759abfe3ec820667999835"), looks := true }, kinds := [], alts := [], laidByText := true, laidKinds := [.data, .data, .data, .data, .sentinel, .sentinel, .pinned], laidTests := true, laidLooks := .later }
def LinkLabelsUptoCardSaid : Prop := Claim7.holds Tryz.pinned (.plain (OpenSpec.upto linkLabelsSpec)) linkLabelsUptoCard

/-- THE SECOND FORM's CARD OF 'scriptoriumlaw06.LinkPlaces'. -/
def linkPlacesUptoCard : Claim7 := { stood := { row := linkPlacesUptoRow, standIns := [], harness := (true, "d68f85093359dd6a4abca75b4dc5b280ceb7a6108f759abfe3ec820667999835"), looks := true }, kinds := [], alts := [], laidByText := true, laidKinds := [.data, .data, .data, .data, .sentinel, .sentinel, .pinned], laidTests := true, laidLooks := .later }
def LinkPlacesUptoCardSaid : Prop := Claim7.holds Tryz.pinned (.plain (OpenSpec.upto linkPlacesSpec)) linkPlacesUptoCard
end Rows
end Go.Proofs.YthdlibgiejpjeaaGreatDoor
