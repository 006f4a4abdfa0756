/- LinkFront: the row and the card, where what is read is of bulk at most 1048576. -/
import Derived.Test.YthdlibgiejpjeaaGreatDoorLaidG
import Derived.Test.YthdlibgiejpjeaaGreatDoorFrontAll
import Derived.Test.YthdlibgiejpjeaaGreatDoorFactsLinkFront
import Derived.Test.YthdlibgiejpjeaaGreatDoorFactsCLinkFront
import Derived.Test.YthdlibgiejpjeaaGreatDoorFactsMay
import Derived.Test.YthdlibgiejpjeaaGreatDoorFactsMayb3


import Derived.WalkKit
import Derived.ProofKit
import Derived.OpenShut
import Derived.Deep.DeepHandedRow
import Derived.Lay
import Derived.ChangeMaps5
import Derived.SevenTiedAt
set_option linter.unusedVariables false
set_option linter.unusedSimpArgs false
namespace Go.Proofs.YthdlibgiejpjeaaGreatDoor.linkFront
open Go.ChangeShapes Go.WideShapes Go.ChangeAt Go.RowKit Go.Proofs.YthdlibgiejpjeaaGreatDoor Go.Proofs.YthdlibgiejpjeaaGreatDoor.Given
open Go.ChangeMaps (open_string shut_string)

set_option maxRecDepth 100000 in
theorem closed : joinedFacts Tryz.pinned.checked.prog 16 Tryz.f16 (Rows.OpenSpec.upto Rows.linkFrontSpec).bare Rows.linkFrontUptoRow = true :=
  facts.joined_of _ _ _ _ _ j0 j1 j2 j3 j4 j5 j6 j7 j8 j9 j10 j11 j12 j13 j14 j15 j16 j17 j18 j19 j20 j21 j22 j23 j24 (facts.may_of _ facts.may0 facts.maya facts.mayb facts.mayc facts.mayd facts.maye) j26 j27 j28 j29 j30 j31
theorem gw_of2 {W : World} (h : laidMetH Tryz.prog Rows.leafMarkersRow.laid W) (hS : W.ShapedOpen Tryz.prog) : GW W := by
  rw [MakeChecks.laidMetH_plain _ _ _ (by kernel_rfl)] at h
  exact ⟨hS, tz_of h (.tail _ (.head _)), es_of (laidMet.tail (laidMet.tail (laidMet.tail (laidMet.tail (laidMet.tail h))))), u8_of h (.tail _ (.tail _ (.tail _ (.tail _ (.tail _ (.tail _ (.head _))))))) (.tail _ (.tail _ (.tail _ (.head _))))⟩
theorem own : ownKnob Tryz.prog.godebug = none := by kernel_rfl
theorem wf_bd {n : Int} (h : (Lit.int .i64 n).wf = true) : -9223372036854775808 ≤ n ∧ n ≤ 9223372036854775807 := by
  simp [Lit.wf, IntKind.min, IntKind.max, IntKind.signed, IntKind.bits] at h
  omega
theorem walk (x0 : ByteArray) (x1 : ByteArray) (w : World) (hG : GW w) (hx0 : x0.size ≤ 1048576) (hx1 : x1.size ≤ 1048576) :
    Calls Tryz.prog 16 #[.string x0, .string x1] w fun e w' => e = .returned (.bool true) ∧ Below w.heap.size w w' := by
  have e0 : x0.data.toList.length = x0.size := by rw [Array.length_toList]; rfl
  have e1 : x1.data.toList.length = x1.size := by rw [Array.length_toList]; rfl
  exact FrontW.front_calls x0.data.toList x1.data.toList (by omega) (by omega) w hG

set_option maxRecDepth 100000 in
theorem contract (H : Type) (enc : TypeId × Value → H) (W : World) (base : Nat) (args : Array Value) (ds gs : List (DataW H)) (before : List MemPlace)
    (hval : ∀ (j : Nat) t v, Tryz.f16.params[j]? = some t → args[j]? = some v → Value.okWide Tryz.prog W .any base t v)
    (hW : DataW.Whole enc Tryz.prog Tryz.f16.params.toList Rows.linkFrontSpec.vars false W args.toList ds gs before) (hk : Rows.uptoSmall H (ds ++ gs) = true)
    (hL : laidMetH Tryz.prog Rows.linkFrontUptoRow.laid W) (hS : W.ShapedOpen Tryz.prog) :
    Calls Tryz.prog 16 args W fun e W' => ∃ v, e = .returned v ∧ Rows.linkFrontSpec.post enc Tryz.prog Tryz.f16 false true false false W args v W' := by
  have hW' := hW
  obtain ⟨p, q, hA0, hV, rfl, hfz, hnd⟩ := hW
  have hA : DataW.TrodAll enc Tryz.prog W 0 (fun _ => true) true Tryz.f16.params.toList args.toList ds p := hA0
  rw [Tryz.params16] at hA hval
  obtain ⟨v0, vs0, d0, ds0, p0, q0, hargs, rfl, rfl, h0, r0⟩ := trodAll_cons hA
  obtain ⟨v1, vs1, d1, ds1, p1, q1, rfl, rfl, rfl, h1, r1⟩ := trodAll_cons r0
  obtain ⟨rfl, rfl, rfl⟩ := trodAll_nil r1
  obtain rfl : args = #[v0, v1] := by cases args; simp_all
  obtain ⟨rfl, rfl⟩ := trodVars_none hV
  obtain ⟨x0, rfl, rfl, rfl, hmax0⟩ := open_string Tryz.underlying9 (hval 0 9 v0 rfl rfl) h0
  obtain ⟨x1, rfl, rfl, rfl, hmax1⟩ := open_string Tryz.underlying9 (hval 1 9 v1 rfl rfl) h1
  clear hA0
  simp only [List.append_nil] at hW' hk
  have hb : Rows.uptoBulkAll [.lit (.string x0.data.toList), .lit (.string x1.data.toList)] ≤ 1048576 := of_decide_eq_true hk
  simp only [Rows.uptoBulkAll, Rows.uptoBulk] at hb
  have hx0 : x0.size ≤ 1048576 := by
    have e : x0.data.toList.length = x0.size := by rw [Array.length_toList]; rfl
    omega
  have hx1 : x1.size ≤ 1048576 := by
    have e : x1.data.toList.length = x1.size := by rw [Array.length_toList]; rfl
    omega
  refine (walk x0 x1 W (gw_of2 hL hS) hx0 hx1).mono fun e W' ⟨he, hg⟩ => ?_
  subst he
  exact ⟨_, rfl, _, _, _, [], [], [], hW', trodAll_mk1 (shut_bool Tryz.underlying4 _), trodAll_mk2 (shut_string Tryz.underlying9 hmax0) (shut_string Tryz.underlying9 hmax1), rfl, hg.frame _, fun h => by cases h⟩

set_option maxRecDepth 100000 in
theorem laid_met (os : Os) : laidMet Tryz.prog Rows.linkFrontUptoRow.laid ((World.laidAll Tryz.prog os Rows.linkFrontUptoRow.laid).forCall (fun _ _ => 0) ⟨#[], #[.string .empty, .string .empty], []⟩).memory :=
  laidMet_laidAll _ (by kernel_rfl) (by kernel_rfl)
set_option maxRecDepth 100000 in
theorem shaped (os : Os) : ((World.laidAll Tryz.prog os Rows.linkFrontUptoRow.laid).forCall (fun _ _ => 0) ⟨#[], #[.string .empty, .string .empty], []⟩).Shaped Tryz.prog :=
  World.shaped_of_ZipB (by kernel_rfl) (by kernel_rfl)
set_option maxRecDepth 100000 in
theorem okIn (os : Os) : Input.okWideB Tryz.prog ((World.laidAll Tryz.prog os Rows.linkFrontUptoRow.laid).forCall (fun _ _ => 0) ⟨#[], #[.string .empty, .string .empty], []⟩) 16 ⟨#[], #[.string .empty, .string .empty], []⟩ = true := by kernel_rfl
set_option maxRecDepth 100000 in
theorem reads (os : Os) {H : Type} (enc : TypeId × Value → H) : ∃ places, DataW.whole enc Tryz.prog ((World.laidAll Tryz.prog os Rows.linkFrontUptoRow.laid).forCall (fun _ _ => 0) ⟨#[], #[.string .empty, .string .empty], []⟩).memory Tryz.f16.params.toList Rows.linkFrontSpec.vars false (#[.string .empty, .string .empty] : Array Value).toList 8 = some ([.lit (.string []), .lit (.string [])], [], places) :=
  ⟨[], by kernel_rfl⟩

set_option maxRecDepth 100000 in
theorem liftedUpto (os : Os) (started : os.Started) (H : Type) (enc : TypeId × Value → H) (F : Stop.Interp) :
    ReturnsInHanded {} Tryz.checked os 16 .any ((Rows.OpenSpec.upto Rows.linkFrontSpec).preRow enc Tryz.prog Tryz.f16 Rows.linkFrontUptoRow.domain false Rows.linkFrontUptoRow.laid) (((Rows.OpenSpec.upto Rows.linkFrontSpec).at F).post enc Tryz.prog Tryz.f16 false true false false) := by
  obtain ⟨places, hx⟩ := reads os enc
  refine returnsInHanded_of_row (C := Tryz.checked) (s := Rows.OpenSpec.upto Rows.linkFrontSpec) own started (by kernel_rfl) Tryz.func16
    ⟨World.laidAll Tryz.prog os Rows.linkFrontUptoRow.laid, fun _ _ => 0, ⟨#[], #[.string .empty, .string .empty], []⟩, World.laidAll_os _ _ _, shaped os, (Input.okWide_of_okWideB (base := 0) (okIn os)).1, (Input.okWide_of_okWideB (okIn os)).2,
      OpenSpec.preRow_of_cond 8 hx (by kernel_rfl) (fun k hk => by cases hk; kernel_rfl) (by kernel_rfl) (laid_met os), by
        simp only [Assume.holds]
        exact ⟨by simp, by simp, fun _ => Modest.zero, by simp, by simp⟩⟩ ?_
  intro W base args ds gs before hval hW _ hcond _ hL hS _
  exact contract H enc W base args ds gs before hval hW (hcond _ rfl) hL hS

theorem saidUpto : Rows.LinkFrontUptoSaid :=
  OpenClaim.holds_of_cond 16 Tryz.f16 rfl rfl rfl rfl rfl rfl rfl ⟨rfl, rfl, rfl, rfl, rfl⟩ rfl rfl rfl rfl rfl (by kernel_rfl) Tryz.func16 closed
    (of_decide_eq_true (by kernel_rfl)) (by unfold Func.isWrapper; first | (rw [if_pos (by decide +kernel)]; kernel_rfl) | (rw [if_neg (by decide +kernel)]; exact ⟨rfl, rfl⟩))
    (fun os started H enc _ F => by rw [OpenClaim.pre_eq_preRow]; exact liftedUpto os started H enc F)

theorem noStand : (Tryz.f16.params.toList.all fun t => !Tryz.prog.wantsStandIn t) = true := by kernel_rfl
theorem plain (f : FuncId) (fn : Func) (hf : Tryz.pinned.checked.prog.funcNamed "scriptorium/scriptoriumlaw06.LinkFront" = some f) (hfn : Tryz.pinned.checked.prog.funcs[f]? = some fn) :
    true = Tryz.pinned.checked.prog.looks [] ∧ ∀ (j : Nat) t, fn.params[j]? = some t → Tryz.pinned.checked.prog.wantsStandIn t = false := by
  obtain rfl : f = 16 := Option.some.inj ((show Tryz.prog.funcNamed "scriptorium/scriptoriumlaw06.LinkFront" = some 16 by kernel_rfl).symm.trans hf) |>.symm
  obtain rfl : fn = Tryz.f16 := (Option.some.inj (Tryz.func16.symm.trans hfn)).symm
  refine ⟨by kernel_rfl, fun j t ht => ?_⟩
  have h := List.all_eq_true.1 noStand t (Array.mem_toList_iff.2 (Array.mem_of_getElem? ht))
  have h2 : Tryz.prog.wantsStandIn t = false := by simpa using h
  exact h2

theorem cardUpto : Rows.LinkFrontUptoCardSaid :=
  Claim7.holds_tied_plain_at .later [] _ _ _ _ saidUpto (fun _ h => by cases h) hw (fun _ h => by cases h) linkFrontUpto_row_tie rfl ⟨rfl, rfl⟩ hm rfl plain hg
end Go.Proofs.YthdlibgiejpjeaaGreatDoor.linkFront
