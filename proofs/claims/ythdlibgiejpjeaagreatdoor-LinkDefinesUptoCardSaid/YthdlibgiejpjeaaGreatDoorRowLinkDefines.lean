/- LinkDefines: the row and the card, where what is read is of bulk at most 1048576. -/
import Derived.Test.YthdlibgiejpjeaaGreatDoorLaidG
import Derived.Test.YthdlibgiejpjeaaGreatDoorDefAll
import Derived.Test.YthdlibgiejpjeaaGreatDoorFactsLinkDefines
import Derived.Test.YthdlibgiejpjeaaGreatDoorFactsCLinkDefines
import Derived.Test.YthdlibgiejpjeaaGreatDoorFactsMay
import Derived.Test.YthdlibgiejpjeaaGreatDoorFactsMayb3


import Derived.WalkKit
import Derived.ProofKit
import Derived.OpenShut
import Derived.Deep.DeepHandedRow
import Derived.Lay
import Derived.ChangeMaps5
import Derived.ChangeOld
import Derived.Below
import Derived.ChangeSlices
import Derived.SevenTiedAt
set_option linter.unusedVariables false
set_option linter.unusedSimpArgs false
namespace Go.Proofs.YthdlibgiejpjeaaGreatDoor.linkDefines
open Go.ChangeShapes Go.WideShapes Go.ChangeAt Go.RowKit Go.Proofs.YthdlibgiejpjeaaGreatDoor Go.Proofs.YthdlibgiejpjeaaGreatDoor.Given
open Go.ChangeMaps (open_string shut_string)
open Go.Proofs.YthdlibgiejpjeaaGreatDoorW.PrintWords

set_option maxRecDepth 100000 in
theorem closed : joinedFacts Tryz.pinned.checked.prog 17 Tryz.f17 (Rows.OpenSpec.upto Rows.linkDefinesSpec).bare Rows.linkDefinesUptoRow = true :=
  facts.joined_of _ _ _ _ _ j0 j1 j2 j3 j4 j5 j6 j7 j8 j9 j10 j11 j12 j13 j14 j15 j16 j17 j18 j19 j20 j21 j22 j23 j24 (facts.may_of _ facts.may0 facts.maya facts.mayb facts.mayc facts.mayd facts.maye) j26 j27 j28 j29 j30 j31
theorem gw_of2 {W : World} (h : laidMetH Tryz.prog Rows.leafMarkersRow.laid W) (hS : W.ShapedOpen Tryz.prog) : GW W := by
  rw [MakeChecks.laidMetH_plain _ _ _ (by kernel_rfl)] at h
  exact ⟨hS, tz_of h (.tail _ (.head _)), es_of (laidMet.tail (laidMet.tail (laidMet.tail (laidMet.tail (laidMet.tail h))))), u8_of h (.tail _ (.tail _ (.tail _ (.tail _ (.tail _ (.tail _ (.head _))))))) (.tail _ (.tail _ (.tail _ (.head _))))⟩
def IsRow (k : IntKind) (w : World) (a : Option Addr) (len cap : Nat) (zs : List Int) : Prop :=
  (a = none ∧ len = 0 ∧ cap = 0 ∧ zs = []) ∨
  ∃ x, a = some x ∧ len ≤ cap ∧ cap ≤ maxLen ∧ zs.length = cap ∧ (∀ i, i < zs.length → w.cell? (x.add i) = some (.int k (zs.getD i 0))) ∧ ∀ n ∈ zs, (Lit.int k n).wf = true
theorem own : ownKnob Tryz.prog.godebug = none := by kernel_rfl
theorem wf_bd {n : Int} (h : (Lit.int .i64 n).wf = true) : -9223372036854775808 ≤ n ∧ n ≤ 9223372036854775807 := by
  simp [Lit.wf, IntKind.min, IntKind.max, IntKind.signed, IntKind.bits] at h
  omega
theorem walk (x0 : ByteArray) (x1 : ByteArray) (x2 : ByteArray) (x3 : Option Addr) (len3 cap3 : Nat) (z3 : List Int) (w : World) (hG : GW w) (hx0 : x0.size ≤ 1048576) (hx1 : x1.size ≤ 1048576) (hx2 : x2.size ≤ 1048576) (hx3 : IsRow .i64 w x3 len3 cap3 z3) :
    Calls Tryz.prog 17 #[.string x0, .string x1, .string x2, .slice x3 len3 cap3] w fun e w' => e = .returned (.bool true) ∧ Below w.heap.size w w' := by
  obtain ⟨l3, rfl, hr3, hm3, hw3, hc3⟩ := ReadsInt.ofRowC hx3
  have e0 : x0.data.toList.length = x0.size := by rw [Array.length_toList]; rfl
  have e1 : x1.data.toList.length = x1.size := by rw [Array.length_toList]; rfl
  have e2 : x2.data.toList.length = x2.size := by rw [Array.length_toList]; rfl
  exact DefW.defines_calls x0.data.toList x1.data.toList x2.data.toList (by omega) (by omega) (by omega) _ _ l3 hw3 hc3 w (Kd.C_of_reads (d := (0 : Int)) (h1 := fun _ => rfl) hr3) hG

set_option maxRecDepth 100000 in
theorem contract (H : Type) (enc : TypeId × Value → H) (W : World) (base : Nat) (args : Array Value) (ds gs : List (DataW H)) (before : List MemPlace)
    (hval : ∀ (j : Nat) t v, Tryz.f17.params[j]? = some t → args[j]? = some v → Value.okWide Tryz.prog W .any base t v)
    (hW : DataW.Whole enc Tryz.prog Tryz.f17.params.toList Rows.linkDefinesSpec.vars false W args.toList ds gs before) (hk : Rows.uptoSmall H (ds ++ gs) = true)
    (hL : laidMetH Tryz.prog Rows.linkDefinesUptoRow.laid W) (hS : W.ShapedOpen Tryz.prog) :
    Calls Tryz.prog 17 args W fun e W' => ∃ v, e = .returned v ∧ Rows.linkDefinesSpec.post enc Tryz.prog Tryz.f17 false true false false W args v W' := by
  have hW' := hW
  obtain ⟨p, q, hA0, hV, rfl, hfz, hnd⟩ := hW
  have hA : DataW.TrodAll enc Tryz.prog W 0 (fun _ => true) true Tryz.f17.params.toList args.toList ds p := hA0
  rw [Tryz.params17] at hA hval
  obtain ⟨v0, vs0, d0, ds0, p0, q0, hargs, rfl, rfl, h0, r0⟩ := trodAll_cons hA
  obtain ⟨v1, vs1, d1, ds1, p1, q1, rfl, rfl, rfl, h1, r1⟩ := trodAll_cons r0
  obtain ⟨v2, vs2, d2, ds2, p2, q2, rfl, rfl, rfl, h2, r2⟩ := trodAll_cons r1
  obtain ⟨v3, vs3, d3, ds3, p3, q3, rfl, rfl, rfl, h3, r3⟩ := trodAll_cons r2
  obtain ⟨rfl, rfl, rfl⟩ := trodAll_nil r3
  obtain rfl : args = #[v0, v1, v2, v3] := by cases args; simp_all
  obtain ⟨rfl, rfl⟩ := trodVars_none hV
  obtain ⟨x0, rfl, rfl, rfl, hmax0⟩ := open_string Tryz.underlying9 (hval 0 9 v0 rfl rfl) h0
  obtain ⟨x1, rfl, rfl, rfl, hmax1⟩ := open_string Tryz.underlying9 (hval 1 9 v1 rfl rfl) h1
  obtain ⟨x2, rfl, rfl, rfl, hmax2⟩ := open_string Tryz.underlying9 (hval 2 9 v2 rfl rfl) h2
  obtain ⟨x3, len3, cap3, rfl⟩ := okWide_slice Tryz.underlying41 (hval 3 41 v3 rfl rfl)
  have k3 := h3
  have lt3 : ∀ x ∈ p3, x.block < W.heap.size := by obtain ⟨m, hm⟩ := k3; exact DataW.trod_lt m _ _ _ hm
  obtain ⟨z3, hx3⟩ : ∃ zs, IsRow .i64 W x3 len3 cap3 zs := by
    obtain ⟨fuel, hf⟩ := h3
    rcases open_ints Tryz.underlying41 Tryz.underlying3 (by kernel_rfl) hf with ⟨hcs, _⟩ | ⟨x, l, c, zs, hcs, _, hl, hm, hz, _, hcell, hwz⟩
    · simp [Value.cells] at hcs
      obtain ⟨rfl, rfl, rfl⟩ := hcs
      exact ⟨[], .inl ⟨rfl, rfl, rfl, rfl⟩⟩
    · simp [Value.cells] at hcs
      obtain ⟨rfl, rfl, rfl⟩ := hcs
      exact ⟨zs, .inr ⟨_, rfl, hl, hm, by simpa using hz, hcell, hwz⟩⟩
  clear hA0
  simp only [List.append_nil] at hW' hk
  have hb : Rows.uptoBulkAll [.lit (.string x0.data.toList), .lit (.string x1.data.toList), .lit (.string x2.data.toList), d3] ≤ 1048576 := of_decide_eq_true hk
  simp only [Rows.uptoBulkAll, Rows.uptoBulk] at hb
  have hx0 : x0.size ≤ 1048576 := by
    have e : x0.data.toList.length = x0.size := by rw [Array.length_toList]; rfl
    omega
  have hx1 : x1.size ≤ 1048576 := by
    have e : x1.data.toList.length = x1.size := by rw [Array.length_toList]; rfl
    omega
  have hx2 : x2.size ≤ 1048576 := by
    have e : x2.data.toList.length = x2.size := by rw [Array.length_toList]; rfl
    omega
  refine (walk x0 x1 x2 x3 len3 cap3 z3 W (gw_of2 hL hS) hx0 hx1 hx2 hx3).mono fun e W' ⟨he, hg⟩ => ?_
  subst he
  exact ⟨_, rfl, _, _, _, [], _, [], hW', trodAll_mk1 (shut_bool Tryz.underlying4 _), (trodAll_cons_mk (shut_string Tryz.underlying9 hmax0) (trodAll_cons_mk (shut_string Tryz.underlying9 hmax1) (trodAll_cons_mk (shut_string Tryz.underlying9 hmax2) (trodAll_cons_mk (Below.trod (show laidOutB Tryz.prog = true from j1) (by kernel_rfl) (of_decide_eq_true (by kernel_rfl)) k3 hg lt3) trodAll_mk0)))), rfl, hg.frame _, fun h => by cases h⟩

set_option maxRecDepth 100000 in
theorem laid_met (os : Os) : laidMet Tryz.prog Rows.linkDefinesUptoRow.laid ((World.laidAll Tryz.prog os Rows.linkDefinesUptoRow.laid).forCall (fun _ _ => 0) ⟨#[], #[.string .empty, .string .empty, .string .empty, .slice none 0 0], []⟩).memory :=
  laidMet_laidAll _ (by kernel_rfl) (by kernel_rfl)
set_option maxRecDepth 100000 in
theorem shaped (os : Os) : ((World.laidAll Tryz.prog os Rows.linkDefinesUptoRow.laid).forCall (fun _ _ => 0) ⟨#[], #[.string .empty, .string .empty, .string .empty, .slice none 0 0], []⟩).Shaped Tryz.prog :=
  World.shaped_of_ZipB (by kernel_rfl) (by kernel_rfl)
set_option maxRecDepth 100000 in
theorem okIn (os : Os) : Input.okWideB Tryz.prog ((World.laidAll Tryz.prog os Rows.linkDefinesUptoRow.laid).forCall (fun _ _ => 0) ⟨#[], #[.string .empty, .string .empty, .string .empty, .slice none 0 0], []⟩) 17 ⟨#[], #[.string .empty, .string .empty, .string .empty, .slice none 0 0], []⟩ = true := by kernel_rfl
set_option maxRecDepth 100000 in
theorem reads (os : Os) {H : Type} (enc : TypeId × Value → H) : ∃ places, DataW.whole enc Tryz.prog ((World.laidAll Tryz.prog os Rows.linkDefinesUptoRow.laid).forCall (fun _ _ => 0) ⟨#[], #[.string .empty, .string .empty, .string .empty, .slice none 0 0], []⟩).memory Tryz.f17.params.toList Rows.linkDefinesSpec.vars false (#[.string .empty, .string .empty, .string .empty, .slice none 0 0] : Array Value).toList 8 = some ([.lit (.string []), .lit (.string []), .lit (.string []), .nil], [], places) :=
  ⟨[], by kernel_rfl⟩

set_option maxRecDepth 100000 in
theorem liftedUpto (os : Os) (started : os.Started) (H : Type) (enc : TypeId × Value → H) (F : Stop.Interp) :
    ReturnsInHanded {} Tryz.checked os 17 .any ((Rows.OpenSpec.upto Rows.linkDefinesSpec).preRow enc Tryz.prog Tryz.f17 Rows.linkDefinesUptoRow.domain false Rows.linkDefinesUptoRow.laid) (((Rows.OpenSpec.upto Rows.linkDefinesSpec).at F).post enc Tryz.prog Tryz.f17 false true false false) := by
  obtain ⟨places, hx⟩ := reads os enc
  refine returnsInHanded_of_row (C := Tryz.checked) (s := Rows.OpenSpec.upto Rows.linkDefinesSpec) own started (by kernel_rfl) Tryz.func17
    ⟨World.laidAll Tryz.prog os Rows.linkDefinesUptoRow.laid, fun _ _ => 0, ⟨#[], #[.string .empty, .string .empty, .string .empty, .slice none 0 0], []⟩, World.laidAll_os _ _ _, shaped os, (Input.okWide_of_okWideB (base := 0) (okIn os)).1, (Input.okWide_of_okWideB (okIn os)).2,
      OpenSpec.preRow_of_cond 8 hx (by kernel_rfl) (fun k hk => by cases hk; kernel_rfl) (by kernel_rfl) (laid_met os), by
        simp only [Assume.holds]
        exact ⟨by simp, by simp, fun _ => Modest.zero, by simp, by simp⟩⟩ ?_
  intro W base args ds gs before hval hW _ hcond _ hL hS _
  exact contract H enc W base args ds gs before hval hW (hcond _ rfl) hL hS

theorem saidUpto : Rows.LinkDefinesUptoSaid :=
  OpenClaim.holds_of_cond 17 Tryz.f17 rfl rfl rfl rfl rfl rfl rfl ⟨rfl, rfl, rfl, rfl, rfl⟩ rfl rfl rfl rfl rfl (by kernel_rfl) Tryz.func17 closed
    (of_decide_eq_true (by kernel_rfl)) (by unfold Func.isWrapper; first | (rw [if_pos (by decide +kernel)]; kernel_rfl) | (rw [if_neg (by decide +kernel)]; exact ⟨rfl, rfl⟩))
    (fun os started H enc _ F => by rw [OpenClaim.pre_eq_preRow]; exact liftedUpto os started H enc F)

theorem noStand : (Tryz.f17.params.toList.all fun t => !Tryz.prog.wantsStandIn t) = true := by kernel_rfl
theorem plain (f : FuncId) (fn : Func) (hf : Tryz.pinned.checked.prog.funcNamed "scriptorium/scriptoriumlaw06.LinkDefines" = some f) (hfn : Tryz.pinned.checked.prog.funcs[f]? = some fn) :
    true = Tryz.pinned.checked.prog.looks [] ∧ ∀ (j : Nat) t, fn.params[j]? = some t → Tryz.pinned.checked.prog.wantsStandIn t = false := by
  obtain rfl : f = 17 := Option.some.inj ((show Tryz.prog.funcNamed "scriptorium/scriptoriumlaw06.LinkDefines" = some 17 by kernel_rfl).symm.trans hf) |>.symm
  obtain rfl : fn = Tryz.f17 := (Option.some.inj (Tryz.func17.symm.trans hfn)).symm
  refine ⟨by kernel_rfl, fun j t ht => ?_⟩
  have h := List.all_eq_true.1 noStand t (Array.mem_toList_iff.2 (Array.mem_of_getElem? ht))
  have h2 : Tryz.prog.wantsStandIn t = false := by simpa using h
  exact h2

theorem cardUpto : Rows.LinkDefinesUptoCardSaid :=
  Claim7.holds_tied_plain_at .later [] _ _ _ _ saidUpto (fun _ h => by cases h) hw (fun _ h => by cases h) linkDefinesUpto_row_tie rfl ⟨rfl, rfl⟩ hm rfl plain hg
end Go.Proofs.YthdlibgiejpjeaaGreatDoor.linkDefines
