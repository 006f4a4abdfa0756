-- PRINTED by print.py out of the translation. Not trusted: Lean checks it.
import Derived.Test.YthdlibgiejpjeaaGreatDoorProg
import Derived.Below
import Derived.Deep.Draws
import Derived.Deep.AppendLies
import Derived.Maps.AppendAt
import Derived.OwnWalk
import Derived.Laws.BytesArg
import Derived.Laws.MakeOwn
import Derived.Laws.OwnMore
import Derived.Deep.OwnRows
import Derived.Tactics
import Derived.Lib.ConvBytes
import Derived.Laws.Slices
import Derived.WalkKit
import Derived.KernelRfl
import Derived.RowKit3
import Derived.Deep.LoopGhost
import Derived.Deep.QuietTactic
import Derived.BigQuiet
import Derived.WideLaws
import Derived.Deep.DeepCutAuto
import Derived.Deep.CutBlock
import Derived.Deep.RegionHeld3
import Derived.Laws.Rows
import Derived.Lib.AppendStr
import Derived.ArgAppend
import Derived.Laws.IdiomCopy
import Derived.OrdersHeld
import Derived.Laws.BitsLemmas
import Derived.RowKit
import Derived.Test.YthdlibgiejpjeaaGreatDoorGivenLN
import Derived.Test.YthdlibgiejpjeaaGreatDoorWWords
import Derived.Test.YthdlibgiejpjeaaGreatDoorWLast
import Derived.Test.YthdlibgiejpjeaaGreatDoorWTab
import Derived.Test.YthdlibgiejpjeaaGreatDoorWFour
import Derived.Test.YthdlibgiejpjeaaGreatDoorWQPut
import Derived.Test.YthdlibgiejpjeaaGreatDoorWApart
import Derived.Test.YthdlibgiejpjeaaGreatDoorWArr
import Derived.Test.YthdlibgiejpjeaaGreatDoorWZeros
import Derived.Test.YthdlibgiejpjeaaGreatDoorWFoot
import Derived.Test.YthdlibgiejpjeaaGreatDoorWKept
import Derived.Test.YthdlibgiejpjeaaGreatDoorWShare
import Derived.Test.YthdlibgiejpjeaaGreatDoorWN
import Derived.Test.YthdlibgiejpjeaaGreatDoorWFootNe
import Derived.Test.YthdlibgiejpjeaaGreatDoorWAt
import Derived.Test.YthdlibgiejpjeaaGreatDoorWEqStruct
import Derived.Test.YthdlibgiejpjeaaGreatDoorWRepsOne
import Derived.Test.YthdlibgiejpjeaaGreatDoorWInv
import Derived.Test.YthdlibgiejpjeaaGreatDoorWInvWords
import Derived.Test.YthdlibgiejpjeaaGreatDoorWGuard
import Derived.Test.YthdlibgiejpjeaaGreatDoorWNEv
import Derived.Test.YthdlibgiejpjeaaGreatDoorWMore
namespace Go.Proofs.YthdlibgiejpjeaaGreatDoor.LN
open Go.RowKit Go.Proofs.YthdlibgiejpjeaaGreatDoor Go.Proofs.YthdlibgiejpjeaaGreatDoor.Given Go.Proofs.YthdlibgiejpjeaaGreatDoorW.PrintWords Go.Proofs.YthdlibgiejpjeaaGreatDoorW.PrintLast Go.Proofs.YthdlibgiejpjeaaGreatDoorW.PrintMore
attribute [local go_sem] max2_int min2_int max_two min_two max_three min_three max_four min_four   -- for this text's walks alone
set_option linter.unusedVariables false
set_option linter.unusedSimpArgs false



def errW : Option Int → Value
  | none => .nilIface
  | some c => .iface 0 (.int .i64 c)
theorem errW_none : errW none = .nilIface := rfl
theorem errW_some (c : Int) : errW (some c) = .iface 0 (.int .i64 c) := rfl

theorem info5 : (Tryz.prog.info? 5).map (fun i => (i.zero, i.size, i.bytes)) = some (some (.int .u8 0), 1, 1) := by kernel_rfl
-- the values' own types

end Go.Proofs.YthdlibgiejpjeaaGreatDoor.LN

namespace Go.Proofs.YthdlibgiejpjeaaGreatDoor.LN
open Go.RowKit Go.Proofs.YthdlibgiejpjeaaGreatDoor Go.Proofs.YthdlibgiejpjeaaGreatDoor.Given Go.Proofs.YthdlibgiejpjeaaGreatDoorW.PrintWords Go.Proofs.YthdlibgiejpjeaaGreatDoorW.PrintLast Go.Proofs.YthdlibgiejpjeaaGreatDoorW.PrintMore
attribute [local go_sem] max2_int min2_int max_two min_two max_three min_three max_four min_four   -- for this text's walks alone
set_option linter.unusedVariables false
set_option linter.unusedSimpArgs false

theorem eqA48 (d : Nat) (w : World) (x0 y0 : ByteArray) (x1 y1 : ByteArray) (x2 y2 : ByteArray) :
    (Op.equalIn (d + 2) 48 (.agg #[.string x0, .string x1, .string x2]) (.agg #[.string y0, .string y1, .string y2])).run Tryz.prog w = .ok (x0.toList == y0.toList && (x1.toList == y1.toList && (x2.toList == y2.toList))) w := by
  refine eqA_of Tryz.underlying48 (by kernel_rfl) ?_
  refine eqf_cons (by rfl) (by go_simp; rfl) (by go_simp; rfl) (by go_simp) ?_
  refine eqf_cons (by rfl) (by go_simp; rfl) (by go_simp; rfl) (by go_simp) ?_
  exact eqf_last (by rfl) (by go_simp; rfl) (by go_simp; rfl) (by go_simp)
end Go.Proofs.YthdlibgiejpjeaaGreatDoor.LN

namespace Go.Proofs.YthdlibgiejpjeaaGreatDoor.LN
open Go.RowKit Go.Proofs.YthdlibgiejpjeaaGreatDoor Go.Proofs.YthdlibgiejpjeaaGreatDoor.Given Go.Proofs.YthdlibgiejpjeaaGreatDoorW.PrintWords Go.Proofs.YthdlibgiejpjeaaGreatDoorW.PrintLast Go.Proofs.YthdlibgiejpjeaaGreatDoorW.PrintMore
attribute [local go_sem] max2_int min2_int max_two min_two max_three min_three max_four min_four   -- for this text's walks alone
set_option linter.unusedVariables false
set_option linter.unusedSimpArgs false

attribute [local go_sem high] eqA48
/-! ### scriptoriumlaw06_shown: function 41 -/
def scriptoriumlaw06_shown.f  : Option (Bool) := (link_Label.f (⟨#[91, 97, 92, 93, 98, 93, 99]⟩ : ByteArray)).bind fun bt101 => ((link_Dest.f (⟨#[97, 40, 98, 41, 99, 41, 100]⟩ : ByteArray)).bind fun bt103 => ((link_Title.f (⟨#[34, 97, 92, 34, 98, 34]⟩ : ByteArray)).bind fun bt105 => ((link_Define.f (⟨#[91, 70, 111, 111, 93, 58, 32, 47, 117, 32, 34, 116, 34, 10]⟩ : ByteArray)).bind fun bt107 => (if bt101.1.toList = ([97, 92, 93, 98] : List UInt8) then (if bt101.2 = 6 then (if bt103.1.toList = ([97, 40, 98, 41, 99] : List UInt8) then (if bt103.2 = 5 then (if bt105.1.toList = ([97, 34, 98] : List UInt8) then (if bt105.2 = 6 then (if (bt107.1.toList == ([102, 111, 111] : List UInt8) && (bt107.2.1.toList == ([47, 117] : List UInt8) && (bt107.2.2.1.toList == ([116] : List UInt8)))) = true then (some (bt107.2.2.2 == 14)) else (some false)) else (some false)) else (some false)) else (some false)) else (some false)) else (some false)) else (some false)))))
set_option maxHeartbeats 8000000 in
set_option maxRecDepth 100000 in
theorem scriptoriumlaw06_shown.calls  (r : Bool) (w : World) (hG : GW w) (h : scriptoriumlaw06_shown.f  = some r) :
    Calls Tryz.prog 41 #[] w fun e w' => e = .returned (.bool r) ∧ Below w.heap.size w w' := by
  have hu48 := Tryz.underlying48
  have HB := Aside0.mk (Below.refl w.heap.size w)
  have HG := Aside0.mk hG
  clear hG
  have H : ((link_Label.f (⟨#[91, 97, 92, 93, 98, 93, 99]⟩ : ByteArray)).bind fun bt101 => ((link_Dest.f (⟨#[97, 40, 98, 41, 99, 41, 100]⟩ : ByteArray)).bind fun bt103 => ((link_Title.f (⟨#[34, 97, 92, 34, 98, 34]⟩ : ByteArray)).bind fun bt105 => ((link_Define.f (⟨#[91, 70, 111, 111, 93, 58, 32, 47, 117, 32, 34, 116, 34, 10]⟩ : ByteArray)).bind fun bt107 => (if bt101.1.toList = ([97, 92, 93, 98] : List UInt8) then (if bt101.2 = 6 then (if bt103.1.toList = ([97, 40, 98, 41, 99] : List UInt8) then (if bt103.2 = 5 then (if bt105.1.toList = ([97, 34, 98] : List UInt8) then (if bt105.2 = 6 then (if (bt107.1.toList == ([102, 111, 111] : List UInt8) && (bt107.2.1.toList == ([47, 117] : List UInt8) && (bt107.2.2.1.toList == ([116] : List UInt8)))) = true then (some (bt107.2.2.2 == 14)) else (some false)) else (some false)) else (some false)) else (some false)) else (some false)) else (some false)) else (some false)))))) = some r := h
  clear h
  replace H := Option.bind_eq_some_iff.mp H
  obtain ⟨⟨t101, t102⟩, A10, H⟩ := H
  replace H : ((link_Dest.f (⟨#[97, 40, 98, 41, 99, 41, 100]⟩ : ByteArray)).bind fun bt103 => ((link_Title.f (⟨#[34, 97, 92, 34, 98, 34]⟩ : ByteArray)).bind fun bt105 => ((link_Define.f (⟨#[91, 70, 111, 111, 93, 58, 32, 47, 117, 32, 34, 116, 34, 10]⟩ : ByteArray)).bind fun bt107 => (if t101.toList = ([97, 92, 93, 98] : List UInt8) then (if t102 = 6 then (if bt103.1.toList = ([97, 40, 98, 41, 99] : List UInt8) then (if bt103.2 = 5 then (if bt105.1.toList = ([97, 34, 98] : List UInt8) then (if bt105.2 = 6 then (if (bt107.1.toList == ([102, 111, 111] : List UInt8) && (bt107.2.1.toList == ([47, 117] : List UInt8) && (bt107.2.2.1.toList == ([116] : List UInt8)))) = true then (some (bt107.2.2.2 == 14)) else (some false)) else (some false)) else (some false)) else (some false)) else (some false)) else (some false)) else (some false))))) = some r := H
  have A1 := Aside0.mk A10
  clear A10
  replace H := Option.bind_eq_some_iff.mp H
  obtain ⟨⟨t103, t104⟩, A20, H⟩ := H
  replace H : ((link_Title.f (⟨#[34, 97, 92, 34, 98, 34]⟩ : ByteArray)).bind fun bt105 => ((link_Define.f (⟨#[91, 70, 111, 111, 93, 58, 32, 47, 117, 32, 34, 116, 34, 10]⟩ : ByteArray)).bind fun bt107 => (if t101.toList = ([97, 92, 93, 98] : List UInt8) then (if t102 = 6 then (if t103.toList = ([97, 40, 98, 41, 99] : List UInt8) then (if t104 = 5 then (if bt105.1.toList = ([97, 34, 98] : List UInt8) then (if bt105.2 = 6 then (if (bt107.1.toList == ([102, 111, 111] : List UInt8) && (bt107.2.1.toList == ([47, 117] : List UInt8) && (bt107.2.2.1.toList == ([116] : List UInt8)))) = true then (some (bt107.2.2.2 == 14)) else (some false)) else (some false)) else (some false)) else (some false)) else (some false)) else (some false)) else (some false)))) = some r := H
  have A2 := Aside0.mk A20
  clear A20
  replace H := Option.bind_eq_some_iff.mp H
  obtain ⟨⟨t105, t106⟩, A30, H⟩ := H
  replace H : ((link_Define.f (⟨#[91, 70, 111, 111, 93, 58, 32, 47, 117, 32, 34, 116, 34, 10]⟩ : ByteArray)).bind fun bt107 => (if t101.toList = ([97, 92, 93, 98] : List UInt8) then (if t102 = 6 then (if t103.toList = ([97, 40, 98, 41, 99] : List UInt8) then (if t104 = 5 then (if t105.toList = ([97, 34, 98] : List UInt8) then (if t106 = 6 then (if (bt107.1.toList == ([102, 111, 111] : List UInt8) && (bt107.2.1.toList == ([47, 117] : List UInt8) && (bt107.2.2.1.toList == ([116] : List UInt8)))) = true then (some (bt107.2.2.2 == 14)) else (some false)) else (some false)) else (some false)) else (some false)) else (some false)) else (some false)) else (some false))) = some r := H
  have A3 := Aside0.mk A30
  clear A30
  replace H := Option.bind_eq_some_iff.mp H
  obtain ⟨⟨t107, t108, t109, t110⟩, A40, H⟩ := H
  replace H : (if t101.toList = ([97, 92, 93, 98] : List UInt8) then (if t102 = 6 then (if t103.toList = ([97, 40, 98, 41, 99] : List UInt8) then (if t104 = 5 then (if t105.toList = ([97, 34, 98] : List UInt8) then (if t106 = 6 then (if (t107.toList == ([102, 111, 111] : List UInt8) && (t108.toList == ([47, 117] : List UInt8) && (t109.toList == ([116] : List UInt8)))) = true then (some (t110 == 14)) else (some false)) else (some false)) else (some false)) else (some false)) else (some false)) else (some false)) else (some false)) = some r := H
  have A4 := Aside0.mk A40
  clear A40
  by_cases c5 : t101.toList = ([97, 92, 93, 98] : List UInt8)
  · rw [if_pos c5] at H
    have c5b0 : (t101.toList == ([97, 92, 93, 98] : List UInt8)) = true := beq_iff_eq.mpr c5
    have c5b1 : (t101.toList != ([97, 92, 93, 98] : List UInt8)) = false := bne_eq_false_iff_eq.mpr c5
    clear c5
    by_cases c6 : t102 = 6
    · rw [if_pos c6] at H
      have c6b0 : (t102 == 6) = true := beq_iff_eq.mpr c6
      have c6b1 : (t102 != 6) = false := bne_eq_false_iff_eq.mpr c6
      clear c6
      by_cases c7 : t103.toList = ([97, 40, 98, 41, 99] : List UInt8)
      · rw [if_pos c7] at H
        have c7b0 : (t103.toList == ([97, 40, 98, 41, 99] : List UInt8)) = true := beq_iff_eq.mpr c7
        have c7b1 : (t103.toList != ([97, 40, 98, 41, 99] : List UInt8)) = false := bne_eq_false_iff_eq.mpr c7
        clear c7
        by_cases c8 : t104 = 5
        · rw [if_pos c8] at H
          have c8b0 : (t104 == 5) = true := beq_iff_eq.mpr c8
          have c8b1 : (t104 != 5) = false := bne_eq_false_iff_eq.mpr c8
          clear c8
          by_cases c9 : t105.toList = ([97, 34, 98] : List UInt8)
          · rw [if_pos c9] at H
            have c9b0 : (t105.toList == ([97, 34, 98] : List UInt8)) = true := beq_iff_eq.mpr c9
            have c9b1 : (t105.toList != ([97, 34, 98] : List UInt8)) = false := bne_eq_false_iff_eq.mpr c9
            clear c9
            by_cases c10 : t106 = 6
            · rw [if_pos c10] at H
              have c10b0 : (t106 == 6) = true := beq_iff_eq.mpr c10
              have c10b1 : (t106 != 6) = false := bne_eq_false_iff_eq.mpr c10
              clear c10
              by_cases c11 : (t107.toList == ([102, 111, 111] : List UInt8) && (t108.toList == ([47, 117] : List UInt8) && (t109.toList == ([116] : List UInt8)))) = true
              · rw [if_pos c11] at H
                have c11b0 : (t107.toList == ([102, 111, 111] : List UInt8) && (t108.toList == ([47, 117] : List UInt8) && (t109.toList == ([116] : List UInt8)))) = true := c11
                (try (have c11b1 : decide (t107.toList = ([102, 111, 111] : List UInt8) && (t108.toList == ([47, 117] : List UInt8) && (t109.toList == ([116] : List UInt8)))) = true := by simpa using c11))
                (try (have c11b2 : (t107.toList == ([102, 111, 111] : List UInt8) && (t108.toList == ([47, 117] : List UInt8) && (t109.toList == ([116] : List UInt8)))) = true := by simpa using c11))
                clear c11
                obtain rfl := Option.some.inj H
                go_enter Tryz.func41, Tryz.ntmps41
                go_wp2_with (first | ((with_reducible refine gate_callee (f := 42) rfl ?_); refine goesL_ (some 10) rfl rfl Tryz.func42 (by kernel_rfl) rfl #[.string (⟨#[91, 97, 92, 93, 98, 93, 99]⟩ : ByteArray)] rfl (by (try simp only [List.map_toArray, List.map_cons, List.map_nil]); first | done | rfl | (simp only [List.length_drop, List.length_take]; rfl)) ?_; (with_reducible refine (link_Label.calls (⟨#[91, 97, 92, 93, 98, 93, 99]⟩ : ByteArray) t101 t102 _ ?side1 A1.out).mono ?_); (case side1 => (first | (with_reducible first | exact HG.out | exact GW.drewN HG.out _ | exact GW.drewN (GW.drewN HG.out _) _) | exact GW.below HG.out (by repeat (first | (with_reducible first | exact HB.out | apply below_alloc | apply pw_below_drewN | apply below_drew1) | exact HB.out)))); rintro e w12 ⟨rfl, hb⟩; refine ⟨_, rfl, ?_⟩; have n0_ := Aside0.mk (below_step (by repeat (first | (with_reducible first | exact HB.out | apply below_alloc | apply pw_below_drewN | apply below_drew1) | exact HB.out)) hb); clear HB; have HB := n0_; clear n0_; (try clear hb); (try clear hb2); (try clear hk); (try clear hi)) | ((with_reducible refine gate_callee (f := 43) rfl ?_); refine goesL_ (some 14) rfl rfl Tryz.func43 (by kernel_rfl) rfl #[.string (⟨#[97, 40, 98, 41, 99, 41, 100]⟩ : ByteArray)] rfl (by (try simp only [List.map_toArray, List.map_cons, List.map_nil]); first | done | rfl | (simp only [List.length_drop, List.length_take]; rfl)) ?_; (with_reducible refine (link_Dest.calls (⟨#[97, 40, 98, 41, 99, 41, 100]⟩ : ByteArray) t103 t104 _ ?side1 A2.out).mono ?_); (case side1 => (first | (with_reducible first | exact HG.out | exact GW.drewN HG.out _ | exact GW.drewN (GW.drewN HG.out _) _) | exact GW.below HG.out (by repeat (first | (with_reducible first | exact HB.out | apply below_alloc | apply pw_below_drewN | apply below_drew1) | exact HB.out)))); rintro e w13 ⟨rfl, hb⟩; refine ⟨_, rfl, ?_⟩; have n0_ := Aside0.mk (below_step (by repeat (first | (with_reducible first | exact HB.out | apply below_alloc | apply pw_below_drewN | apply below_drew1) | exact HB.out)) hb); clear HB; have HB := n0_; clear n0_; (try clear hb); (try clear hb2); (try clear hk); (try clear hi)) | ((with_reducible refine gate_callee (f := 44) rfl ?_); refine goesL_ (some 18) rfl rfl Tryz.func44 (by kernel_rfl) rfl #[.string (⟨#[34, 97, 92, 34, 98, 34]⟩ : ByteArray)] rfl (by (try simp only [List.map_toArray, List.map_cons, List.map_nil]); first | done | rfl | (simp only [List.length_drop, List.length_take]; rfl)) ?_; (with_reducible refine (link_Title.calls (⟨#[34, 97, 92, 34, 98, 34]⟩ : ByteArray) t105 t106 _ ?side1 A3.out).mono ?_); (case side1 => (first | (with_reducible first | exact HG.out | exact GW.drewN HG.out _ | exact GW.drewN (GW.drewN HG.out _) _) | exact GW.below HG.out (by repeat (first | (with_reducible first | exact HB.out | apply below_alloc | apply pw_below_drewN | apply below_drew1) | exact HB.out)))); rintro e w14 ⟨rfl, hb⟩; refine ⟨_, rfl, ?_⟩; have n0_ := Aside0.mk (below_step (by repeat (first | (with_reducible first | exact HB.out | apply below_alloc | apply pw_below_drewN | apply below_drew1) | exact HB.out)) hb); clear HB; have HB := n0_; clear n0_; (try clear hb); (try clear hb2); (try clear hk); (try clear hi)) | ((with_reducible refine gate_callee (f := 45) rfl ?_); refine goesL_ (some 22) rfl rfl Tryz.func45 (by kernel_rfl) rfl #[.string (⟨#[91, 70, 111, 111, 93, 58, 32, 47, 117, 32, 34, 116, 34, 10]⟩ : ByteArray)] rfl (by (try simp only [List.map_toArray, List.map_cons, List.map_nil]); first | done | rfl | (simp only [List.length_drop, List.length_take]; rfl)) ?_; (with_reducible refine (link_Define.calls (⟨#[91, 70, 111, 111, 93, 58, 32, 47, 117, 32, 34, 116, 34, 10]⟩ : ByteArray) t107 t108 t109 t110 _ ?side1 A4.out).mono ?_); (case side1 => (first | (with_reducible first | exact HG.out | exact GW.drewN HG.out _ | exact GW.drewN (GW.drewN HG.out _) _) | exact GW.below HG.out (by repeat (first | (with_reducible first | exact HB.out | apply below_alloc | apply pw_below_drewN | apply below_drew1) | exact HB.out)))); rintro e w15 ⟨rfl, hb⟩; refine ⟨_, rfl, ?_⟩; have n0_ := Aside0.mk (below_step (by repeat (first | (with_reducible first | exact HB.out | apply below_alloc | apply pw_below_drewN | apply below_drew1) | exact HB.out)) hb); clear HB; have HB := n0_; clear n0_; (try clear hb); (try clear hb2); (try clear hk); (try clear hi)) | ((with_reducible refine gate_dst (N := 7) rfl ?_); refine box_event ?hg (N := 7) ?hd (cs := #[.string (⟨#[]⟩ : ByteArray), .string (⟨#[]⟩ : ByteArray), .string (⟨#[]⟩ : ByteArray)]) (t := 48) ?hr ?_; (case hd => rfl); (case hg => rfl); (case hr => first | (go_simp; done) | (go_simp; rfl)); intro gb111 hg w16 hbox hb; have n0_ := Aside0.mk (below_step (by repeat (first | (with_reducible first | exact HB.out | apply below_alloc | apply pw_below_drewN | apply below_drew1) | exact HB.out)) hb); have n1_ := Aside0.mk (hbox); have n2_ := Aside0.mk ((by rw [hg]; exact (below_size (by repeat (first | (with_reducible first | exact HB.out | apply below_alloc | apply pw_below_drewN | apply below_drew1) | exact HB.out))) : w.heap.size ≤ gb111)); have n3_ := Aside0.mk ((by rw [hg]; exact (below_size (by repeat (first | (with_reducible first | exact HB.out | apply below_alloc | apply pw_below_drewN | apply below_drew1) | exact HB.out))) : w.heap.size ≤ gb111)); clear HB; have HB := n0_; have BK111 := n1_; have GW111 := n2_; have GE111 := n3_; clear n0_ n1_ n2_ n3_; clear hb hbox hg; have hcz17_0 : w16.cell? ⟨gb111, 0, none⟩ = some (.string (⟨#[]⟩ : ByteArray)) := (blk_cell BK111.out 0).trans rfl; have hcz17_1 : w16.cell? ⟨gb111, 1, none⟩ = some (.string (⟨#[]⟩ : ByteArray)) := (blk_cell BK111.out 1).trans rfl; have hcz17_2 : w16.cell? ⟨gb111, 2, none⟩ = some (.string (⟨#[]⟩ : ByteArray)) := (blk_cell BK111.out 2).trans rfl; have hfz17_0 := blk_frozen BK111.out 0; have hfz17_1 := blk_frozen BK111.out 1; have hfz17_2 := blk_frozen BK111.out 2))
                go_ret
                exact ⟨by first | rfl | (simp [errW_none, errW_some] <;> rfl) | (simp [*, errW_none, errW_some] <;> rfl), by repeat (first | (with_reducible first | exact HB.out | apply below_alloc | apply pw_below_drewN | apply below_drew1 | refine below_set ?_ GE111.out) | exact HB.out)⟩
              · rw [if_neg c11] at H
                have c11b0 : (t107.toList == ([102, 111, 111] : List UInt8) && (t108.toList == ([47, 117] : List UInt8) && (t109.toList == ([116] : List UInt8)))) = false := by simpa using c11
                (try (have c11b1 : decide (t107.toList = ([102, 111, 111] : List UInt8) && (t108.toList == ([47, 117] : List UInt8) && (t109.toList == ([116] : List UInt8)))) = false := by simpa using c11))
                (try (have c11b2 : (t107.toList == ([102, 111, 111] : List UInt8) && (t108.toList == ([47, 117] : List UInt8) && (t109.toList == ([116] : List UInt8)))) = false := by simpa using c11))
                (try (have c11b3 : ¬ (t107.toList = ([102, 111, 111] : List UInt8) && (t108.toList == ([47, 117] : List UInt8) && (t109.toList == ([116] : List UInt8)))) := by simpa using c11))
                clear c11
                obtain rfl := Option.some.inj H
                go_enter Tryz.func41, Tryz.ntmps41
                go_wp2_with (first | ((with_reducible refine gate_callee (f := 42) rfl ?_); refine goesL_ (some 10) rfl rfl Tryz.func42 (by kernel_rfl) rfl #[.string (⟨#[91, 97, 92, 93, 98, 93, 99]⟩ : ByteArray)] rfl (by (try simp only [List.map_toArray, List.map_cons, List.map_nil]); first | done | rfl | (simp only [List.length_drop, List.length_take]; rfl)) ?_; (with_reducible refine (link_Label.calls (⟨#[91, 97, 92, 93, 98, 93, 99]⟩ : ByteArray) t101 t102 _ ?side1 A1.out).mono ?_); (case side1 => (first | (with_reducible first | exact HG.out | exact GW.drewN HG.out _ | exact GW.drewN (GW.drewN HG.out _) _) | exact GW.below HG.out (by repeat (first | (with_reducible first | exact HB.out | apply below_alloc | apply pw_below_drewN | apply below_drew1) | exact HB.out)))); rintro e w18 ⟨rfl, hb⟩; refine ⟨_, rfl, ?_⟩; have n0_ := Aside0.mk (below_step (by repeat (first | (with_reducible first | exact HB.out | apply below_alloc | apply pw_below_drewN | apply below_drew1) | exact HB.out)) hb); clear HB; have HB := n0_; clear n0_; (try clear hb); (try clear hb2); (try clear hk); (try clear hi)) | ((with_reducible refine gate_callee (f := 43) rfl ?_); refine goesL_ (some 14) rfl rfl Tryz.func43 (by kernel_rfl) rfl #[.string (⟨#[97, 40, 98, 41, 99, 41, 100]⟩ : ByteArray)] rfl (by (try simp only [List.map_toArray, List.map_cons, List.map_nil]); first | done | rfl | (simp only [List.length_drop, List.length_take]; rfl)) ?_; (with_reducible refine (link_Dest.calls (⟨#[97, 40, 98, 41, 99, 41, 100]⟩ : ByteArray) t103 t104 _ ?side1 A2.out).mono ?_); (case side1 => (first | (with_reducible first | exact HG.out | exact GW.drewN HG.out _ | exact GW.drewN (GW.drewN HG.out _) _) | exact GW.below HG.out (by repeat (first | (with_reducible first | exact HB.out | apply below_alloc | apply pw_below_drewN | apply below_drew1) | exact HB.out)))); rintro e w19 ⟨rfl, hb⟩; refine ⟨_, rfl, ?_⟩; have n0_ := Aside0.mk (below_step (by repeat (first | (with_reducible first | exact HB.out | apply below_alloc | apply pw_below_drewN | apply below_drew1) | exact HB.out)) hb); clear HB; have HB := n0_; clear n0_; (try clear hb); (try clear hb2); (try clear hk); (try clear hi)) | ((with_reducible refine gate_callee (f := 44) rfl ?_); refine goesL_ (some 18) rfl rfl Tryz.func44 (by kernel_rfl) rfl #[.string (⟨#[34, 97, 92, 34, 98, 34]⟩ : ByteArray)] rfl (by (try simp only [List.map_toArray, List.map_cons, List.map_nil]); first | done | rfl | (simp only [List.length_drop, List.length_take]; rfl)) ?_; (with_reducible refine (link_Title.calls (⟨#[34, 97, 92, 34, 98, 34]⟩ : ByteArray) t105 t106 _ ?side1 A3.out).mono ?_); (case side1 => (first | (with_reducible first | exact HG.out | exact GW.drewN HG.out _ | exact GW.drewN (GW.drewN HG.out _) _) | exact GW.below HG.out (by repeat (first | (with_reducible first | exact HB.out | apply below_alloc | apply pw_below_drewN | apply below_drew1) | exact HB.out)))); rintro e w20 ⟨rfl, hb⟩; refine ⟨_, rfl, ?_⟩; have n0_ := Aside0.mk (below_step (by repeat (first | (with_reducible first | exact HB.out | apply below_alloc | apply pw_below_drewN | apply below_drew1) | exact HB.out)) hb); clear HB; have HB := n0_; clear n0_; (try clear hb); (try clear hb2); (try clear hk); (try clear hi)) | ((with_reducible refine gate_callee (f := 45) rfl ?_); refine goesL_ (some 22) rfl rfl Tryz.func45 (by kernel_rfl) rfl #[.string (⟨#[91, 70, 111, 111, 93, 58, 32, 47, 117, 32, 34, 116, 34, 10]⟩ : ByteArray)] rfl (by (try simp only [List.map_toArray, List.map_cons, List.map_nil]); first | done | rfl | (simp only [List.length_drop, List.length_take]; rfl)) ?_; (with_reducible refine (link_Define.calls (⟨#[91, 70, 111, 111, 93, 58, 32, 47, 117, 32, 34, 116, 34, 10]⟩ : ByteArray) t107 t108 t109 t110 _ ?side1 A4.out).mono ?_); (case side1 => (first | (with_reducible first | exact HG.out | exact GW.drewN HG.out _ | exact GW.drewN (GW.drewN HG.out _) _) | exact GW.below HG.out (by repeat (first | (with_reducible first | exact HB.out | apply below_alloc | apply pw_below_drewN | apply below_drew1) | exact HB.out)))); rintro e w21 ⟨rfl, hb⟩; refine ⟨_, rfl, ?_⟩; have n0_ := Aside0.mk (below_step (by repeat (first | (with_reducible first | exact HB.out | apply below_alloc | apply pw_below_drewN | apply below_drew1) | exact HB.out)) hb); clear HB; have HB := n0_; clear n0_; (try clear hb); (try clear hb2); (try clear hk); (try clear hi)) | ((with_reducible refine gate_dst (N := 7) rfl ?_); refine box_event ?hg (N := 7) ?hd (cs := #[.string (⟨#[]⟩ : ByteArray), .string (⟨#[]⟩ : ByteArray), .string (⟨#[]⟩ : ByteArray)]) (t := 48) ?hr ?_; (case hd => rfl); (case hg => rfl); (case hr => first | (go_simp; done) | (go_simp; rfl)); intro gb111 hg w22 hbox hb; have n0_ := Aside0.mk (below_step (by repeat (first | (with_reducible first | exact HB.out | apply below_alloc | apply pw_below_drewN | apply below_drew1) | exact HB.out)) hb); have n1_ := Aside0.mk (hbox); have n2_ := Aside0.mk ((by rw [hg]; exact (below_size (by repeat (first | (with_reducible first | exact HB.out | apply below_alloc | apply pw_below_drewN | apply below_drew1) | exact HB.out))) : w.heap.size ≤ gb111)); have n3_ := Aside0.mk ((by rw [hg]; exact (below_size (by repeat (first | (with_reducible first | exact HB.out | apply below_alloc | apply pw_below_drewN | apply below_drew1) | exact HB.out))) : w.heap.size ≤ gb111)); clear HB; have HB := n0_; have BK111 := n1_; have GW111 := n2_; have GE111 := n3_; clear n0_ n1_ n2_ n3_; clear hb hbox hg; have hcz23_0 : w22.cell? ⟨gb111, 0, none⟩ = some (.string (⟨#[]⟩ : ByteArray)) := (blk_cell BK111.out 0).trans rfl; have hcz23_1 : w22.cell? ⟨gb111, 1, none⟩ = some (.string (⟨#[]⟩ : ByteArray)) := (blk_cell BK111.out 1).trans rfl; have hcz23_2 : w22.cell? ⟨gb111, 2, none⟩ = some (.string (⟨#[]⟩ : ByteArray)) := (blk_cell BK111.out 2).trans rfl; have hfz23_0 := blk_frozen BK111.out 0; have hfz23_1 := blk_frozen BK111.out 1; have hfz23_2 := blk_frozen BK111.out 2))
                go_ret
                exact ⟨by first | rfl | (simp [errW_none, errW_some] <;> rfl) | (simp [*, errW_none, errW_some] <;> rfl), by repeat (first | (with_reducible first | exact HB.out | apply below_alloc | apply pw_below_drewN | apply below_drew1 | refine below_set ?_ GE111.out) | exact HB.out)⟩
            · rw [if_neg c10] at H
              have c10b0 : (t106 == 6) = false := beq_eq_false_iff_ne.mpr c10
              have c10b1 : (t106 != 6) = true := bne_iff_ne.mpr c10
              obtain rfl := Option.some.inj H
              go_enter Tryz.func41, Tryz.ntmps41
              go_wp2_with (first | ((with_reducible refine gate_callee (f := 42) rfl ?_); refine goesL_ (some 10) rfl rfl Tryz.func42 (by kernel_rfl) rfl #[.string (⟨#[91, 97, 92, 93, 98, 93, 99]⟩ : ByteArray)] rfl (by (try simp only [List.map_toArray, List.map_cons, List.map_nil]); first | done | rfl | (simp only [List.length_drop, List.length_take]; rfl)) ?_; (with_reducible refine (link_Label.calls (⟨#[91, 97, 92, 93, 98, 93, 99]⟩ : ByteArray) t101 t102 _ ?side1 A1.out).mono ?_); (case side1 => (first | (with_reducible first | exact HG.out | exact GW.drewN HG.out _ | exact GW.drewN (GW.drewN HG.out _) _) | exact GW.below HG.out (by repeat (first | (with_reducible first | exact HB.out | apply below_alloc | apply pw_below_drewN | apply below_drew1) | exact HB.out)))); rintro e w24 ⟨rfl, hb⟩; refine ⟨_, rfl, ?_⟩; have n0_ := Aside0.mk (below_step (by repeat (first | (with_reducible first | exact HB.out | apply below_alloc | apply pw_below_drewN | apply below_drew1) | exact HB.out)) hb); clear HB; have HB := n0_; clear n0_; (try clear hb); (try clear hb2); (try clear hk); (try clear hi)) | ((with_reducible refine gate_callee (f := 43) rfl ?_); refine goesL_ (some 14) rfl rfl Tryz.func43 (by kernel_rfl) rfl #[.string (⟨#[97, 40, 98, 41, 99, 41, 100]⟩ : ByteArray)] rfl (by (try simp only [List.map_toArray, List.map_cons, List.map_nil]); first | done | rfl | (simp only [List.length_drop, List.length_take]; rfl)) ?_; (with_reducible refine (link_Dest.calls (⟨#[97, 40, 98, 41, 99, 41, 100]⟩ : ByteArray) t103 t104 _ ?side1 A2.out).mono ?_); (case side1 => (first | (with_reducible first | exact HG.out | exact GW.drewN HG.out _ | exact GW.drewN (GW.drewN HG.out _) _) | exact GW.below HG.out (by repeat (first | (with_reducible first | exact HB.out | apply below_alloc | apply pw_below_drewN | apply below_drew1) | exact HB.out)))); rintro e w25 ⟨rfl, hb⟩; refine ⟨_, rfl, ?_⟩; have n0_ := Aside0.mk (below_step (by repeat (first | (with_reducible first | exact HB.out | apply below_alloc | apply pw_below_drewN | apply below_drew1) | exact HB.out)) hb); clear HB; have HB := n0_; clear n0_; (try clear hb); (try clear hb2); (try clear hk); (try clear hi)) | ((with_reducible refine gate_callee (f := 44) rfl ?_); refine goesL_ (some 18) rfl rfl Tryz.func44 (by kernel_rfl) rfl #[.string (⟨#[34, 97, 92, 34, 98, 34]⟩ : ByteArray)] rfl (by (try simp only [List.map_toArray, List.map_cons, List.map_nil]); first | done | rfl | (simp only [List.length_drop, List.length_take]; rfl)) ?_; (with_reducible refine (link_Title.calls (⟨#[34, 97, 92, 34, 98, 34]⟩ : ByteArray) t105 t106 _ ?side1 A3.out).mono ?_); (case side1 => (first | (with_reducible first | exact HG.out | exact GW.drewN HG.out _ | exact GW.drewN (GW.drewN HG.out _) _) | exact GW.below HG.out (by repeat (first | (with_reducible first | exact HB.out | apply below_alloc | apply pw_below_drewN | apply below_drew1) | exact HB.out)))); rintro e w26 ⟨rfl, hb⟩; refine ⟨_, rfl, ?_⟩; have n0_ := Aside0.mk (below_step (by repeat (first | (with_reducible first | exact HB.out | apply below_alloc | apply pw_below_drewN | apply below_drew1) | exact HB.out)) hb); clear HB; have HB := n0_; clear n0_; (try clear hb); (try clear hb2); (try clear hk); (try clear hi)) | ((with_reducible refine gate_callee (f := 45) rfl ?_); refine goesL_ (some 22) rfl rfl Tryz.func45 (by kernel_rfl) rfl #[.string (⟨#[91, 70, 111, 111, 93, 58, 32, 47, 117, 32, 34, 116, 34, 10]⟩ : ByteArray)] rfl (by (try simp only [List.map_toArray, List.map_cons, List.map_nil]); first | done | rfl | (simp only [List.length_drop, List.length_take]; rfl)) ?_; (with_reducible refine (link_Define.calls (⟨#[91, 70, 111, 111, 93, 58, 32, 47, 117, 32, 34, 116, 34, 10]⟩ : ByteArray) t107 t108 t109 t110 _ ?side1 A4.out).mono ?_); (case side1 => (first | (with_reducible first | exact HG.out | exact GW.drewN HG.out _ | exact GW.drewN (GW.drewN HG.out _) _) | exact GW.below HG.out (by repeat (first | (with_reducible first | exact HB.out | apply below_alloc | apply pw_below_drewN | apply below_drew1) | exact HB.out)))); rintro e w27 ⟨rfl, hb⟩; refine ⟨_, rfl, ?_⟩; have n0_ := Aside0.mk (below_step (by repeat (first | (with_reducible first | exact HB.out | apply below_alloc | apply pw_below_drewN | apply below_drew1) | exact HB.out)) hb); clear HB; have HB := n0_; clear n0_; (try clear hb); (try clear hb2); (try clear hk); (try clear hi)) | ((with_reducible refine gate_dst (N := 7) rfl ?_); refine box_event ?hg (N := 7) ?hd (cs := #[.string (⟨#[]⟩ : ByteArray), .string (⟨#[]⟩ : ByteArray), .string (⟨#[]⟩ : ByteArray)]) (t := 48) ?hr ?_; (case hd => rfl); (case hg => rfl); (case hr => first | (go_simp; done) | (go_simp; rfl)); intro gb111 hg w28 hbox hb; have n0_ := Aside0.mk (below_step (by repeat (first | (with_reducible first | exact HB.out | apply below_alloc | apply pw_below_drewN | apply below_drew1) | exact HB.out)) hb); have n1_ := Aside0.mk (hbox); have n2_ := Aside0.mk ((by rw [hg]; exact (below_size (by repeat (first | (with_reducible first | exact HB.out | apply below_alloc | apply pw_below_drewN | apply below_drew1) | exact HB.out))) : w.heap.size ≤ gb111)); have n3_ := Aside0.mk ((by rw [hg]; exact (below_size (by repeat (first | (with_reducible first | exact HB.out | apply below_alloc | apply pw_below_drewN | apply below_drew1) | exact HB.out))) : w.heap.size ≤ gb111)); clear HB; have HB := n0_; have BK111 := n1_; have GW111 := n2_; have GE111 := n3_; clear n0_ n1_ n2_ n3_; clear hb hbox hg; have hcz29_0 : w28.cell? ⟨gb111, 0, none⟩ = some (.string (⟨#[]⟩ : ByteArray)) := (blk_cell BK111.out 0).trans rfl; have hcz29_1 : w28.cell? ⟨gb111, 1, none⟩ = some (.string (⟨#[]⟩ : ByteArray)) := (blk_cell BK111.out 1).trans rfl; have hcz29_2 : w28.cell? ⟨gb111, 2, none⟩ = some (.string (⟨#[]⟩ : ByteArray)) := (blk_cell BK111.out 2).trans rfl; have hfz29_0 := blk_frozen BK111.out 0; have hfz29_1 := blk_frozen BK111.out 1; have hfz29_2 := blk_frozen BK111.out 2))
              go_ret
              exact ⟨by first | rfl | (simp [errW_none, errW_some] <;> rfl) | (simp [*, errW_none, errW_some] <;> rfl), by repeat (first | (with_reducible first | exact HB.out | apply below_alloc | apply pw_below_drewN | apply below_drew1 | refine below_set ?_ GE111.out) | exact HB.out)⟩
          · rw [if_neg c9] at H
            have c9b0 : (t105.toList == ([97, 34, 98] : List UInt8)) = false := beq_eq_false_iff_ne.mpr c9
            have c9b1 : (t105.toList != ([97, 34, 98] : List UInt8)) = true := bne_iff_ne.mpr c9
            obtain rfl := Option.some.inj H
            go_enter Tryz.func41, Tryz.ntmps41
            go_wp2_with (first | ((with_reducible refine gate_callee (f := 42) rfl ?_); refine goesL_ (some 10) rfl rfl Tryz.func42 (by kernel_rfl) rfl #[.string (⟨#[91, 97, 92, 93, 98, 93, 99]⟩ : ByteArray)] rfl (by (try simp only [List.map_toArray, List.map_cons, List.map_nil]); first | done | rfl | (simp only [List.length_drop, List.length_take]; rfl)) ?_; (with_reducible refine (link_Label.calls (⟨#[91, 97, 92, 93, 98, 93, 99]⟩ : ByteArray) t101 t102 _ ?side1 A1.out).mono ?_); (case side1 => (first | (with_reducible first | exact HG.out | exact GW.drewN HG.out _ | exact GW.drewN (GW.drewN HG.out _) _) | exact GW.below HG.out (by repeat (first | (with_reducible first | exact HB.out | apply below_alloc | apply pw_below_drewN | apply below_drew1) | exact HB.out)))); rintro e w30 ⟨rfl, hb⟩; refine ⟨_, rfl, ?_⟩; have n0_ := Aside0.mk (below_step (by repeat (first | (with_reducible first | exact HB.out | apply below_alloc | apply pw_below_drewN | apply below_drew1) | exact HB.out)) hb); clear HB; have HB := n0_; clear n0_; (try clear hb); (try clear hb2); (try clear hk); (try clear hi)) | ((with_reducible refine gate_callee (f := 43) rfl ?_); refine goesL_ (some 14) rfl rfl Tryz.func43 (by kernel_rfl) rfl #[.string (⟨#[97, 40, 98, 41, 99, 41, 100]⟩ : ByteArray)] rfl (by (try simp only [List.map_toArray, List.map_cons, List.map_nil]); first | done | rfl | (simp only [List.length_drop, List.length_take]; rfl)) ?_; (with_reducible refine (link_Dest.calls (⟨#[97, 40, 98, 41, 99, 41, 100]⟩ : ByteArray) t103 t104 _ ?side1 A2.out).mono ?_); (case side1 => (first | (with_reducible first | exact HG.out | exact GW.drewN HG.out _ | exact GW.drewN (GW.drewN HG.out _) _) | exact GW.below HG.out (by repeat (first | (with_reducible first | exact HB.out | apply below_alloc | apply pw_below_drewN | apply below_drew1) | exact HB.out)))); rintro e w31 ⟨rfl, hb⟩; refine ⟨_, rfl, ?_⟩; have n0_ := Aside0.mk (below_step (by repeat (first | (with_reducible first | exact HB.out | apply below_alloc | apply pw_below_drewN | apply below_drew1) | exact HB.out)) hb); clear HB; have HB := n0_; clear n0_; (try clear hb); (try clear hb2); (try clear hk); (try clear hi)) | ((with_reducible refine gate_callee (f := 44) rfl ?_); refine goesL_ (some 18) rfl rfl Tryz.func44 (by kernel_rfl) rfl #[.string (⟨#[34, 97, 92, 34, 98, 34]⟩ : ByteArray)] rfl (by (try simp only [List.map_toArray, List.map_cons, List.map_nil]); first | done | rfl | (simp only [List.length_drop, List.length_take]; rfl)) ?_; (with_reducible refine (link_Title.calls (⟨#[34, 97, 92, 34, 98, 34]⟩ : ByteArray) t105 t106 _ ?side1 A3.out).mono ?_); (case side1 => (first | (with_reducible first | exact HG.out | exact GW.drewN HG.out _ | exact GW.drewN (GW.drewN HG.out _) _) | exact GW.below HG.out (by repeat (first | (with_reducible first | exact HB.out | apply below_alloc | apply pw_below_drewN | apply below_drew1) | exact HB.out)))); rintro e w32 ⟨rfl, hb⟩; refine ⟨_, rfl, ?_⟩; have n0_ := Aside0.mk (below_step (by repeat (first | (with_reducible first | exact HB.out | apply below_alloc | apply pw_below_drewN | apply below_drew1) | exact HB.out)) hb); clear HB; have HB := n0_; clear n0_; (try clear hb); (try clear hb2); (try clear hk); (try clear hi)) | ((with_reducible refine gate_callee (f := 45) rfl ?_); refine goesL_ (some 22) rfl rfl Tryz.func45 (by kernel_rfl) rfl #[.string (⟨#[91, 70, 111, 111, 93, 58, 32, 47, 117, 32, 34, 116, 34, 10]⟩ : ByteArray)] rfl (by (try simp only [List.map_toArray, List.map_cons, List.map_nil]); first | done | rfl | (simp only [List.length_drop, List.length_take]; rfl)) ?_; (with_reducible refine (link_Define.calls (⟨#[91, 70, 111, 111, 93, 58, 32, 47, 117, 32, 34, 116, 34, 10]⟩ : ByteArray) t107 t108 t109 t110 _ ?side1 A4.out).mono ?_); (case side1 => (first | (with_reducible first | exact HG.out | exact GW.drewN HG.out _ | exact GW.drewN (GW.drewN HG.out _) _) | exact GW.below HG.out (by repeat (first | (with_reducible first | exact HB.out | apply below_alloc | apply pw_below_drewN | apply below_drew1) | exact HB.out)))); rintro e w33 ⟨rfl, hb⟩; refine ⟨_, rfl, ?_⟩; have n0_ := Aside0.mk (below_step (by repeat (first | (with_reducible first | exact HB.out | apply below_alloc | apply pw_below_drewN | apply below_drew1) | exact HB.out)) hb); clear HB; have HB := n0_; clear n0_; (try clear hb); (try clear hb2); (try clear hk); (try clear hi)) | ((with_reducible refine gate_dst (N := 7) rfl ?_); refine box_event ?hg (N := 7) ?hd (cs := #[.string (⟨#[]⟩ : ByteArray), .string (⟨#[]⟩ : ByteArray), .string (⟨#[]⟩ : ByteArray)]) (t := 48) ?hr ?_; (case hd => rfl); (case hg => rfl); (case hr => first | (go_simp; done) | (go_simp; rfl)); intro gb111 hg w34 hbox hb; have n0_ := Aside0.mk (below_step (by repeat (first | (with_reducible first | exact HB.out | apply below_alloc | apply pw_below_drewN | apply below_drew1) | exact HB.out)) hb); have n1_ := Aside0.mk (hbox); have n2_ := Aside0.mk ((by rw [hg]; exact (below_size (by repeat (first | (with_reducible first | exact HB.out | apply below_alloc | apply pw_below_drewN | apply below_drew1) | exact HB.out))) : w.heap.size ≤ gb111)); have n3_ := Aside0.mk ((by rw [hg]; exact (below_size (by repeat (first | (with_reducible first | exact HB.out | apply below_alloc | apply pw_below_drewN | apply below_drew1) | exact HB.out))) : w.heap.size ≤ gb111)); clear HB; have HB := n0_; have BK111 := n1_; have GW111 := n2_; have GE111 := n3_; clear n0_ n1_ n2_ n3_; clear hb hbox hg; have hcz35_0 : w34.cell? ⟨gb111, 0, none⟩ = some (.string (⟨#[]⟩ : ByteArray)) := (blk_cell BK111.out 0).trans rfl; have hcz35_1 : w34.cell? ⟨gb111, 1, none⟩ = some (.string (⟨#[]⟩ : ByteArray)) := (blk_cell BK111.out 1).trans rfl; have hcz35_2 : w34.cell? ⟨gb111, 2, none⟩ = some (.string (⟨#[]⟩ : ByteArray)) := (blk_cell BK111.out 2).trans rfl; have hfz35_0 := blk_frozen BK111.out 0; have hfz35_1 := blk_frozen BK111.out 1; have hfz35_2 := blk_frozen BK111.out 2))
            go_ret
            exact ⟨by first | rfl | (simp [errW_none, errW_some] <;> rfl) | (simp [*, errW_none, errW_some] <;> rfl), by repeat (first | (with_reducible first | exact HB.out | apply below_alloc | apply pw_below_drewN | apply below_drew1 | refine below_set ?_ GE111.out) | exact HB.out)⟩
        · rw [if_neg c8] at H
          have c8b0 : (t104 == 5) = false := beq_eq_false_iff_ne.mpr c8
          have c8b1 : (t104 != 5) = true := bne_iff_ne.mpr c8
          obtain rfl := Option.some.inj H
          go_enter Tryz.func41, Tryz.ntmps41
          go_wp2_with (first | ((with_reducible refine gate_callee (f := 42) rfl ?_); refine goesL_ (some 10) rfl rfl Tryz.func42 (by kernel_rfl) rfl #[.string (⟨#[91, 97, 92, 93, 98, 93, 99]⟩ : ByteArray)] rfl (by (try simp only [List.map_toArray, List.map_cons, List.map_nil]); first | done | rfl | (simp only [List.length_drop, List.length_take]; rfl)) ?_; (with_reducible refine (link_Label.calls (⟨#[91, 97, 92, 93, 98, 93, 99]⟩ : ByteArray) t101 t102 _ ?side1 A1.out).mono ?_); (case side1 => (first | (with_reducible first | exact HG.out | exact GW.drewN HG.out _ | exact GW.drewN (GW.drewN HG.out _) _) | exact GW.below HG.out (by repeat (first | (with_reducible first | exact HB.out | apply below_alloc | apply pw_below_drewN | apply below_drew1) | exact HB.out)))); rintro e w36 ⟨rfl, hb⟩; refine ⟨_, rfl, ?_⟩; have n0_ := Aside0.mk (below_step (by repeat (first | (with_reducible first | exact HB.out | apply below_alloc | apply pw_below_drewN | apply below_drew1) | exact HB.out)) hb); clear HB; have HB := n0_; clear n0_; (try clear hb); (try clear hb2); (try clear hk); (try clear hi)) | ((with_reducible refine gate_callee (f := 43) rfl ?_); refine goesL_ (some 14) rfl rfl Tryz.func43 (by kernel_rfl) rfl #[.string (⟨#[97, 40, 98, 41, 99, 41, 100]⟩ : ByteArray)] rfl (by (try simp only [List.map_toArray, List.map_cons, List.map_nil]); first | done | rfl | (simp only [List.length_drop, List.length_take]; rfl)) ?_; (with_reducible refine (link_Dest.calls (⟨#[97, 40, 98, 41, 99, 41, 100]⟩ : ByteArray) t103 t104 _ ?side1 A2.out).mono ?_); (case side1 => (first | (with_reducible first | exact HG.out | exact GW.drewN HG.out _ | exact GW.drewN (GW.drewN HG.out _) _) | exact GW.below HG.out (by repeat (first | (with_reducible first | exact HB.out | apply below_alloc | apply pw_below_drewN | apply below_drew1) | exact HB.out)))); rintro e w37 ⟨rfl, hb⟩; refine ⟨_, rfl, ?_⟩; have n0_ := Aside0.mk (below_step (by repeat (first | (with_reducible first | exact HB.out | apply below_alloc | apply pw_below_drewN | apply below_drew1) | exact HB.out)) hb); clear HB; have HB := n0_; clear n0_; (try clear hb); (try clear hb2); (try clear hk); (try clear hi)) | ((with_reducible refine gate_callee (f := 44) rfl ?_); refine goesL_ (some 18) rfl rfl Tryz.func44 (by kernel_rfl) rfl #[.string (⟨#[34, 97, 92, 34, 98, 34]⟩ : ByteArray)] rfl (by (try simp only [List.map_toArray, List.map_cons, List.map_nil]); first | done | rfl | (simp only [List.length_drop, List.length_take]; rfl)) ?_; (with_reducible refine (link_Title.calls (⟨#[34, 97, 92, 34, 98, 34]⟩ : ByteArray) t105 t106 _ ?side1 A3.out).mono ?_); (case side1 => (first | (with_reducible first | exact HG.out | exact GW.drewN HG.out _ | exact GW.drewN (GW.drewN HG.out _) _) | exact GW.below HG.out (by repeat (first | (with_reducible first | exact HB.out | apply below_alloc | apply pw_below_drewN | apply below_drew1) | exact HB.out)))); rintro e w38 ⟨rfl, hb⟩; refine ⟨_, rfl, ?_⟩; have n0_ := Aside0.mk (below_step (by repeat (first | (with_reducible first | exact HB.out | apply below_alloc | apply pw_below_drewN | apply below_drew1) | exact HB.out)) hb); clear HB; have HB := n0_; clear n0_; (try clear hb); (try clear hb2); (try clear hk); (try clear hi)) | ((with_reducible refine gate_callee (f := 45) rfl ?_); refine goesL_ (some 22) rfl rfl Tryz.func45 (by kernel_rfl) rfl #[.string (⟨#[91, 70, 111, 111, 93, 58, 32, 47, 117, 32, 34, 116, 34, 10]⟩ : ByteArray)] rfl (by (try simp only [List.map_toArray, List.map_cons, List.map_nil]); first | done | rfl | (simp only [List.length_drop, List.length_take]; rfl)) ?_; (with_reducible refine (link_Define.calls (⟨#[91, 70, 111, 111, 93, 58, 32, 47, 117, 32, 34, 116, 34, 10]⟩ : ByteArray) t107 t108 t109 t110 _ ?side1 A4.out).mono ?_); (case side1 => (first | (with_reducible first | exact HG.out | exact GW.drewN HG.out _ | exact GW.drewN (GW.drewN HG.out _) _) | exact GW.below HG.out (by repeat (first | (with_reducible first | exact HB.out | apply below_alloc | apply pw_below_drewN | apply below_drew1) | exact HB.out)))); rintro e w39 ⟨rfl, hb⟩; refine ⟨_, rfl, ?_⟩; have n0_ := Aside0.mk (below_step (by repeat (first | (with_reducible first | exact HB.out | apply below_alloc | apply pw_below_drewN | apply below_drew1) | exact HB.out)) hb); clear HB; have HB := n0_; clear n0_; (try clear hb); (try clear hb2); (try clear hk); (try clear hi)) | ((with_reducible refine gate_dst (N := 7) rfl ?_); refine box_event ?hg (N := 7) ?hd (cs := #[.string (⟨#[]⟩ : ByteArray), .string (⟨#[]⟩ : ByteArray), .string (⟨#[]⟩ : ByteArray)]) (t := 48) ?hr ?_; (case hd => rfl); (case hg => rfl); (case hr => first | (go_simp; done) | (go_simp; rfl)); intro gb111 hg w40 hbox hb; have n0_ := Aside0.mk (below_step (by repeat (first | (with_reducible first | exact HB.out | apply below_alloc | apply pw_below_drewN | apply below_drew1) | exact HB.out)) hb); have n1_ := Aside0.mk (hbox); have n2_ := Aside0.mk ((by rw [hg]; exact (below_size (by repeat (first | (with_reducible first | exact HB.out | apply below_alloc | apply pw_below_drewN | apply below_drew1) | exact HB.out))) : w.heap.size ≤ gb111)); have n3_ := Aside0.mk ((by rw [hg]; exact (below_size (by repeat (first | (with_reducible first | exact HB.out | apply below_alloc | apply pw_below_drewN | apply below_drew1) | exact HB.out))) : w.heap.size ≤ gb111)); clear HB; have HB := n0_; have BK111 := n1_; have GW111 := n2_; have GE111 := n3_; clear n0_ n1_ n2_ n3_; clear hb hbox hg; have hcz41_0 : w40.cell? ⟨gb111, 0, none⟩ = some (.string (⟨#[]⟩ : ByteArray)) := (blk_cell BK111.out 0).trans rfl; have hcz41_1 : w40.cell? ⟨gb111, 1, none⟩ = some (.string (⟨#[]⟩ : ByteArray)) := (blk_cell BK111.out 1).trans rfl; have hcz41_2 : w40.cell? ⟨gb111, 2, none⟩ = some (.string (⟨#[]⟩ : ByteArray)) := (blk_cell BK111.out 2).trans rfl; have hfz41_0 := blk_frozen BK111.out 0; have hfz41_1 := blk_frozen BK111.out 1; have hfz41_2 := blk_frozen BK111.out 2))
          go_ret
          exact ⟨by first | rfl | (simp [errW_none, errW_some] <;> rfl) | (simp [*, errW_none, errW_some] <;> rfl), by repeat (first | (with_reducible first | exact HB.out | apply below_alloc | apply pw_below_drewN | apply below_drew1 | refine below_set ?_ GE111.out) | exact HB.out)⟩
      · rw [if_neg c7] at H
        have c7b0 : (t103.toList == ([97, 40, 98, 41, 99] : List UInt8)) = false := beq_eq_false_iff_ne.mpr c7
        have c7b1 : (t103.toList != ([97, 40, 98, 41, 99] : List UInt8)) = true := bne_iff_ne.mpr c7
        obtain rfl := Option.some.inj H
        go_enter Tryz.func41, Tryz.ntmps41
        go_wp2_with (first | ((with_reducible refine gate_callee (f := 42) rfl ?_); refine goesL_ (some 10) rfl rfl Tryz.func42 (by kernel_rfl) rfl #[.string (⟨#[91, 97, 92, 93, 98, 93, 99]⟩ : ByteArray)] rfl (by (try simp only [List.map_toArray, List.map_cons, List.map_nil]); first | done | rfl | (simp only [List.length_drop, List.length_take]; rfl)) ?_; (with_reducible refine (link_Label.calls (⟨#[91, 97, 92, 93, 98, 93, 99]⟩ : ByteArray) t101 t102 _ ?side1 A1.out).mono ?_); (case side1 => (first | (with_reducible first | exact HG.out | exact GW.drewN HG.out _ | exact GW.drewN (GW.drewN HG.out _) _) | exact GW.below HG.out (by repeat (first | (with_reducible first | exact HB.out | apply below_alloc | apply pw_below_drewN | apply below_drew1) | exact HB.out)))); rintro e w42 ⟨rfl, hb⟩; refine ⟨_, rfl, ?_⟩; have n0_ := Aside0.mk (below_step (by repeat (first | (with_reducible first | exact HB.out | apply below_alloc | apply pw_below_drewN | apply below_drew1) | exact HB.out)) hb); clear HB; have HB := n0_; clear n0_; (try clear hb); (try clear hb2); (try clear hk); (try clear hi)) | ((with_reducible refine gate_callee (f := 43) rfl ?_); refine goesL_ (some 14) rfl rfl Tryz.func43 (by kernel_rfl) rfl #[.string (⟨#[97, 40, 98, 41, 99, 41, 100]⟩ : ByteArray)] rfl (by (try simp only [List.map_toArray, List.map_cons, List.map_nil]); first | done | rfl | (simp only [List.length_drop, List.length_take]; rfl)) ?_; (with_reducible refine (link_Dest.calls (⟨#[97, 40, 98, 41, 99, 41, 100]⟩ : ByteArray) t103 t104 _ ?side1 A2.out).mono ?_); (case side1 => (first | (with_reducible first | exact HG.out | exact GW.drewN HG.out _ | exact GW.drewN (GW.drewN HG.out _) _) | exact GW.below HG.out (by repeat (first | (with_reducible first | exact HB.out | apply below_alloc | apply pw_below_drewN | apply below_drew1) | exact HB.out)))); rintro e w43 ⟨rfl, hb⟩; refine ⟨_, rfl, ?_⟩; have n0_ := Aside0.mk (below_step (by repeat (first | (with_reducible first | exact HB.out | apply below_alloc | apply pw_below_drewN | apply below_drew1) | exact HB.out)) hb); clear HB; have HB := n0_; clear n0_; (try clear hb); (try clear hb2); (try clear hk); (try clear hi)) | ((with_reducible refine gate_callee (f := 44) rfl ?_); refine goesL_ (some 18) rfl rfl Tryz.func44 (by kernel_rfl) rfl #[.string (⟨#[34, 97, 92, 34, 98, 34]⟩ : ByteArray)] rfl (by (try simp only [List.map_toArray, List.map_cons, List.map_nil]); first | done | rfl | (simp only [List.length_drop, List.length_take]; rfl)) ?_; (with_reducible refine (link_Title.calls (⟨#[34, 97, 92, 34, 98, 34]⟩ : ByteArray) t105 t106 _ ?side1 A3.out).mono ?_); (case side1 => (first | (with_reducible first | exact HG.out | exact GW.drewN HG.out _ | exact GW.drewN (GW.drewN HG.out _) _) | exact GW.below HG.out (by repeat (first | (with_reducible first | exact HB.out | apply below_alloc | apply pw_below_drewN | apply below_drew1) | exact HB.out)))); rintro e w44 ⟨rfl, hb⟩; refine ⟨_, rfl, ?_⟩; have n0_ := Aside0.mk (below_step (by repeat (first | (with_reducible first | exact HB.out | apply below_alloc | apply pw_below_drewN | apply below_drew1) | exact HB.out)) hb); clear HB; have HB := n0_; clear n0_; (try clear hb); (try clear hb2); (try clear hk); (try clear hi)) | ((with_reducible refine gate_callee (f := 45) rfl ?_); refine goesL_ (some 22) rfl rfl Tryz.func45 (by kernel_rfl) rfl #[.string (⟨#[91, 70, 111, 111, 93, 58, 32, 47, 117, 32, 34, 116, 34, 10]⟩ : ByteArray)] rfl (by (try simp only [List.map_toArray, List.map_cons, List.map_nil]); first | done | rfl | (simp only [List.length_drop, List.length_take]; rfl)) ?_; (with_reducible refine (link_Define.calls (⟨#[91, 70, 111, 111, 93, 58, 32, 47, 117, 32, 34, 116, 34, 10]⟩ : ByteArray) t107 t108 t109 t110 _ ?side1 A4.out).mono ?_); (case side1 => (first | (with_reducible first | exact HG.out | exact GW.drewN HG.out _ | exact GW.drewN (GW.drewN HG.out _) _) | exact GW.below HG.out (by repeat (first | (with_reducible first | exact HB.out | apply below_alloc | apply pw_below_drewN | apply below_drew1) | exact HB.out)))); rintro e w45 ⟨rfl, hb⟩; refine ⟨_, rfl, ?_⟩; have n0_ := Aside0.mk (below_step (by repeat (first | (with_reducible first | exact HB.out | apply below_alloc | apply pw_below_drewN | apply below_drew1) | exact HB.out)) hb); clear HB; have HB := n0_; clear n0_; (try clear hb); (try clear hb2); (try clear hk); (try clear hi)) | ((with_reducible refine gate_dst (N := 7) rfl ?_); refine box_event ?hg (N := 7) ?hd (cs := #[.string (⟨#[]⟩ : ByteArray), .string (⟨#[]⟩ : ByteArray), .string (⟨#[]⟩ : ByteArray)]) (t := 48) ?hr ?_; (case hd => rfl); (case hg => rfl); (case hr => first | (go_simp; done) | (go_simp; rfl)); intro gb111 hg w46 hbox hb; have n0_ := Aside0.mk (below_step (by repeat (first | (with_reducible first | exact HB.out | apply below_alloc | apply pw_below_drewN | apply below_drew1) | exact HB.out)) hb); have n1_ := Aside0.mk (hbox); have n2_ := Aside0.mk ((by rw [hg]; exact (below_size (by repeat (first | (with_reducible first | exact HB.out | apply below_alloc | apply pw_below_drewN | apply below_drew1) | exact HB.out))) : w.heap.size ≤ gb111)); have n3_ := Aside0.mk ((by rw [hg]; exact (below_size (by repeat (first | (with_reducible first | exact HB.out | apply below_alloc | apply pw_below_drewN | apply below_drew1) | exact HB.out))) : w.heap.size ≤ gb111)); clear HB; have HB := n0_; have BK111 := n1_; have GW111 := n2_; have GE111 := n3_; clear n0_ n1_ n2_ n3_; clear hb hbox hg; have hcz47_0 : w46.cell? ⟨gb111, 0, none⟩ = some (.string (⟨#[]⟩ : ByteArray)) := (blk_cell BK111.out 0).trans rfl; have hcz47_1 : w46.cell? ⟨gb111, 1, none⟩ = some (.string (⟨#[]⟩ : ByteArray)) := (blk_cell BK111.out 1).trans rfl; have hcz47_2 : w46.cell? ⟨gb111, 2, none⟩ = some (.string (⟨#[]⟩ : ByteArray)) := (blk_cell BK111.out 2).trans rfl; have hfz47_0 := blk_frozen BK111.out 0; have hfz47_1 := blk_frozen BK111.out 1; have hfz47_2 := blk_frozen BK111.out 2))
        go_ret
        exact ⟨by first | rfl | (simp [errW_none, errW_some] <;> rfl) | (simp [*, errW_none, errW_some] <;> rfl), by repeat (first | (with_reducible first | exact HB.out | apply below_alloc | apply pw_below_drewN | apply below_drew1 | refine below_set ?_ GE111.out) | exact HB.out)⟩
    · rw [if_neg c6] at H
      have c6b0 : (t102 == 6) = false := beq_eq_false_iff_ne.mpr c6
      have c6b1 : (t102 != 6) = true := bne_iff_ne.mpr c6
      obtain rfl := Option.some.inj H
      go_enter Tryz.func41, Tryz.ntmps41
      go_wp2_with (first | ((with_reducible refine gate_callee (f := 42) rfl ?_); refine goesL_ (some 10) rfl rfl Tryz.func42 (by kernel_rfl) rfl #[.string (⟨#[91, 97, 92, 93, 98, 93, 99]⟩ : ByteArray)] rfl (by (try simp only [List.map_toArray, List.map_cons, List.map_nil]); first | done | rfl | (simp only [List.length_drop, List.length_take]; rfl)) ?_; (with_reducible refine (link_Label.calls (⟨#[91, 97, 92, 93, 98, 93, 99]⟩ : ByteArray) t101 t102 _ ?side1 A1.out).mono ?_); (case side1 => (first | (with_reducible first | exact HG.out | exact GW.drewN HG.out _ | exact GW.drewN (GW.drewN HG.out _) _) | exact GW.below HG.out (by repeat (first | (with_reducible first | exact HB.out | apply below_alloc | apply pw_below_drewN | apply below_drew1) | exact HB.out)))); rintro e w48 ⟨rfl, hb⟩; refine ⟨_, rfl, ?_⟩; have n0_ := Aside0.mk (below_step (by repeat (first | (with_reducible first | exact HB.out | apply below_alloc | apply pw_below_drewN | apply below_drew1) | exact HB.out)) hb); clear HB; have HB := n0_; clear n0_; (try clear hb); (try clear hb2); (try clear hk); (try clear hi)) | ((with_reducible refine gate_callee (f := 43) rfl ?_); refine goesL_ (some 14) rfl rfl Tryz.func43 (by kernel_rfl) rfl #[.string (⟨#[97, 40, 98, 41, 99, 41, 100]⟩ : ByteArray)] rfl (by (try simp only [List.map_toArray, List.map_cons, List.map_nil]); first | done | rfl | (simp only [List.length_drop, List.length_take]; rfl)) ?_; (with_reducible refine (link_Dest.calls (⟨#[97, 40, 98, 41, 99, 41, 100]⟩ : ByteArray) t103 t104 _ ?side1 A2.out).mono ?_); (case side1 => (first | (with_reducible first | exact HG.out | exact GW.drewN HG.out _ | exact GW.drewN (GW.drewN HG.out _) _) | exact GW.below HG.out (by repeat (first | (with_reducible first | exact HB.out | apply below_alloc | apply pw_below_drewN | apply below_drew1) | exact HB.out)))); rintro e w49 ⟨rfl, hb⟩; refine ⟨_, rfl, ?_⟩; have n0_ := Aside0.mk (below_step (by repeat (first | (with_reducible first | exact HB.out | apply below_alloc | apply pw_below_drewN | apply below_drew1) | exact HB.out)) hb); clear HB; have HB := n0_; clear n0_; (try clear hb); (try clear hb2); (try clear hk); (try clear hi)) | ((with_reducible refine gate_callee (f := 44) rfl ?_); refine goesL_ (some 18) rfl rfl Tryz.func44 (by kernel_rfl) rfl #[.string (⟨#[34, 97, 92, 34, 98, 34]⟩ : ByteArray)] rfl (by (try simp only [List.map_toArray, List.map_cons, List.map_nil]); first | done | rfl | (simp only [List.length_drop, List.length_take]; rfl)) ?_; (with_reducible refine (link_Title.calls (⟨#[34, 97, 92, 34, 98, 34]⟩ : ByteArray) t105 t106 _ ?side1 A3.out).mono ?_); (case side1 => (first | (with_reducible first | exact HG.out | exact GW.drewN HG.out _ | exact GW.drewN (GW.drewN HG.out _) _) | exact GW.below HG.out (by repeat (first | (with_reducible first | exact HB.out | apply below_alloc | apply pw_below_drewN | apply below_drew1) | exact HB.out)))); rintro e w50 ⟨rfl, hb⟩; refine ⟨_, rfl, ?_⟩; have n0_ := Aside0.mk (below_step (by repeat (first | (with_reducible first | exact HB.out | apply below_alloc | apply pw_below_drewN | apply below_drew1) | exact HB.out)) hb); clear HB; have HB := n0_; clear n0_; (try clear hb); (try clear hb2); (try clear hk); (try clear hi)) | ((with_reducible refine gate_callee (f := 45) rfl ?_); refine goesL_ (some 22) rfl rfl Tryz.func45 (by kernel_rfl) rfl #[.string (⟨#[91, 70, 111, 111, 93, 58, 32, 47, 117, 32, 34, 116, 34, 10]⟩ : ByteArray)] rfl (by (try simp only [List.map_toArray, List.map_cons, List.map_nil]); first | done | rfl | (simp only [List.length_drop, List.length_take]; rfl)) ?_; (with_reducible refine (link_Define.calls (⟨#[91, 70, 111, 111, 93, 58, 32, 47, 117, 32, 34, 116, 34, 10]⟩ : ByteArray) t107 t108 t109 t110 _ ?side1 A4.out).mono ?_); (case side1 => (first | (with_reducible first | exact HG.out | exact GW.drewN HG.out _ | exact GW.drewN (GW.drewN HG.out _) _) | exact GW.below HG.out (by repeat (first | (with_reducible first | exact HB.out | apply below_alloc | apply pw_below_drewN | apply below_drew1) | exact HB.out)))); rintro e w51 ⟨rfl, hb⟩; refine ⟨_, rfl, ?_⟩; have n0_ := Aside0.mk (below_step (by repeat (first | (with_reducible first | exact HB.out | apply below_alloc | apply pw_below_drewN | apply below_drew1) | exact HB.out)) hb); clear HB; have HB := n0_; clear n0_; (try clear hb); (try clear hb2); (try clear hk); (try clear hi)) | ((with_reducible refine gate_dst (N := 7) rfl ?_); refine box_event ?hg (N := 7) ?hd (cs := #[.string (⟨#[]⟩ : ByteArray), .string (⟨#[]⟩ : ByteArray), .string (⟨#[]⟩ : ByteArray)]) (t := 48) ?hr ?_; (case hd => rfl); (case hg => rfl); (case hr => first | (go_simp; done) | (go_simp; rfl)); intro gb111 hg w52 hbox hb; have n0_ := Aside0.mk (below_step (by repeat (first | (with_reducible first | exact HB.out | apply below_alloc | apply pw_below_drewN | apply below_drew1) | exact HB.out)) hb); have n1_ := Aside0.mk (hbox); have n2_ := Aside0.mk ((by rw [hg]; exact (below_size (by repeat (first | (with_reducible first | exact HB.out | apply below_alloc | apply pw_below_drewN | apply below_drew1) | exact HB.out))) : w.heap.size ≤ gb111)); have n3_ := Aside0.mk ((by rw [hg]; exact (below_size (by repeat (first | (with_reducible first | exact HB.out | apply below_alloc | apply pw_below_drewN | apply below_drew1) | exact HB.out))) : w.heap.size ≤ gb111)); clear HB; have HB := n0_; have BK111 := n1_; have GW111 := n2_; have GE111 := n3_; clear n0_ n1_ n2_ n3_; clear hb hbox hg; have hcz53_0 : w52.cell? ⟨gb111, 0, none⟩ = some (.string (⟨#[]⟩ : ByteArray)) := (blk_cell BK111.out 0).trans rfl; have hcz53_1 : w52.cell? ⟨gb111, 1, none⟩ = some (.string (⟨#[]⟩ : ByteArray)) := (blk_cell BK111.out 1).trans rfl; have hcz53_2 : w52.cell? ⟨gb111, 2, none⟩ = some (.string (⟨#[]⟩ : ByteArray)) := (blk_cell BK111.out 2).trans rfl; have hfz53_0 := blk_frozen BK111.out 0; have hfz53_1 := blk_frozen BK111.out 1; have hfz53_2 := blk_frozen BK111.out 2))
      go_ret
      exact ⟨by first | rfl | (simp [errW_none, errW_some] <;> rfl) | (simp [*, errW_none, errW_some] <;> rfl), by repeat (first | (with_reducible first | exact HB.out | apply below_alloc | apply pw_below_drewN | apply below_drew1 | refine below_set ?_ GE111.out) | exact HB.out)⟩
  · rw [if_neg c5] at H
    have c5b0 : (t101.toList == ([97, 92, 93, 98] : List UInt8)) = false := beq_eq_false_iff_ne.mpr c5
    have c5b1 : (t101.toList != ([97, 92, 93, 98] : List UInt8)) = true := bne_iff_ne.mpr c5
    obtain rfl := Option.some.inj H
    go_enter Tryz.func41, Tryz.ntmps41
    go_wp2_with (first | ((with_reducible refine gate_callee (f := 42) rfl ?_); refine goesL_ (some 10) rfl rfl Tryz.func42 (by kernel_rfl) rfl #[.string (⟨#[91, 97, 92, 93, 98, 93, 99]⟩ : ByteArray)] rfl (by (try simp only [List.map_toArray, List.map_cons, List.map_nil]); first | done | rfl | (simp only [List.length_drop, List.length_take]; rfl)) ?_; (with_reducible refine (link_Label.calls (⟨#[91, 97, 92, 93, 98, 93, 99]⟩ : ByteArray) t101 t102 _ ?side1 A1.out).mono ?_); (case side1 => (first | (with_reducible first | exact HG.out | exact GW.drewN HG.out _ | exact GW.drewN (GW.drewN HG.out _) _) | exact GW.below HG.out (by repeat (first | (with_reducible first | exact HB.out | apply below_alloc | apply pw_below_drewN | apply below_drew1) | exact HB.out)))); rintro e w54 ⟨rfl, hb⟩; refine ⟨_, rfl, ?_⟩; have n0_ := Aside0.mk (below_step (by repeat (first | (with_reducible first | exact HB.out | apply below_alloc | apply pw_below_drewN | apply below_drew1) | exact HB.out)) hb); clear HB; have HB := n0_; clear n0_; (try clear hb); (try clear hb2); (try clear hk); (try clear hi)) | ((with_reducible refine gate_callee (f := 43) rfl ?_); refine goesL_ (some 14) rfl rfl Tryz.func43 (by kernel_rfl) rfl #[.string (⟨#[97, 40, 98, 41, 99, 41, 100]⟩ : ByteArray)] rfl (by (try simp only [List.map_toArray, List.map_cons, List.map_nil]); first | done | rfl | (simp only [List.length_drop, List.length_take]; rfl)) ?_; (with_reducible refine (link_Dest.calls (⟨#[97, 40, 98, 41, 99, 41, 100]⟩ : ByteArray) t103 t104 _ ?side1 A2.out).mono ?_); (case side1 => (first | (with_reducible first | exact HG.out | exact GW.drewN HG.out _ | exact GW.drewN (GW.drewN HG.out _) _) | exact GW.below HG.out (by repeat (first | (with_reducible first | exact HB.out | apply below_alloc | apply pw_below_drewN | apply below_drew1) | exact HB.out)))); rintro e w55 ⟨rfl, hb⟩; refine ⟨_, rfl, ?_⟩; have n0_ := Aside0.mk (below_step (by repeat (first | (with_reducible first | exact HB.out | apply below_alloc | apply pw_below_drewN | apply below_drew1) | exact HB.out)) hb); clear HB; have HB := n0_; clear n0_; (try clear hb); (try clear hb2); (try clear hk); (try clear hi)) | ((with_reducible refine gate_callee (f := 44) rfl ?_); refine goesL_ (some 18) rfl rfl Tryz.func44 (by kernel_rfl) rfl #[.string (⟨#[34, 97, 92, 34, 98, 34]⟩ : ByteArray)] rfl (by (try simp only [List.map_toArray, List.map_cons, List.map_nil]); first | done | rfl | (simp only [List.length_drop, List.length_take]; rfl)) ?_; (with_reducible refine (link_Title.calls (⟨#[34, 97, 92, 34, 98, 34]⟩ : ByteArray) t105 t106 _ ?side1 A3.out).mono ?_); (case side1 => (first | (with_reducible first | exact HG.out | exact GW.drewN HG.out _ | exact GW.drewN (GW.drewN HG.out _) _) | exact GW.below HG.out (by repeat (first | (with_reducible first | exact HB.out | apply below_alloc | apply pw_below_drewN | apply below_drew1) | exact HB.out)))); rintro e w56 ⟨rfl, hb⟩; refine ⟨_, rfl, ?_⟩; have n0_ := Aside0.mk (below_step (by repeat (first | (with_reducible first | exact HB.out | apply below_alloc | apply pw_below_drewN | apply below_drew1) | exact HB.out)) hb); clear HB; have HB := n0_; clear n0_; (try clear hb); (try clear hb2); (try clear hk); (try clear hi)) | ((with_reducible refine gate_callee (f := 45) rfl ?_); refine goesL_ (some 22) rfl rfl Tryz.func45 (by kernel_rfl) rfl #[.string (⟨#[91, 70, 111, 111, 93, 58, 32, 47, 117, 32, 34, 116, 34, 10]⟩ : ByteArray)] rfl (by (try simp only [List.map_toArray, List.map_cons, List.map_nil]); first | done | rfl | (simp only [List.length_drop, List.length_take]; rfl)) ?_; (with_reducible refine (link_Define.calls (⟨#[91, 70, 111, 111, 93, 58, 32, 47, 117, 32, 34, 116, 34, 10]⟩ : ByteArray) t107 t108 t109 t110 _ ?side1 A4.out).mono ?_); (case side1 => (first | (with_reducible first | exact HG.out | exact GW.drewN HG.out _ | exact GW.drewN (GW.drewN HG.out _) _) | exact GW.below HG.out (by repeat (first | (with_reducible first | exact HB.out | apply below_alloc | apply pw_below_drewN | apply below_drew1) | exact HB.out)))); rintro e w57 ⟨rfl, hb⟩; refine ⟨_, rfl, ?_⟩; have n0_ := Aside0.mk (below_step (by repeat (first | (with_reducible first | exact HB.out | apply below_alloc | apply pw_below_drewN | apply below_drew1) | exact HB.out)) hb); clear HB; have HB := n0_; clear n0_; (try clear hb); (try clear hb2); (try clear hk); (try clear hi)) | ((with_reducible refine gate_dst (N := 7) rfl ?_); refine box_event ?hg (N := 7) ?hd (cs := #[.string (⟨#[]⟩ : ByteArray), .string (⟨#[]⟩ : ByteArray), .string (⟨#[]⟩ : ByteArray)]) (t := 48) ?hr ?_; (case hd => rfl); (case hg => rfl); (case hr => first | (go_simp; done) | (go_simp; rfl)); intro gb111 hg w58 hbox hb; have n0_ := Aside0.mk (below_step (by repeat (first | (with_reducible first | exact HB.out | apply below_alloc | apply pw_below_drewN | apply below_drew1) | exact HB.out)) hb); have n1_ := Aside0.mk (hbox); have n2_ := Aside0.mk ((by rw [hg]; exact (below_size (by repeat (first | (with_reducible first | exact HB.out | apply below_alloc | apply pw_below_drewN | apply below_drew1) | exact HB.out))) : w.heap.size ≤ gb111)); have n3_ := Aside0.mk ((by rw [hg]; exact (below_size (by repeat (first | (with_reducible first | exact HB.out | apply below_alloc | apply pw_below_drewN | apply below_drew1) | exact HB.out))) : w.heap.size ≤ gb111)); clear HB; have HB := n0_; have BK111 := n1_; have GW111 := n2_; have GE111 := n3_; clear n0_ n1_ n2_ n3_; clear hb hbox hg; have hcz59_0 : w58.cell? ⟨gb111, 0, none⟩ = some (.string (⟨#[]⟩ : ByteArray)) := (blk_cell BK111.out 0).trans rfl; have hcz59_1 : w58.cell? ⟨gb111, 1, none⟩ = some (.string (⟨#[]⟩ : ByteArray)) := (blk_cell BK111.out 1).trans rfl; have hcz59_2 : w58.cell? ⟨gb111, 2, none⟩ = some (.string (⟨#[]⟩ : ByteArray)) := (blk_cell BK111.out 2).trans rfl; have hfz59_0 := blk_frozen BK111.out 0; have hfz59_1 := blk_frozen BK111.out 1; have hfz59_2 := blk_frozen BK111.out 2))
    go_ret
    exact ⟨by first | rfl | (simp [errW_none, errW_some] <;> rfl) | (simp [*, errW_none, errW_some] <;> rfl), by repeat (first | (with_reducible first | exact HB.out | apply below_alloc | apply pw_below_drewN | apply below_drew1 | refine below_set ?_ GE111.out) | exact HB.out)⟩

/-- THE ONE PURE STATEMENT of scriptoriumlaw06_shown: yours. -/
def scriptoriumlaw06_shown.Pure : Prop := scriptoriumlaw06_shown.f  = some true
theorem scriptoriumlaw06_shown.walk (P : scriptoriumlaw06_shown.Pure)  (w : World) (hG : GW w)  :
    Calls Tryz.prog 41 #[] w fun e w' => e = .returned (.bool true) ∧ Below w.heap.size w w' := by
  have h := P  
  refine (scriptoriumlaw06_shown.calls  true w  hG h).mono ?_
  rintro e w' ⟨rfl, hd⟩
  exact ⟨rfl, hd⟩

/-! ### scriptoriumref01_tail: function 132 -/
def scriptoriumref01_tail.f (a0 : Int) : Option (Bool) := if a0 ≥ 128 then (some (decide (a0 < 192))) else (some false)
set_option maxHeartbeats 8000000 in
set_option maxRecDepth 100000 in
theorem scriptoriumref01_tail.calls (a0 : Int) (r : Bool) (w : World) (hG : GW w) (h : scriptoriumref01_tail.f a0 = some r) :
    Calls Tryz.prog 132 #[.int .u8 a0] w fun e w' => e = .returned (.bool r) ∧ Drawn0 w w' := by
  have HG := Aside0.mk hG
  clear hG
  have H : (if a0 ≥ 128 then (some (decide (a0 < 192))) else (some false)) = some r := h
  clear h
  by_cases c2 : a0 ≥ 128
  · rw [if_pos c2] at H
    have c2b0 : decide (128 ≤ a0) = true := decide_eq_true c2
    clear c2
    obtain rfl := Option.some.inj H
    go_enter Tryz.func132, Tryz.ntmps132
    go_wp2
    go_ret
    exact ⟨by first | rfl | (simp; done) | (simp [*]; done), by repeat (first | exact Drawn0.refl _ | apply Drawn0.step)⟩
  · rw [if_neg c2] at H
    have c2b0 : decide (128 ≤ a0) = false := decide_eq_false c2
    clear c2
    obtain rfl := Option.some.inj H
    go_enter Tryz.func132, Tryz.ntmps132
    go_wp2
    go_ret
    exact ⟨by first | rfl | (simp; done) | (simp [*]; done), by repeat (first | exact Drawn0.refl _ | apply Drawn0.step)⟩

/-! ### scriptoriumref01_First: function 87 -/
mutual
def scriptoriumref01_First.j2 : Nat → ByteArray → Int → Int → Int → Option (Int × Int)
  | 0, _, _, _, _ => none
  | k + 1, x0, x5, x6, x7 => if (x0.size : Int) < x5 then (some (65533, 1)) else (scriptoriumref01_First.l0 k x0 x5 x6 x7 1)
def scriptoriumref01_First.l0 : Nat → ByteArray → Int → Int → Int → Int → Option (Int × Int)
  | 0, _, _, _, _, _ => none
  | k + 1, x0, x5, x6, x7, x8 => if x8 < x5 then (if 0 ≤ x8 then (if x8 < (x0.size : Int) then ((scriptoriumref01_tail.f (bt x0 x8)).bind fun t112 => (if t112 = true then (scriptoriumref01_First.l0 k x0 x5 (wrap64 ((wrap64 ((wrap64 (64 * x6)) + (wrap64 (bt x0 x8)))) - 128)) x7 (wrap64 (x8 + 1))) else (some (65533, 1)))) else (none)) else (none)) else (if x6 < x7 then (some (65533, 1)) else (if x6 ≥ 55296 then (if x6 ≤ 57343 then (some (65533, 1)) else (if x6 > 1114111 then (some (65533, 1)) else (some (x6, x5)))) else (if x6 > 1114111 then (some (65533, 1)) else (some (x6, x5)))))
def scriptoriumref01_First.j0 : Nat → ByteArray → Int → Bool → Option (Int × Int)
  | 0, _, _, _ => none
  | k + 1, x0, x4, x17 => if x17 = true then (scriptoriumref01_First.j2 k x0 2 (wrap64 (x4 - 192)) 128) else (if x4 ≥ 224 then (scriptoriumref01_First.j1 k x0 x4 (decide (x4 < 240))) else (scriptoriumref01_First.j1 k x0 x4 false))
def scriptoriumref01_First.j1 : Nat → ByteArray → Int → Bool → Option (Int × Int)
  | 0, _, _, _ => none
  | k + 1, x0, x4, x26 => if x26 = true then (scriptoriumref01_First.j2 k x0 3 (wrap64 (x4 - 224)) 2048) else (if x4 ≥ 240 then (if x4 < 245 then (scriptoriumref01_First.j2 k x0 4 (wrap64 (x4 - 240)) 65536) else (some (65533, 1))) else (some (65533, 1)))
end
def scriptoriumref01_First.f (k : Nat) (a0 : ByteArray) : Option (Int × Int) := if 0 < (a0.size : Int) then (if (wrap64 (bt a0 0)) < 128 then (some (wrap64 (bt a0 0), 1)) else (if (wrap64 (bt a0 0)) ≥ 194 then (scriptoriumref01_First.j0 k a0 (wrap64 (bt a0 0)) (decide ((wrap64 (bt a0 0)) < 224))) else (scriptoriumref01_First.j0 k a0 (wrap64 (bt a0 0)) false))) else (none)
theorem scriptoriumref01_First.mono_l : ∀ k, (∀ y0 y1 y2 y3, LeO (scriptoriumref01_First.j2 k y0 y1 y2 y3) (scriptoriumref01_First.j2 (k + 1) y0 y1 y2 y3)) ∧ (∀ y0 y1 y2 y3 y4, LeO (scriptoriumref01_First.l0 k y0 y1 y2 y3 y4) (scriptoriumref01_First.l0 (k + 1) y0 y1 y2 y3 y4)) ∧ (∀ y0 y1 y2, LeO (scriptoriumref01_First.j0 k y0 y1 y2) (scriptoriumref01_First.j0 (k + 1) y0 y1 y2)) ∧ (∀ y0 y1 y2, LeO (scriptoriumref01_First.j1 k y0 y1 y2) (scriptoriumref01_First.j1 (k + 1) y0 y1 y2))
  | 0 => ⟨fun _ _ _ _ r h => by simp [scriptoriumref01_First.j2] at h, fun _ _ _ _ _ r h => by simp [scriptoriumref01_First.l0] at h, fun _ _ _ r h => by simp [scriptoriumref01_First.j0] at h, fun _ _ _ r h => by simp [scriptoriumref01_First.j1] at h⟩
  | k + 1 => by
    obtain ⟨ih0, ih1, ih2, ih3⟩ := scriptoriumref01_First.mono_l k
    refine ⟨?_, ?_, ?_, ?_⟩
    · intro y0 y1 y2 y3
      unfold scriptoriumref01_First.j2
      repeat' first
      | (with_reducible exact ih0 _ _ _ _)
      | (with_reducible exact ih1 _ _ _ _ _)
      | (with_reducible exact ih2 _ _ _)
      | (with_reducible exact ih3 _ _ _)
      | (with_reducible exact LeO.refl _)
      | (with_reducible exact LeO.none _)
      | (with_reducible refine LeO.ite ?_ ?_)
      | (with_reducible refine LeO.bind ?_ (fun _ => ?_))
      | exact ih0 _ _ _ _
      | exact ih1 _ _ _ _ _
      | exact ih2 _ _ _
      | exact ih3 _ _ _
      | exact LeO.none _
      | refine LeO.ite ?_ ?_
      | refine LeO.bind ?_ (fun _ => ?_)
    · intro y0 y1 y2 y3 y4
      unfold scriptoriumref01_First.l0
      repeat' first
      | (with_reducible exact ih0 _ _ _ _)
      | (with_reducible exact ih1 _ _ _ _ _)
      | (with_reducible exact ih2 _ _ _)
      | (with_reducible exact ih3 _ _ _)
      | (with_reducible exact LeO.refl _)
      | (with_reducible exact LeO.none _)
      | (with_reducible refine LeO.ite ?_ ?_)
      | (with_reducible refine LeO.bind ?_ (fun _ => ?_))
      | exact ih0 _ _ _ _
      | exact ih1 _ _ _ _ _
      | exact ih2 _ _ _
      | exact ih3 _ _ _
      | exact LeO.none _
      | refine LeO.ite ?_ ?_
      | refine LeO.bind ?_ (fun _ => ?_)
    · intro y0 y1 y2
      unfold scriptoriumref01_First.j0
      repeat' first
      | (with_reducible exact ih0 _ _ _ _)
      | (with_reducible exact ih1 _ _ _ _ _)
      | (with_reducible exact ih2 _ _ _)
      | (with_reducible exact ih3 _ _ _)
      | (with_reducible exact LeO.refl _)
      | (with_reducible exact LeO.none _)
      | (with_reducible refine LeO.ite ?_ ?_)
      | (with_reducible refine LeO.bind ?_ (fun _ => ?_))
      | exact ih0 _ _ _ _
      | exact ih1 _ _ _ _ _
      | exact ih2 _ _ _
      | exact ih3 _ _ _
      | exact LeO.none _
      | refine LeO.ite ?_ ?_
      | refine LeO.bind ?_ (fun _ => ?_)
    · intro y0 y1 y2
      unfold scriptoriumref01_First.j1
      repeat' first
      | (with_reducible exact ih0 _ _ _ _)
      | (with_reducible exact ih1 _ _ _ _ _)
      | (with_reducible exact ih2 _ _ _)
      | (with_reducible exact ih3 _ _ _)
      | (with_reducible exact LeO.refl _)
      | (with_reducible exact LeO.none _)
      | (with_reducible refine LeO.ite ?_ ?_)
      | (with_reducible refine LeO.bind ?_ (fun _ => ?_))
      | exact ih0 _ _ _ _
      | exact ih1 _ _ _ _ _
      | exact ih2 _ _ _
      | exact ih3 _ _ _
      | exact LeO.none _
      | refine LeO.ite ?_ ?_
      | refine LeO.bind ?_ (fun _ => ?_)
theorem scriptoriumref01_First.mono : ∀ a0 k, LeO (scriptoriumref01_First.f k a0) (scriptoriumref01_First.f (k + 1) a0) := by
  intro a0 k
  obtain ⟨ih0, ih1, ih2, ih3⟩ := scriptoriumref01_First.mono_l k
  unfold scriptoriumref01_First.f
  repeat' first
      | (with_reducible exact ih0 _ _ _ _)
      | (with_reducible exact ih1 _ _ _ _ _)
      | (with_reducible exact ih2 _ _ _)
      | (with_reducible exact ih3 _ _ _)
      | (with_reducible exact LeO.refl _)
      | (with_reducible exact LeO.none _)
      | (with_reducible refine LeO.ite ?_ ?_)
      | (with_reducible refine LeO.bind ?_ (fun _ => ?_))
      | exact ih0 _ _ _ _
      | exact ih1 _ _ _ _ _
      | exact ih2 _ _ _
      | exact ih3 _ _ _
      | exact LeO.none _
      | refine LeO.ite ?_ ?_
      | refine LeO.bind ?_ (fun _ => ?_)
set_option maxHeartbeats 8000000 in
set_option maxRecDepth 100000 in
theorem scriptoriumref01_First.calls (k : Nat) (a0 : ByteArray) (r1 : Int) (r2 : Int) (w : World) (hG : GW w) (h : scriptoriumref01_First.f k a0 = some (r1, r2)) :
    Calls Tryz.prog 87 #[.string a0] w fun e w' => e = .returned (.tuple #[.int .i64 r1, .int .i64 r2]) ∧ Drawn0 w w' := by
  have HG := Aside0.mk hG
  clear hG
  have H : (if 0 < (a0.size : Int) then (if (wrap64 (bt a0 0)) < 128 then (some (wrap64 (bt a0 0), 1)) else (if (wrap64 (bt a0 0)) ≥ 194 then (scriptoriumref01_First.j0 k a0 (wrap64 (bt a0 0)) (decide ((wrap64 (bt a0 0)) < 224))) else (scriptoriumref01_First.j0 k a0 (wrap64 (bt a0 0)) false))) else (none)) = some (r1, r2) := h
  clear h
  by_cases c2 : 0 < (a0.size : Int)
  · rw [if_pos c2] at H
    have c2b0 : decide (0 < (a0.size : Int)) = true := decide_eq_true c2
    have c2b1 : decide (0 < a0.size) = true := decide_eq_true (by omega)
    clear c2
    have HC4 := Aside0.mk H
    clear H
    have p3 : 0 ≤ (0 : Int) := (by omega)
    have q3 : 0 < a0.size := (by have : (0 : Int) < (a0.size : Int) := of_decide_eq_true (by first | (with_reducible assumption) | assumption); omega)
    have hx3 : ∀ h : 0 < a0.size, ((a0[0]'h).toNat : Int) = bt a0 0 := bt_at a0 0
    clear p3
    have qi3 : (0 < (a0.size : Int)) = True := eq_true (of_decide_eq_true (by first | (with_reducible assumption) | assumption))
    replace q3 := eq_true q3
    go_enter Tryz.func87, Tryz.ntmps87
    go_upto_block 0 with (fail)
    go_cut [5, 6, 7] (fun v5 v6 v7 wc => ∃ (kq : Nat) (x5_3 : Int) (x6_3 : Int) (x7_3 : Int), v5 = .int .i64 x5_3 ∧ v6 = .int .i64 x6_3 ∧ v7 = .int .i64 x7_3 ∧ Aside0 (scriptoriumref01_First.j2 kq a0 x5_3 x6_3 x7_3 = some (r1, r2)) ∧ Aside0 (kq ≤ k) ∧ Drawn0 w wc)
    case first =>
      have H := HC4.out
      clear HC4
      by_cases c5 : (wrap64 (bt a0 0)) < 128
      · rw [if_pos c5] at H
        have c5b0 : decide ((wrap64 (bt a0 0)) < 128) = true := decide_eq_true c5
        clear c5
        (first | rw [c5b0] | (simp only [i64_w, i32_w]; rw [c5b0]) | skip)
        simp only [Option.some.injEq, Prod.mk.injEq] at H
        obtain ⟨rfl, rfl⟩ := H
        go_wp2
        go_ret2
        exact ⟨by first | rfl | (simp; done) | (simp [*]; done), by repeat (first | exact Drawn0.refl _ | apply Drawn0.step)⟩
      · rw [if_neg c5] at H
        have c5b0 : decide ((wrap64 (bt a0 0)) < 128) = false := decide_eq_false c5
        clear c5
        (first | rw [c5b0] | (simp only [i64_w, i32_w]; rw [c5b0]) | skip)
        have HC6 := Aside0.mk H
        clear H
        go_upto_region 8 with (fail)
        go_cut [17] (fun v17 wc => ∃ (kq : Nat) (x17_5 : Bool), v17 = .bool x17_5 ∧ Aside0 (scriptoriumref01_First.j0 kq a0 (wrap64 (bt a0 0)) x17_5 = some (r1, r2)) ∧ Aside0 (kq ≤ k) ∧ Drawn0 w wc)
        case first =>
          have H := HC6.out
          clear HC6
          by_cases c7 : (wrap64 (bt a0 0)) ≥ 194
          · rw [if_pos c7] at H
            have c7b0 : decide (194 ≤ (wrap64 (bt a0 0))) = true := decide_eq_true c7
            clear c7
            (first | rw [c7b0] | (simp only [i64_w, i32_w]; rw [c7b0]) | skip)
            have H' := Aside0.mk H
            clear H
            go_wp2
            go_meet
            case rel => exact ⟨_, (decide ((wrap64 (bt a0 0)) < 224)), (by first | rfl | (simp; done) | (simp [*]; done)), H', ⟨by first | omega | exact Nat.le_refl _⟩, by repeat (first | exact Drawn0.refl _ | apply Drawn0.step)⟩
          · rw [if_neg c7] at H
            have c7b0 : decide (194 ≤ (wrap64 (bt a0 0))) = false := decide_eq_false c7
            clear c7
            (first | rw [c7b0] | (simp only [i64_w, i32_w]; rw [c7b0]) | skip)
            have H' := Aside0.mk H
            clear H
            go_wp2
            go_meet
            case rel => exact ⟨_, (false), (by first | rfl | (simp; done) | (simp [*]; done)), H', ⟨by first | omega | exact Nat.le_refl _⟩, by repeat (first | exact Drawn0.refl _ | apply Drawn0.step)⟩
        case rest =>
          clear HC6
          try clear c2
          try clear c2b0
          try clear c2b1
          try clear p2
          try clear p3
          try clear q3
          try clear hx3
          try clear qi3
          try clear c5
          try clear c5b0
          try clear p6
          try clear c7
          try clear c7b0
          try clear p3
          try clear q3
          obtain ⟨kq, x17_5, rfl, HA, HJ5, ⟨mc5, rfl⟩⟩ := hcut
          cases kq with
          | zero => exact absurd HA.out (by simp [scriptoriumref01_First.j0])
          | succ kj5 =>
            have H := HA.out
            clear HA
            simp only [scriptoriumref01_First.j0] at H
            by_cases c8 : x17_5 = true
            · subst c8
              have H1 : (scriptoriumref01_First.j2 kj5 a0 2 (wrap64 ((wrap64 (bt a0 0)) - 192)) 128) = some (r1, r2) := by rw [if_pos rfl] at H; exact H
              clear H
              have H := H1
              clear H1
              have H' := Aside0.mk H
              clear H
              go_wp2
              go_meet
              case rel => exact ⟨_, (2), (wrap64 ((wrap64 (bt a0 0)) - 192)), (128), (by first | rfl | (simp; done) | (simp [*]; done)), (by first | rfl | (simp; done) | (simp [*]; done)), (by first | rfl | (simp; done) | (simp [*]; done)), H', ⟨by have := HJ5.out; first | omega | exact Nat.le_refl _⟩, by repeat (first | exact Drawn0.refl _ | apply Drawn0.step)⟩
            · replace c8 := Bool.eq_false_iff.mpr c8
              subst c8
              have H1 : (if (wrap64 (bt a0 0)) ≥ 224 then (scriptoriumref01_First.j1 kj5 a0 (wrap64 (bt a0 0)) (decide ((wrap64 (bt a0 0)) < 240))) else (scriptoriumref01_First.j1 kj5 a0 (wrap64 (bt a0 0)) false)) = some (r1, r2) := by rw [if_neg (show ¬ (false = true) by decide)] at H; exact H
              clear H
              have H := H1
              clear H1
              have HC9 := Aside0.mk H
              clear H
              go_upto_region 12 with (fail)
              go_cut [26] (fun v26 wc => ∃ (kq : Nat) (x26_8 : Bool), v26 = .bool x26_8 ∧ Aside0 (scriptoriumref01_First.j1 kq a0 (wrap64 (bt a0 0)) x26_8 = some (r1, r2)) ∧ Aside0 (kq ≤ kj5) ∧ Drawn0 w wc)
              case first =>
                have H := HC9.out
                clear HC9
                by_cases c10 : (wrap64 (bt a0 0)) ≥ 224
                · rw [if_pos c10] at H
                  have c10b0 : decide (224 ≤ (wrap64 (bt a0 0))) = true := decide_eq_true c10
                  clear c10
                  (first | rw [c10b0] | (simp only [i64_w, i32_w]; rw [c10b0]) | skip)
                  have H' := Aside0.mk H
                  clear H
                  go_wp2
                  go_meet
                  case rel => exact ⟨_, (decide ((wrap64 (bt a0 0)) < 240)), (by first | rfl | (simp; done) | (simp [*]; done)), H', ⟨by have := HJ5.out; first | omega | exact Nat.le_refl _⟩, by repeat (first | exact Drawn0.refl _ | apply Drawn0.step)⟩
                · rw [if_neg c10] at H
                  have c10b0 : decide (224 ≤ (wrap64 (bt a0 0))) = false := decide_eq_false c10
                  clear c10
                  (first | rw [c10b0] | (simp only [i64_w, i32_w]; rw [c10b0]) | skip)
                  have H' := Aside0.mk H
                  clear H
                  go_wp2
                  go_meet
                  case rel => exact ⟨_, (false), (by first | rfl | (simp; done) | (simp [*]; done)), H', ⟨by have := HJ5.out; first | omega | exact Nat.le_refl _⟩, by repeat (first | exact Drawn0.refl _ | apply Drawn0.step)⟩
              case rest =>
                clear HC9
                try clear c1
                try clear c2
                try clear c2b0
                try clear c2b1
                try clear p2
                try clear p3
                try clear q3
                try clear hx3
                try clear qi3
                try clear c5
                try clear c5b0
                try clear p6
                try clear c7
                try clear c7b0
                try clear c8
                try clear c10
                try clear c10b0
                try clear p2
                try clear p3
                try clear p6
                try clear q3
                obtain ⟨kq, x26_8, rfl, HA, HJ8, ⟨mc8, rfl⟩⟩ := hcut
                cases kq with
                | zero => exact absurd HA.out (by simp [scriptoriumref01_First.j1])
                | succ kj8 =>
                  have H := HA.out
                  clear HA
                  simp only [scriptoriumref01_First.j1] at H
                  by_cases c11 : x26_8 = true
                  · subst c11
                    have H1 : (scriptoriumref01_First.j2 kj8 a0 3 (wrap64 ((wrap64 (bt a0 0)) - 224)) 2048) = some (r1, r2) := by rw [if_pos rfl] at H; exact H
                    clear H
                    have H := H1
                    clear H1
                    have H' := Aside0.mk H
                    clear H
                    go_wp2
                    go_meet
                    case rel => exact ⟨_, (3), (wrap64 ((wrap64 (bt a0 0)) - 224)), (2048), (by first | rfl | (simp; done) | (simp [*]; done)), (by first | rfl | (simp; done) | (simp [*]; done)), (by first | rfl | (simp; done) | (simp [*]; done)), H', ⟨by have := HJ5.out; have := HJ8.out; first | omega | exact Nat.le_refl _⟩, by repeat (first | exact Drawn0.refl _ | apply Drawn0.step)⟩
                  · replace c11 := Bool.eq_false_iff.mpr c11
                    subst c11
                    have H1 : (if (wrap64 (bt a0 0)) ≥ 240 then (if (wrap64 (bt a0 0)) < 245 then (scriptoriumref01_First.j2 kj8 a0 4 (wrap64 ((wrap64 (bt a0 0)) - 240)) 65536) else (some (65533, 1))) else (some (65533, 1))) = some (r1, r2) := by rw [if_neg (show ¬ (false = true) by decide)] at H; exact H
                    clear H
                    have H := H1
                    clear H1
                    by_cases c12 : (wrap64 (bt a0 0)) ≥ 240
                    · rw [if_pos c12] at H
                      have c12b0 : decide (240 ≤ (wrap64 (bt a0 0))) = true := decide_eq_true c12
                      clear c12
                      by_cases c13 : (wrap64 (bt a0 0)) < 245
                      · rw [if_pos c13] at H
                        have c13b0 : decide ((wrap64 (bt a0 0)) < 245) = true := decide_eq_true c13
                        clear c13
                        have H' := Aside0.mk H
                        clear H
                        go_wp2
                        go_meet
                        case rel => exact ⟨_, (4), (wrap64 ((wrap64 (bt a0 0)) - 240)), (65536), (by first | rfl | (simp; done) | (simp [*]; done)), (by first | rfl | (simp; done) | (simp [*]; done)), (by first | rfl | (simp; done) | (simp [*]; done)), H', ⟨by have := HJ5.out; have := HJ8.out; first | omega | exact Nat.le_refl _⟩, by repeat (first | exact Drawn0.refl _ | apply Drawn0.step)⟩
                      · rw [if_neg c13] at H
                        have c13b0 : decide ((wrap64 (bt a0 0)) < 245) = false := decide_eq_false c13
                        clear c13
                        simp only [Option.some.injEq, Prod.mk.injEq] at H
                        obtain ⟨rfl, rfl⟩ := H
                        go_wp2
                        go_ret2
                        exact ⟨by first | rfl | (simp; done) | (simp [*]; done), by repeat (first | exact Drawn0.refl _ | apply Drawn0.step)⟩
                    · rw [if_neg c12] at H
                      have c12b0 : decide (240 ≤ (wrap64 (bt a0 0))) = false := decide_eq_false c12
                      clear c12
                      simp only [Option.some.injEq, Prod.mk.injEq] at H
                      obtain ⟨rfl, rfl⟩ := H
                      go_wp2
                      go_ret2
                      exact ⟨by first | rfl | (simp; done) | (simp [*]; done), by repeat (first | exact Drawn0.refl _ | apply Drawn0.step)⟩
    case rest =>
      clear HC4
      try clear c1
      try clear c2
      try clear c2b0
      try clear c2b1
      try clear p2
      try clear p3
      try clear q3
      try clear hx3
      try clear qi3
      try clear c5
      try clear c5b0
      try clear p6
      try clear c7
      try clear c7b0
      try clear c8
      try clear c10
      try clear c10b0
      try clear c11
      try clear c12
      try clear c12b0
      try clear c13
      try clear c13b0
      try clear p2
      try clear p3
      try clear p6
      try clear q3
      obtain ⟨kq, x5_3, x6_3, x7_3, rfl, rfl, rfl, HA, HJ3, ⟨mc3, rfl⟩⟩ := hcut
      cases kq with
      | zero => exact absurd HA.out (by simp [scriptoriumref01_First.j2])
      | succ kj3 =>
        have H := HA.out
        clear HA
        simp only [scriptoriumref01_First.j2] at H
        by_cases c14 : (a0.size : Int) < x5_3
        · rw [if_pos c14] at H
          have c14b0 : decide ((a0.size : Int) < x5_3) = true := decide_eq_true c14
          clear c14
          simp only [Option.some.injEq, Prod.mk.injEq] at H
          obtain ⟨rfl, rfl⟩ := H
          go_wp2
          go_ret2
          exact ⟨by first | rfl | (simp; done) | (simp [*]; done), by repeat (first | exact Drawn0.refl _ | apply Drawn0.step)⟩
        · rw [if_neg c14] at H
          have c14b0 : decide ((a0.size : Int) < x5_3) = false := decide_eq_false c14
          clear c14
          have H' := Aside0.mk H
          clear H
          go_wp2
          go_loopg [6, 8] kj3 (fun kq v6 v8 w' => ∃ (x6_2 : Int) (x8_2 : Int), v6 = .int .i64 x6_2 ∧ v8 = .int .i64 x8_2 ∧ Aside0 (scriptoriumref01_First.l0 kq a0 x5_3 x6_2 x7_3 x8_2 = some (r1, r2)) ∧ Aside0 (kq ≤ kj3) ∧ Drawn0 w w')
          case atStart => exact ⟨(x6_3), (1), (by first | rfl | (simp; done) | (simp [*]; done)), (by first | rfl | (simp; done) | (simp [*]; done)), H', ⟨Nat.le_refl _⟩, by repeat (first | exact Drawn0.refl _ | apply Drawn0.step)⟩
          case round =>
            clear H'
            try clear c1
            try clear c2
            try clear c2b0
            try clear c2b1
            try clear p2
            try clear c3
            try clear p3
            try clear q3
            try clear hx3
            try clear qi3
            try clear c5
            try clear c5b0
            try clear p6
            try clear c7
            try clear c7b0
            try clear c8
            try clear c10
            try clear c10b0
            try clear c11
            try clear c12
            try clear c12b0
            try clear c13
            try clear c13b0
            try clear c14
            try clear c14b0
            try clear p2
            try clear p3
            try clear p6
            try clear q3
            obtain ⟨x6_2, x8_2, rfl, rfl, HA, HK2, ⟨m2, rfl⟩⟩ := hrel
            cases gk with
            | zero => exact absurd HA.out (by simp [scriptoriumref01_First.l0])
            | succ k2 =>
              have H := HA.out
              clear HA
              simp only [scriptoriumref01_First.l0] at H
              by_cases c15 : x8_2 < x5_3
              · rw [if_pos c15] at H
                have c15b0 : decide (x8_2 < x5_3) = true := decide_eq_true c15
                clear c15
                by_cases c16 : 0 ≤ x8_2
                · rw [if_pos c16] at H
                  have c16b0 : decide (0 ≤ x8_2) = true := decide_eq_true c16
                  clear c16
                  by_cases c17 : x8_2 < (a0.size : Int)
                  · rw [if_pos c17] at H
                    have c17b0 : decide (x8_2 < (a0.size : Int)) = true := decide_eq_true c17
                    clear c17
                    replace H := Option.bind_eq_some_iff.mp H
                    obtain ⟨t112, A190, H⟩ := H
                    replace H : (if t112 = true then (scriptoriumref01_First.l0 k2 a0 x5_3 (wrap64 ((wrap64 ((wrap64 (64 * x6_2)) + (wrap64 (bt a0 x8_2)))) - 128)) x7_3 (wrap64 (x8_2 + 1))) else (some (65533, 1))) = some (r1, r2) := H
                    have A19 := Aside0.mk A190
                    clear A190
                    by_cases c20 : t112 = true
                    · subst c20
                      have H1 : (scriptoriumref01_First.l0 k2 a0 x5_3 (wrap64 ((wrap64 ((wrap64 (64 * x6_2)) + (wrap64 (bt a0 x8_2)))) - 128)) x7_3 (wrap64 (x8_2 + 1))) = some (r1, r2) := by rw [if_pos rfl] at H; exact H
                      clear H
                      have H := H1
                      clear H1
                      have H' := Aside0.mk H
                      clear H
                      have p18 : 0 ≤ (x8_2 : Int) := of_decide_eq_true (by first | (with_reducible assumption) | assumption)
                      have q18 : x8_2 < (a0.size : Int) := of_decide_eq_true (by first | (with_reducible assumption) | assumption)
                      have hx18 := bt_at a0 x8_2
                      replace p18 := eq_true p18
                      replace q18 := eq_true q18
                      go_wp2_with (first | ((with_reducible refine gate_callee (f := 132) rfl ?_); refine goesL_ (some 56) rfl rfl Tryz.func132 (by kernel_rfl) rfl #[.int .u8 (bt a0 x8_2)] rfl (by (try simp only [List.map_toArray, List.map_cons, List.map_nil]); first | done | rfl | (simp only [List.length_drop, List.length_take]; rfl)) ?_; (with_reducible refine (scriptoriumref01_tail.calls (bt a0 x8_2) true _ ?side1 A19.out).mono ?_); (case side1 => (first | (with_reducible first | exact HG.out | exact GW.drewN HG.out _ | exact GW.drewN (GW.drewN HG.out _) _) | exact GW.below HG.out (by repeat (first | (with_reducible first | exact HB.out | apply below_alloc | apply pw_below_drewN | apply below_drew1) | exact HB.out)))); rintro e w' ⟨rfl, ⟨nd, rfl⟩⟩; refine ⟨_, rfl, ?_⟩; have p21 : 0 ≤ (x8_2 : Int) := of_decide_eq_true (by first | (with_reducible assumption) | assumption); have q21 : x8_2 < (a0.size : Int) := of_decide_eq_true (by first | (with_reducible assumption) | assumption); have hx21 := bt_at a0 x8_2; replace p21 := eq_true p21; replace q21 := eq_true q21))
                      go_roundg k2
                      case measure => have := HJ3.out; have := HK2.out; omega
                      case rel => exact ⟨(wrap64 ((wrap64 ((wrap64 (64 * x6_2)) + (wrap64 (bt a0 x8_2)))) - 128)), (wrap64 (x8_2 + 1)), (by first | rfl | (simp; done) | (simp [*]; done)), (by first | rfl | (simp; done) | (simp [*]; done)), H', ⟨by have := HJ3.out; have := HK2.out; omega⟩, by repeat (first | exact Drawn0.refl _ | apply Drawn0.step)⟩
                    · replace c20 := Bool.eq_false_iff.mpr c20
                      subst c20
                      have H1 : (some (65533, 1)) = some (r1, r2) := by rw [if_neg (show ¬ (false = true) by decide)] at H; exact H
                      clear H
                      have H := H1
                      clear H1
                      simp only [Option.some.injEq, Prod.mk.injEq] at H
                      obtain ⟨rfl, rfl⟩ := H
                      have p18 : 0 ≤ (x8_2 : Int) := of_decide_eq_true (by first | (with_reducible assumption) | assumption)
                      have q18 : x8_2 < (a0.size : Int) := of_decide_eq_true (by first | (with_reducible assumption) | assumption)
                      have hx18 := bt_at a0 x8_2
                      replace p18 := eq_true p18
                      replace q18 := eq_true q18
                      go_wp2_with (first | ((with_reducible refine gate_callee (f := 132) rfl ?_); refine goesL_ (some 56) rfl rfl Tryz.func132 (by kernel_rfl) rfl #[.int .u8 (bt a0 x8_2)] rfl (by (try simp only [List.map_toArray, List.map_cons, List.map_nil]); first | done | rfl | (simp only [List.length_drop, List.length_take]; rfl)) ?_; (with_reducible refine (scriptoriumref01_tail.calls (bt a0 x8_2) false _ ?side1 A19.out).mono ?_); (case side1 => (first | (with_reducible first | exact HG.out | exact GW.drewN HG.out _ | exact GW.drewN (GW.drewN HG.out _) _) | exact GW.below HG.out (by repeat (first | (with_reducible first | exact HB.out | apply below_alloc | apply pw_below_drewN | apply below_drew1) | exact HB.out)))); rintro e w' ⟨rfl, ⟨nd, rfl⟩⟩; refine ⟨_, rfl, ?_⟩))
                      go_ret2
                      exact ⟨by first | rfl | (simp; done) | (simp [*]; done), by repeat (first | exact Drawn0.refl _ | apply Drawn0.step)⟩
                  · rw [if_neg c17] at H
                    exact absurd H (by simp)
                · rw [if_neg c16] at H
                  exact absurd H (by simp)
              · rw [if_neg c15] at H
                have c15b0 : decide (x8_2 < x5_3) = false := decide_eq_false c15
                clear c15
                by_cases c22 : x6_2 < x7_3
                · rw [if_pos c22] at H
                  have c22b0 : decide (x6_2 < x7_3) = true := decide_eq_true c22
                  clear c22
                  simp only [Option.some.injEq, Prod.mk.injEq] at H
                  obtain ⟨rfl, rfl⟩ := H
                  go_wp2
                  go_ret2
                  exact ⟨by first | rfl | (simp; done) | (simp [*]; done), by repeat (first | exact Drawn0.refl _ | apply Drawn0.step)⟩
                · rw [if_neg c22] at H
                  have c22b0 : decide (x6_2 < x7_3) = false := decide_eq_false c22
                  clear c22
                  by_cases c23 : x6_2 ≥ 55296
                  · rw [if_pos c23] at H
                    have c23b0 : decide (55296 ≤ x6_2) = true := decide_eq_true c23
                    clear c23
                    by_cases c24 : x6_2 ≤ 57343
                    · rw [if_pos c24] at H
                      have c24b0 : decide (x6_2 ≤ 57343) = true := decide_eq_true c24
                      clear c24
                      simp only [Option.some.injEq, Prod.mk.injEq] at H
                      obtain ⟨rfl, rfl⟩ := H
                      go_wp2
                      go_ret2
                      exact ⟨by first | rfl | (simp; done) | (simp [*]; done), by repeat (first | exact Drawn0.refl _ | apply Drawn0.step)⟩
                    · rw [if_neg c24] at H
                      have c24b0 : decide (x6_2 ≤ 57343) = false := decide_eq_false c24
                      clear c24
                      by_cases c25 : x6_2 > 1114111
                      · rw [if_pos c25] at H
                        have c25b0 : decide (1114111 < x6_2) = true := decide_eq_true c25
                        clear c25
                        simp only [Option.some.injEq, Prod.mk.injEq] at H
                        obtain ⟨rfl, rfl⟩ := H
                        go_wp2
                        go_ret2
                        exact ⟨by first | rfl | (simp; done) | (simp [*]; done), by repeat (first | exact Drawn0.refl _ | apply Drawn0.step)⟩
                      · rw [if_neg c25] at H
                        have c25b0 : decide (1114111 < x6_2) = false := decide_eq_false c25
                        clear c25
                        simp only [Option.some.injEq, Prod.mk.injEq] at H
                        obtain ⟨rfl, rfl⟩ := H
                        go_wp2
                        go_ret2
                        exact ⟨by first | rfl | (simp; done) | (simp [*]; done), by repeat (first | exact Drawn0.refl _ | apply Drawn0.step)⟩
                  · rw [if_neg c23] at H
                    have c23b0 : decide (55296 ≤ x6_2) = false := decide_eq_false c23
                    clear c23
                    by_cases c26 : x6_2 > 1114111
                    · rw [if_pos c26] at H
                      have c26b0 : decide (1114111 < x6_2) = true := decide_eq_true c26
                      clear c26
                      simp only [Option.some.injEq, Prod.mk.injEq] at H
                      obtain ⟨rfl, rfl⟩ := H
                      go_wp2
                      go_ret2
                      exact ⟨by first | rfl | (simp; done) | (simp [*]; done), by repeat (first | exact Drawn0.refl _ | apply Drawn0.step)⟩
                    · rw [if_neg c26] at H
                      have c26b0 : decide (1114111 < x6_2) = false := decide_eq_false c26
                      clear c26
                      simp only [Option.some.injEq, Prod.mk.injEq] at H
                      obtain ⟨rfl, rfl⟩ := H
                      go_wp2
                      go_ret2
                      exact ⟨by first | rfl | (simp; done) | (simp [*]; done), by repeat (first | exact Drawn0.refl _ | apply Drawn0.step)⟩
  · rw [if_neg c2] at H
    exact absurd H (by simp)

/-! ### scriptoriumref01_Space: function 88 -/
def scriptoriumref01_Space.f (a0 : Int) : Option (Bool) := if a0 = 9 then (some true) else (if a0 = 10 then (some true) else (if a0 = 12 then (some true) else (if a0 = 13 then (some true) else (if a0 = 32 then (some true) else (if a0 = 160 then (some true) else (if a0 = 5760 then (some true) else (if a0 = 8239 then (some true) else (if a0 = 8287 then (some true) else (if a0 = 12288 then (some true) else (if a0 ≥ 8192 then (some (decide (a0 ≤ 8202))) else (some false)))))))))))
set_option maxHeartbeats 8000000 in
set_option maxRecDepth 100000 in
theorem scriptoriumref01_Space.calls (a0 : Int) (r : Bool) (w : World) (hG : GW w) (h : scriptoriumref01_Space.f a0 = some r) :
    Calls Tryz.prog 88 #[.int .i64 a0] w fun e w' => e = .returned (.bool r) ∧ Drawn0 w w' := by
  have HG := Aside0.mk hG
  clear hG
  have H : (if a0 = 9 then (some true) else (if a0 = 10 then (some true) else (if a0 = 12 then (some true) else (if a0 = 13 then (some true) else (if a0 = 32 then (some true) else (if a0 = 160 then (some true) else (if a0 = 5760 then (some true) else (if a0 = 8239 then (some true) else (if a0 = 8287 then (some true) else (if a0 = 12288 then (some true) else (if a0 ≥ 8192 then (some (decide (a0 ≤ 8202))) else (some false)))))))))))) = some r := h
  clear h
  by_cases c2 : a0 = 9
  · rw [if_pos c2] at H
    have c2b0 : (a0 == 9) = true := beq_iff_eq.mpr c2
    have c2b1 : (a0 != 9) = false := bne_eq_false_iff_eq.mpr c2
    clear c2
    obtain rfl := Option.some.inj H
    go_enter Tryz.func88, Tryz.ntmps88
    go_wp2
    go_ret
    exact ⟨by first | rfl | (simp; done) | (simp [*]; done), by repeat (first | exact Drawn0.refl _ | apply Drawn0.step)⟩
  · rw [if_neg c2] at H
    have c2b0 : (a0 == 9) = false := beq_eq_false_iff_ne.mpr c2
    have c2b1 : (a0 != 9) = true := bne_iff_ne.mpr c2
    by_cases c3 : a0 = 10
    · rw [if_pos c3] at H
      have c3b0 : (a0 == 10) = true := beq_iff_eq.mpr c3
      have c3b1 : (a0 != 10) = false := bne_eq_false_iff_eq.mpr c3
      clear c3
      obtain rfl := Option.some.inj H
      go_enter Tryz.func88, Tryz.ntmps88
      go_wp2
      go_ret
      exact ⟨by first | rfl | (simp; done) | (simp [*]; done), by repeat (first | exact Drawn0.refl _ | apply Drawn0.step)⟩
    · rw [if_neg c3] at H
      have c3b0 : (a0 == 10) = false := beq_eq_false_iff_ne.mpr c3
      have c3b1 : (a0 != 10) = true := bne_iff_ne.mpr c3
      by_cases c4 : a0 = 12
      · rw [if_pos c4] at H
        have c4b0 : (a0 == 12) = true := beq_iff_eq.mpr c4
        have c4b1 : (a0 != 12) = false := bne_eq_false_iff_eq.mpr c4
        clear c4
        obtain rfl := Option.some.inj H
        go_enter Tryz.func88, Tryz.ntmps88
        go_wp2
        go_ret
        exact ⟨by first | rfl | (simp; done) | (simp [*]; done), by repeat (first | exact Drawn0.refl _ | apply Drawn0.step)⟩
      · rw [if_neg c4] at H
        have c4b0 : (a0 == 12) = false := beq_eq_false_iff_ne.mpr c4
        have c4b1 : (a0 != 12) = true := bne_iff_ne.mpr c4
        by_cases c5 : a0 = 13
        · rw [if_pos c5] at H
          have c5b0 : (a0 == 13) = true := beq_iff_eq.mpr c5
          have c5b1 : (a0 != 13) = false := bne_eq_false_iff_eq.mpr c5
          clear c5
          obtain rfl := Option.some.inj H
          go_enter Tryz.func88, Tryz.ntmps88
          go_wp2
          go_ret
          exact ⟨by first | rfl | (simp; done) | (simp [*]; done), by repeat (first | exact Drawn0.refl _ | apply Drawn0.step)⟩
        · rw [if_neg c5] at H
          have c5b0 : (a0 == 13) = false := beq_eq_false_iff_ne.mpr c5
          have c5b1 : (a0 != 13) = true := bne_iff_ne.mpr c5
          by_cases c6 : a0 = 32
          · rw [if_pos c6] at H
            have c6b0 : (a0 == 32) = true := beq_iff_eq.mpr c6
            have c6b1 : (a0 != 32) = false := bne_eq_false_iff_eq.mpr c6
            clear c6
            obtain rfl := Option.some.inj H
            go_enter Tryz.func88, Tryz.ntmps88
            go_wp2
            go_ret
            exact ⟨by first | rfl | (simp; done) | (simp [*]; done), by repeat (first | exact Drawn0.refl _ | apply Drawn0.step)⟩
          · rw [if_neg c6] at H
            have c6b0 : (a0 == 32) = false := beq_eq_false_iff_ne.mpr c6
            have c6b1 : (a0 != 32) = true := bne_iff_ne.mpr c6
            by_cases c7 : a0 = 160
            · rw [if_pos c7] at H
              have c7b0 : (a0 == 160) = true := beq_iff_eq.mpr c7
              have c7b1 : (a0 != 160) = false := bne_eq_false_iff_eq.mpr c7
              clear c7
              obtain rfl := Option.some.inj H
              go_enter Tryz.func88, Tryz.ntmps88
              go_wp2
              go_ret
              exact ⟨by first | rfl | (simp; done) | (simp [*]; done), by repeat (first | exact Drawn0.refl _ | apply Drawn0.step)⟩
            · rw [if_neg c7] at H
              have c7b0 : (a0 == 160) = false := beq_eq_false_iff_ne.mpr c7
              have c7b1 : (a0 != 160) = true := bne_iff_ne.mpr c7
              by_cases c8 : a0 = 5760
              · rw [if_pos c8] at H
                have c8b0 : (a0 == 5760) = true := beq_iff_eq.mpr c8
                have c8b1 : (a0 != 5760) = false := bne_eq_false_iff_eq.mpr c8
                clear c8
                obtain rfl := Option.some.inj H
                go_enter Tryz.func88, Tryz.ntmps88
                go_wp2
                go_ret
                exact ⟨by first | rfl | (simp; done) | (simp [*]; done), by repeat (first | exact Drawn0.refl _ | apply Drawn0.step)⟩
              · rw [if_neg c8] at H
                have c8b0 : (a0 == 5760) = false := beq_eq_false_iff_ne.mpr c8
                have c8b1 : (a0 != 5760) = true := bne_iff_ne.mpr c8
                by_cases c9 : a0 = 8239
                · rw [if_pos c9] at H
                  have c9b0 : (a0 == 8239) = true := beq_iff_eq.mpr c9
                  have c9b1 : (a0 != 8239) = false := bne_eq_false_iff_eq.mpr c9
                  clear c9
                  obtain rfl := Option.some.inj H
                  go_enter Tryz.func88, Tryz.ntmps88
                  go_wp2
                  go_ret
                  exact ⟨by first | rfl | (simp; done) | (simp [*]; done), by repeat (first | exact Drawn0.refl _ | apply Drawn0.step)⟩
                · rw [if_neg c9] at H
                  have c9b0 : (a0 == 8239) = false := beq_eq_false_iff_ne.mpr c9
                  have c9b1 : (a0 != 8239) = true := bne_iff_ne.mpr c9
                  by_cases c10 : a0 = 8287
                  · rw [if_pos c10] at H
                    have c10b0 : (a0 == 8287) = true := beq_iff_eq.mpr c10
                    have c10b1 : (a0 != 8287) = false := bne_eq_false_iff_eq.mpr c10
                    clear c10
                    obtain rfl := Option.some.inj H
                    go_enter Tryz.func88, Tryz.ntmps88
                    go_wp2
                    go_ret
                    exact ⟨by first | rfl | (simp; done) | (simp [*]; done), by repeat (first | exact Drawn0.refl _ | apply Drawn0.step)⟩
                  · rw [if_neg c10] at H
                    have c10b0 : (a0 == 8287) = false := beq_eq_false_iff_ne.mpr c10
                    have c10b1 : (a0 != 8287) = true := bne_iff_ne.mpr c10
                    by_cases c11 : a0 = 12288
                    · rw [if_pos c11] at H
                      have c11b0 : (a0 == 12288) = true := beq_iff_eq.mpr c11
                      have c11b1 : (a0 != 12288) = false := bne_eq_false_iff_eq.mpr c11
                      clear c11
                      obtain rfl := Option.some.inj H
                      go_enter Tryz.func88, Tryz.ntmps88
                      go_wp2
                      go_ret
                      exact ⟨by first | rfl | (simp; done) | (simp [*]; done), by repeat (first | exact Drawn0.refl _ | apply Drawn0.step)⟩
                    · rw [if_neg c11] at H
                      have c11b0 : (a0 == 12288) = false := beq_eq_false_iff_ne.mpr c11
                      have c11b1 : (a0 != 12288) = true := bne_iff_ne.mpr c11
                      by_cases c12 : a0 ≥ 8192
                      · rw [if_pos c12] at H
                        have c12b0 : decide (8192 ≤ a0) = true := decide_eq_true c12
                        clear c12
                        obtain rfl := Option.some.inj H
                        go_enter Tryz.func88, Tryz.ntmps88
                        go_wp2
                        go_ret
                        exact ⟨by first | rfl | (simp; done) | (simp [*]; done), by repeat (first | exact Drawn0.refl _ | apply Drawn0.step)⟩
                      · rw [if_neg c12] at H
                        have c12b0 : decide (8192 ≤ a0) = false := decide_eq_false c12
                        clear c12
                        obtain rfl := Option.some.inj H
                        go_enter Tryz.func88, Tryz.ntmps88
                        go_wp2
                        go_ret
                        exact ⟨by first | rfl | (simp; done) | (simp [*]; done), by repeat (first | exact Drawn0.refl _ | apply Drawn0.step)⟩

/-! ### scriptoriumref01_Put: function 104 -/
def scriptoriumref01_Put.f (a0 : Int) : Option (ByteArray) := if a0 < 128 then (some (strOfNums (([(a0) % 256] : List Int)))) else (if a0 < 2048 then (some (strOfNums (([(wrap64 (192 + (wrap64 (Int.tdiv a0 64)))) % 256, (wrap64 (128 + (Int.tmod a0 64))) % 256] : List Int)))) else (if a0 < 65536 then (some (strOfNums (([(wrap64 (224 + (wrap64 (Int.tdiv a0 4096)))) % 256, (wrap64 (128 + (Int.tmod (wrap64 (Int.tdiv a0 64)) 64))) % 256, (wrap64 (128 + (Int.tmod a0 64))) % 256] : List Int)))) else (some (strOfNums (([(wrap64 (240 + (wrap64 (Int.tdiv a0 262144)))) % 256, (wrap64 (128 + (Int.tmod (wrap64 (Int.tdiv a0 4096)) 64))) % 256, (wrap64 (128 + (Int.tmod (wrap64 (Int.tdiv a0 64)) 64))) % 256, (wrap64 (128 + (Int.tmod a0 64))) % 256] : List Int))))))
set_option maxHeartbeats 8000000 in
set_option maxRecDepth 100000 in
theorem scriptoriumref01_Put.calls (a0 : Int) (r : ByteArray) (w : World) (hG : GW w) (h : scriptoriumref01_Put.f a0 = some r) :
    Calls Tryz.prog 104 #[.int .i64 a0] w fun e w' => e = .returned (.string r) ∧ Below w.heap.size w w' := by
  have HB := Aside0.mk (Below.refl w.heap.size w)
  have HG := Aside0.mk hG
  clear hG
  have H : (if a0 < 128 then (some (strOfNums (([(a0) % 256] : List Int)))) else (if a0 < 2048 then (some (strOfNums (([(wrap64 (192 + (wrap64 (Int.tdiv a0 64)))) % 256, (wrap64 (128 + (Int.tmod a0 64))) % 256] : List Int)))) else (if a0 < 65536 then (some (strOfNums (([(wrap64 (224 + (wrap64 (Int.tdiv a0 4096)))) % 256, (wrap64 (128 + (Int.tmod (wrap64 (Int.tdiv a0 64)) 64))) % 256, (wrap64 (128 + (Int.tmod a0 64))) % 256] : List Int)))) else (some (strOfNums (([(wrap64 (240 + (wrap64 (Int.tdiv a0 262144)))) % 256, (wrap64 (128 + (Int.tmod (wrap64 (Int.tdiv a0 4096)) 64))) % 256, (wrap64 (128 + (Int.tmod (wrap64 (Int.tdiv a0 64)) 64))) % 256, (wrap64 (128 + (Int.tmod a0 64))) % 256] : List Int))))))) = some r := h
  clear h
  by_cases c2 : a0 < 128
  · rw [if_pos c2] at H
    have c2b0 : decide (a0 < 128) = true := decide_eq_true c2
    clear c2
    obtain ⟨y113, hy113⟩ : ∃ y_ : List Int, y_ = (([(a0) % 256] : List Int)) := ⟨_, rfl⟩
    replace H : (some (strOfNums y113)) = some r := by first | (rw [hy113]; with_reducible exact H) | (have H2_ := (Option.bind_some _ _).symm.trans H; rw [hy113]; with_reducible exact H2_) | (have H2_ := (Option.bind_some _ _).symm.trans H; with_reducible exact H2_) | with_reducible exact H | (rw [hy113]; exact H) | exact H
    have Ny113 := Aside0.mk hy113
    clear hy113
    obtain rfl := Option.some.inj H
    go_enter Tryz.func104, Tryz.ntmps104
    go_wp2_with (first | ((with_reducible refine gate_dst (N := 7) rfl ?_); refine Kd.R_lit (Kd.int .u8) _ 5 ?hg (N := 7) ?hd (xs := ([(a0) % 256] : List Int)) (inner := [.int .u8 ((a0) % 256)]) (ok := fun _ => True) (okp := fun _ => True) ?hr ?hp (fun _ hk => hk) trivial (Below.refl _ _) (Nat.le_refl _) (by simp) ?_; (case hd => rfl); (case hg => rfl); (case hr => first | (go_simp; done) | (go_simp; rfl)); (case hp => exact (Reps.one (show Kd.M (Kd.int .u8) _ _ _ ((a0) % 256) [.int .u8 ((a0) % 256)] from rfl) (Reps.none _ _))); intro v114 w3 ho4 hb hg_ hnew_; clear hg_ hnew_; (first | rw [← Ny113.out] at ho4 | (simp only [Int.reduceToNat] at ho4; rw [← Ny113.out] at ho4)); have n0_ := Aside0.mk (Kd.R_lower ho4 (below_size (by repeat (first | (with_reducible first | exact HB.out | apply below_alloc | apply pw_below_drewN | apply below_drew1) | exact HB.out)))); have n1_ := Aside0.mk (below_step (by repeat (first | (with_reducible first | exact HB.out | apply below_alloc | apply pw_below_drewN | apply below_drew1) | exact HB.out)) hb); clear HB; have HO115 := n0_; have HB := n1_; clear n0_ n1_; clear hb ho4; have hcv5 := own_string (P := Tryz.prog) Tryz.underlying28 Tryz.underlying5 Tryz.underlying9 (Kd.own_of_R HO115.out)))
    go_ret
    exact ⟨by first | rfl | (simp [errW_none, errW_some] <;> rfl) | (simp [*, errW_none, errW_some] <;> rfl), by repeat (first | (with_reducible first | exact HB.out | apply below_alloc | apply pw_below_drewN | apply below_drew1) | exact HB.out)⟩
  · rw [if_neg c2] at H
    have c2b0 : decide (a0 < 128) = false := decide_eq_false c2
    clear c2
    by_cases c6 : a0 < 2048
    · rw [if_pos c6] at H
      have c6b0 : decide (a0 < 2048) = true := decide_eq_true c6
      clear c6
      obtain ⟨y116, hy116⟩ : ∃ y_ : List Int, y_ = (([(wrap64 (192 + (wrap64 (Int.tdiv a0 64)))) % 256, (wrap64 (128 + (Int.tmod a0 64))) % 256] : List Int)) := ⟨_, rfl⟩
      replace H : (some (strOfNums y116)) = some r := by first | (rw [hy116]; with_reducible exact H) | (have H2_ := (Option.bind_some _ _).symm.trans H; rw [hy116]; with_reducible exact H2_) | (have H2_ := (Option.bind_some _ _).symm.trans H; with_reducible exact H2_) | with_reducible exact H | (rw [hy116]; exact H) | exact H
      have Ny116 := Aside0.mk hy116
      clear hy116
      obtain rfl := Option.some.inj H
      go_enter Tryz.func104, Tryz.ntmps104
      go_wp2_with (first | ((with_reducible refine gate_dst (N := 19) rfl ?_); refine Kd.R_lit (Kd.int .u8) _ 5 ?hg (N := 19) ?hd (xs := ([(wrap64 (192 + (wrap64 (Int.tdiv a0 64)))) % 256, (wrap64 (128 + (Int.tmod a0 64))) % 256] : List Int)) (inner := [.int .u8 ((wrap64 (192 + (wrap64 (Int.tdiv a0 64)))) % 256), .int .u8 ((wrap64 (128 + (Int.tmod a0 64))) % 256)]) (ok := fun _ => True) (okp := fun _ => True) ?hr ?hp (fun _ hk => hk) trivial (Below.refl _ _) (Nat.le_refl _) (by simp) ?_; (case hd => rfl); (case hg => rfl); (case hr => first | (go_simp; done) | (go_simp; rfl)); (case hp => exact (Reps.one (show Kd.M (Kd.int .u8) _ _ _ ((wrap64 (192 + (wrap64 (Int.tdiv a0 64)))) % 256) [.int .u8 ((wrap64 (192 + (wrap64 (Int.tdiv a0 64)))) % 256)] from rfl) (Reps.one (show Kd.M (Kd.int .u8) _ _ _ ((wrap64 (128 + (Int.tmod a0 64))) % 256) [.int .u8 ((wrap64 (128 + (Int.tmod a0 64))) % 256)] from rfl) (Reps.none _ _)))); intro v117 w7 ho8 hb hg_ hnew_; clear hg_ hnew_; (first | rw [← Ny116.out] at ho8 | (simp only [Int.reduceToNat] at ho8; rw [← Ny116.out] at ho8)); have n0_ := Aside0.mk (Kd.R_lower ho8 (below_size (by repeat (first | (with_reducible first | exact HB.out | apply below_alloc | apply pw_below_drewN | apply below_drew1) | exact HB.out)))); have n1_ := Aside0.mk (below_step (by repeat (first | (with_reducible first | exact HB.out | apply below_alloc | apply pw_below_drewN | apply below_drew1) | exact HB.out)) hb); clear HB; have HO118 := n0_; have HB := n1_; clear n0_ n1_; clear hb ho8; have hcv9 := own_string (P := Tryz.prog) Tryz.underlying28 Tryz.underlying5 Tryz.underlying9 (Kd.own_of_R HO118.out)))
      go_ret
      exact ⟨by first | rfl | (simp [errW_none, errW_some] <;> rfl) | (simp [*, errW_none, errW_some] <;> rfl), by repeat (first | (with_reducible first | exact HB.out | apply below_alloc | apply pw_below_drewN | apply below_drew1) | exact HB.out)⟩
    · rw [if_neg c6] at H
      have c6b0 : decide (a0 < 2048) = false := decide_eq_false c6
      clear c6
      by_cases c10 : a0 < 65536
      · rw [if_pos c10] at H
        have c10b0 : decide (a0 < 65536) = true := decide_eq_true c10
        clear c10
        obtain ⟨y119, hy119⟩ : ∃ y_ : List Int, y_ = (([(wrap64 (224 + (wrap64 (Int.tdiv a0 4096)))) % 256, (wrap64 (128 + (Int.tmod (wrap64 (Int.tdiv a0 64)) 64))) % 256, (wrap64 (128 + (Int.tmod a0 64))) % 256] : List Int)) := ⟨_, rfl⟩
        replace H : (some (strOfNums y119)) = some r := by first | (rw [hy119]; with_reducible exact H) | (have H2_ := (Option.bind_some _ _).symm.trans H; rw [hy119]; with_reducible exact H2_) | (have H2_ := (Option.bind_some _ _).symm.trans H; with_reducible exact H2_) | with_reducible exact H | (rw [hy119]; exact H) | exact H
        have Ny119 := Aside0.mk hy119
        clear hy119
        obtain rfl := Option.some.inj H
        go_enter Tryz.func104, Tryz.ntmps104
        go_wp2_with (first | ((with_reducible refine gate_dst (N := 36) rfl ?_); refine Kd.R_lit (Kd.int .u8) _ 5 ?hg (N := 36) ?hd (xs := ([(wrap64 (224 + (wrap64 (Int.tdiv a0 4096)))) % 256, (wrap64 (128 + (Int.tmod (wrap64 (Int.tdiv a0 64)) 64))) % 256, (wrap64 (128 + (Int.tmod a0 64))) % 256] : List Int)) (inner := [.int .u8 ((wrap64 (224 + (wrap64 (Int.tdiv a0 4096)))) % 256), .int .u8 ((wrap64 (128 + (Int.tmod (wrap64 (Int.tdiv a0 64)) 64))) % 256), .int .u8 ((wrap64 (128 + (Int.tmod a0 64))) % 256)]) (ok := fun _ => True) (okp := fun _ => True) ?hr ?hp (fun _ hk => hk) trivial (Below.refl _ _) (Nat.le_refl _) (by simp) ?_; (case hd => rfl); (case hg => rfl); (case hr => first | (go_simp; done) | (go_simp; rfl)); (case hp => exact (Reps.one (show Kd.M (Kd.int .u8) _ _ _ ((wrap64 (224 + (wrap64 (Int.tdiv a0 4096)))) % 256) [.int .u8 ((wrap64 (224 + (wrap64 (Int.tdiv a0 4096)))) % 256)] from rfl) (Reps.one (show Kd.M (Kd.int .u8) _ _ _ ((wrap64 (128 + (Int.tmod (wrap64 (Int.tdiv a0 64)) 64))) % 256) [.int .u8 ((wrap64 (128 + (Int.tmod (wrap64 (Int.tdiv a0 64)) 64))) % 256)] from rfl) (Reps.one (show Kd.M (Kd.int .u8) _ _ _ ((wrap64 (128 + (Int.tmod a0 64))) % 256) [.int .u8 ((wrap64 (128 + (Int.tmod a0 64))) % 256)] from rfl) (Reps.none _ _))))); intro v120 w11 ho12 hb hg_ hnew_; clear hg_ hnew_; (first | rw [← Ny119.out] at ho12 | (simp only [Int.reduceToNat] at ho12; rw [← Ny119.out] at ho12)); have n0_ := Aside0.mk (Kd.R_lower ho12 (below_size (by repeat (first | (with_reducible first | exact HB.out | apply below_alloc | apply pw_below_drewN | apply below_drew1) | exact HB.out)))); have n1_ := Aside0.mk (below_step (by repeat (first | (with_reducible first | exact HB.out | apply below_alloc | apply pw_below_drewN | apply below_drew1) | exact HB.out)) hb); clear HB; have HO121 := n0_; have HB := n1_; clear n0_ n1_; clear hb ho12; have hcv13 := own_string (P := Tryz.prog) Tryz.underlying28 Tryz.underlying5 Tryz.underlying9 (Kd.own_of_R HO121.out)))
        go_ret
        exact ⟨by first | rfl | (simp [errW_none, errW_some] <;> rfl) | (simp [*, errW_none, errW_some] <;> rfl), by repeat (first | (with_reducible first | exact HB.out | apply below_alloc | apply pw_below_drewN | apply below_drew1) | exact HB.out)⟩
      · rw [if_neg c10] at H
        have c10b0 : decide (a0 < 65536) = false := decide_eq_false c10
        clear c10
        obtain ⟨y122, hy122⟩ : ∃ y_ : List Int, y_ = (([(wrap64 (240 + (wrap64 (Int.tdiv a0 262144)))) % 256, (wrap64 (128 + (Int.tmod (wrap64 (Int.tdiv a0 4096)) 64))) % 256, (wrap64 (128 + (Int.tmod (wrap64 (Int.tdiv a0 64)) 64))) % 256, (wrap64 (128 + (Int.tmod a0 64))) % 256] : List Int)) := ⟨_, rfl⟩
        replace H : (some (strOfNums y122)) = some r := by first | (rw [hy122]; with_reducible exact H) | (have H2_ := (Option.bind_some _ _).symm.trans H; rw [hy122]; with_reducible exact H2_) | (have H2_ := (Option.bind_some _ _).symm.trans H; with_reducible exact H2_) | with_reducible exact H | (rw [hy122]; exact H) | exact H
        have Ny122 := Aside0.mk hy122
        clear hy122
        obtain rfl := Option.some.inj H
        go_enter Tryz.func104, Tryz.ntmps104
        go_wp2_with (first | ((with_reducible refine gate_dst (N := 56) rfl ?_); refine Kd.R_lit (Kd.int .u8) _ 5 ?hg (N := 56) ?hd (xs := ([(wrap64 (240 + (wrap64 (Int.tdiv a0 262144)))) % 256, (wrap64 (128 + (Int.tmod (wrap64 (Int.tdiv a0 4096)) 64))) % 256, (wrap64 (128 + (Int.tmod (wrap64 (Int.tdiv a0 64)) 64))) % 256, (wrap64 (128 + (Int.tmod a0 64))) % 256] : List Int)) (inner := [.int .u8 ((wrap64 (240 + (wrap64 (Int.tdiv a0 262144)))) % 256), .int .u8 ((wrap64 (128 + (Int.tmod (wrap64 (Int.tdiv a0 4096)) 64))) % 256), .int .u8 ((wrap64 (128 + (Int.tmod (wrap64 (Int.tdiv a0 64)) 64))) % 256), .int .u8 ((wrap64 (128 + (Int.tmod a0 64))) % 256)]) (ok := fun _ => True) (okp := fun _ => True) ?hr ?hp (fun _ hk => hk) trivial (Below.refl _ _) (Nat.le_refl _) (by simp) ?_; (case hd => rfl); (case hg => rfl); (case hr => first | (go_simp; done) | (go_simp; rfl)); (case hp => exact (Reps.one (show Kd.M (Kd.int .u8) _ _ _ ((wrap64 (240 + (wrap64 (Int.tdiv a0 262144)))) % 256) [.int .u8 ((wrap64 (240 + (wrap64 (Int.tdiv a0 262144)))) % 256)] from rfl) (Reps.one (show Kd.M (Kd.int .u8) _ _ _ ((wrap64 (128 + (Int.tmod (wrap64 (Int.tdiv a0 4096)) 64))) % 256) [.int .u8 ((wrap64 (128 + (Int.tmod (wrap64 (Int.tdiv a0 4096)) 64))) % 256)] from rfl) (Reps.one (show Kd.M (Kd.int .u8) _ _ _ ((wrap64 (128 + (Int.tmod (wrap64 (Int.tdiv a0 64)) 64))) % 256) [.int .u8 ((wrap64 (128 + (Int.tmod (wrap64 (Int.tdiv a0 64)) 64))) % 256)] from rfl) (Reps.one (show Kd.M (Kd.int .u8) _ _ _ ((wrap64 (128 + (Int.tmod a0 64))) % 256) [.int .u8 ((wrap64 (128 + (Int.tmod a0 64))) % 256)] from rfl) (Reps.none _ _)))))); intro v123 w14 ho15 hb hg_ hnew_; clear hg_ hnew_; (first | rw [← Ny122.out] at ho15 | (simp only [Int.reduceToNat] at ho15; rw [← Ny122.out] at ho15)); have n0_ := Aside0.mk (Kd.R_lower ho15 (below_size (by repeat (first | (with_reducible first | exact HB.out | apply below_alloc | apply pw_below_drewN | apply below_drew1) | exact HB.out)))); have n1_ := Aside0.mk (below_step (by repeat (first | (with_reducible first | exact HB.out | apply below_alloc | apply pw_below_drewN | apply below_drew1) | exact HB.out)) hb); clear HB; have HO124 := n0_; have HB := n1_; clear n0_ n1_; clear hb ho15; have hcv16 := own_string (P := Tryz.prog) Tryz.underlying28 Tryz.underlying5 Tryz.underlying9 (Kd.own_of_R HO124.out)))
        go_ret
        exact ⟨by first | rfl | (simp [errW_none, errW_some] <;> rfl) | (simp [*, errW_none, errW_some] <;> rfl), by repeat (first | (with_reducible first | exact HB.out | apply below_alloc | apply pw_below_drewN | apply below_drew1) | exact HB.out)⟩

/-! ### scriptoriumref01_in: function 133 -/
def scriptoriumref01_in.f (a0 : Int) (a1 : Int) (a2 : Int) : Option (Bool) := if a0 ≥ a1 then (some (decide (a0 ≤ a2))) else (some false)
set_option maxHeartbeats 8000000 in
set_option maxRecDepth 100000 in
theorem scriptoriumref01_in.calls (a0 : Int) (a1 : Int) (a2 : Int) (r : Bool) (w : World) (hG : GW w) (h : scriptoriumref01_in.f a0 a1 a2 = some r) :
    Calls Tryz.prog 133 #[.int .i64 a0, .int .i64 a1, .int .i64 a2] w fun e w' => e = .returned (.bool r) ∧ Drawn0 w w' := by
  have HG := Aside0.mk hG
  clear hG
  have H : (if a0 ≥ a1 then (some (decide (a0 ≤ a2))) else (some false)) = some r := h
  clear h
  by_cases c4 : a0 ≥ a1
  · rw [if_pos c4] at H
    have c4b0 : decide (a1 ≤ a0) = true := decide_eq_true c4
    clear c4
    obtain rfl := Option.some.inj H
    go_enter Tryz.func133, Tryz.ntmps133
    go_wp2
    go_ret
    exact ⟨by first | rfl | (simp; done) | (simp [*]; done), by repeat (first | exact Drawn0.refl _ | apply Drawn0.step)⟩
  · rw [if_neg c4] at H
    have c4b0 : decide (a1 ≤ a0) = false := decide_eq_false c4
    clear c4
    obtain rfl := Option.some.inj H
    go_enter Tryz.func133, Tryz.ntmps133
    go_wp2
    go_ret
    exact ⟨by first | rfl | (simp; done) | (simp [*]; done), by repeat (first | exact Drawn0.refl _ | apply Drawn0.step)⟩

/-! ### scriptoriumref01_small: function 89 -/
mutual
def scriptoriumref01_small.j0 : Nat → Int → Bool → Option (ByteArray)
  | 0, _, _ => none
  | k + 1, x0, x3 => if x3 = true then (some (⟨#[115, 115]⟩ : ByteArray)) else ((scriptoriumref01_in.f x0 65 90).bind fun t125 => (if t125 = true then (scriptoriumref01_small.j1 k x0 true) else ((scriptoriumref01_in.f x0 192 222).bind fun t126 => (if t126 = true then (if x0 = 215 then ((scriptoriumref01_in.f x0 913 937).bind fun t127 => (if t127 = true then (scriptoriumref01_small.j1 k x0 true) else ((scriptoriumref01_in.f x0 1040 1071).bind fun t128 => (scriptoriumref01_small.j1 k x0 t128)))) else (scriptoriumref01_small.j1 k x0 true)) else ((scriptoriumref01_in.f x0 913 937).bind fun t129 => (if t129 = true then (scriptoriumref01_small.j1 k x0 true) else ((scriptoriumref01_in.f x0 1040 1071).bind fun t130 => (scriptoriumref01_small.j1 k x0 t130))))))))
def scriptoriumref01_small.j1 : Nat → Int → Bool → Option (ByteArray)
  | 0, _, _ => none
  | k + 1, x0, x10 => if x10 = true then ((scriptoriumref01_Put.f (wrap64 (x0 + 32))).bind fun t131 => (some t131)) else ((scriptoriumref01_in.f x0 1024 1039).bind fun t132 => (if t132 = true then ((scriptoriumref01_Put.f (wrap64 (x0 + 80))).bind fun t133 => (some t133)) else ((scriptoriumref01_Put.f x0).bind fun t134 => (some t134))))
end
def scriptoriumref01_small.f (k : Nat) (a0 : Int) : Option (ByteArray) := if a0 = 223 then (scriptoriumref01_small.j0 k a0 true) else (scriptoriumref01_small.j0 k a0 (a0 == 7838))
theorem scriptoriumref01_small.mono_l : ∀ k, (∀ y0 y1, LeO (scriptoriumref01_small.j0 k y0 y1) (scriptoriumref01_small.j0 (k + 1) y0 y1)) ∧ (∀ y0 y1, LeO (scriptoriumref01_small.j1 k y0 y1) (scriptoriumref01_small.j1 (k + 1) y0 y1))
  | 0 => ⟨fun _ _ r h => by simp [scriptoriumref01_small.j0] at h, fun _ _ r h => by simp [scriptoriumref01_small.j1] at h⟩
  | k + 1 => by
    obtain ⟨ih0, ih1⟩ := scriptoriumref01_small.mono_l k
    refine ⟨?_, ?_⟩
    · intro y0 y1
      unfold scriptoriumref01_small.j0
      repeat' first
      | (with_reducible exact ih0 _ _)
      | (with_reducible exact ih1 _ _)
      | (with_reducible exact LeO.refl _)
      | (with_reducible exact LeO.none _)
      | (with_reducible refine LeO.ite ?_ ?_)
      | (with_reducible refine LeO.bind ?_ (fun _ => ?_))
      | exact ih0 _ _
      | exact ih1 _ _
      | exact LeO.none _
      | refine LeO.ite ?_ ?_
      | refine LeO.bind ?_ (fun _ => ?_)
    · intro y0 y1
      unfold scriptoriumref01_small.j1
      repeat' first
      | (with_reducible exact ih0 _ _)
      | (with_reducible exact ih1 _ _)
      | (with_reducible exact LeO.refl _)
      | (with_reducible exact LeO.none _)
      | (with_reducible refine LeO.ite ?_ ?_)
      | (with_reducible refine LeO.bind ?_ (fun _ => ?_))
      | exact ih0 _ _
      | exact ih1 _ _
      | exact LeO.none _
      | refine LeO.ite ?_ ?_
      | refine LeO.bind ?_ (fun _ => ?_)
theorem scriptoriumref01_small.mono : ∀ a0 k, LeO (scriptoriumref01_small.f k a0) (scriptoriumref01_small.f (k + 1) a0) := by
  intro a0 k
  obtain ⟨ih0, ih1⟩ := scriptoriumref01_small.mono_l k
  unfold scriptoriumref01_small.f
  repeat' first
      | (with_reducible exact ih0 _ _)
      | (with_reducible exact ih1 _ _)
      | (with_reducible exact LeO.refl _)
      | (with_reducible exact LeO.none _)
      | (with_reducible refine LeO.ite ?_ ?_)
      | (with_reducible refine LeO.bind ?_ (fun _ => ?_))
      | exact ih0 _ _
      | exact ih1 _ _
      | exact LeO.none _
      | refine LeO.ite ?_ ?_
      | refine LeO.bind ?_ (fun _ => ?_)
set_option maxHeartbeats 8000000 in
set_option maxRecDepth 100000 in
theorem scriptoriumref01_small.calls (k : Nat) (a0 : Int) (r : ByteArray) (w : World) (hG : GW w) (h : scriptoriumref01_small.f k a0 = some r) :
    Calls Tryz.prog 89 #[.int .i64 a0] w fun e w' => e = .returned (.string r) ∧ Below w.heap.size w w' := by
  have HB := Aside0.mk (Below.refl w.heap.size w)
  have HG := Aside0.mk hG
  clear hG
  have H : (if a0 = 223 then (scriptoriumref01_small.j0 k a0 true) else (scriptoriumref01_small.j0 k a0 (a0 == 7838))) = some r := h
  clear h
  have HC2 := Aside0.mk H
  clear H
  go_enter Tryz.func89, Tryz.ntmps89
  go_upto_region 1 with (fail)
  go_cut [3] (fun v3 wc => ∃ (kq : Nat) (x3_1 : Bool), v3 = .bool x3_1 ∧ Aside0 (scriptoriumref01_small.j0 kq a0 x3_1 = some r) ∧ Aside0 (kq ≤ k) ∧ Aside0 (Below w.heap.size w wc))
  case first =>
    have H := HC2.out
    clear HC2
    by_cases c3 : a0 = 223
    · rw [if_pos c3] at H
      have c3b0 : (a0 == 223) = true := beq_iff_eq.mpr c3
      have c3b1 : (a0 != 223) = false := bne_eq_false_iff_eq.mpr c3
      clear c3
      (first | rw [c3b0] | (simp only [i64_w, i32_w]; rw [c3b0]) | skip)
      have H' := Aside0.mk H
      clear H
      go_wp2
      go_meet
      case rel => exact ⟨_, (true), (by first | rfl | (simp; done) | (simp [*]; done)), H', ⟨by first | omega | exact Nat.le_refl _⟩, ⟨by repeat (first | (with_reducible first | exact HB.out | apply below_alloc | apply pw_below_drewN | apply below_drew1) | exact HB.out)⟩⟩
    · rw [if_neg c3] at H
      have c3b0 : (a0 == 223) = false := beq_eq_false_iff_ne.mpr c3
      have c3b1 : (a0 != 223) = true := bne_iff_ne.mpr c3
      (first | rw [c3b0] | (simp only [i64_w, i32_w]; rw [c3b0]) | skip)
      have H' := Aside0.mk H
      clear H
      go_wp2
      go_meet
      case rel => exact ⟨_, ((a0 == 7838)), (by first | rfl | (simp; done) | (simp [*]; done)), H', ⟨by first | omega | exact Nat.le_refl _⟩, ⟨by repeat (first | (with_reducible first | exact HB.out | apply below_alloc | apply pw_below_drewN | apply below_drew1) | exact HB.out)⟩⟩
  case rest =>
    clear HC2
    try clear p2
    try clear c3
    try clear c3b0
    try clear c3b1
    obtain ⟨kq, x3_1, rfl, HA, HJ1, HB⟩ := hcut
    cases kq with
    | zero => exact absurd HA.out (by simp [scriptoriumref01_small.j0])
    | succ kj1 =>
      have H := HA.out
      clear HA
      simp only [scriptoriumref01_small.j0] at H
      by_cases c4 : x3_1 = true
      · subst c4
        have H1 : (some (⟨#[115, 115]⟩ : ByteArray)) = some r := by rw [if_pos rfl] at H; exact H
        clear H
        have H := H1
        clear H1
        obtain rfl := Option.some.inj H
        go_wp2
        go_ret
        exact ⟨by first | rfl | (simp [errW_none, errW_some] <;> rfl) | (simp [*, errW_none, errW_some] <;> rfl), by repeat (first | (with_reducible first | exact HB.out | apply below_alloc | apply pw_below_drewN | apply below_drew1) | exact HB.out)⟩
      · replace c4 := Bool.eq_false_iff.mpr c4
        subst c4
        have H1 : ((scriptoriumref01_in.f a0 65 90).bind fun t125 => (if t125 = true then (scriptoriumref01_small.j1 kj1 a0 true) else ((scriptoriumref01_in.f a0 192 222).bind fun t126 => (if t126 = true then (if a0 = 215 then ((scriptoriumref01_in.f a0 913 937).bind fun t127 => (if t127 = true then (scriptoriumref01_small.j1 kj1 a0 true) else ((scriptoriumref01_in.f a0 1040 1071).bind fun t128 => (scriptoriumref01_small.j1 kj1 a0 t128)))) else (scriptoriumref01_small.j1 kj1 a0 true)) else ((scriptoriumref01_in.f a0 913 937).bind fun t129 => (if t129 = true then (scriptoriumref01_small.j1 kj1 a0 true) else ((scriptoriumref01_in.f a0 1040 1071).bind fun t130 => (scriptoriumref01_small.j1 kj1 a0 t130)))))))) = some r := by rw [if_neg (show ¬ (false = true) by decide)] at H; exact H
        clear H
        have H := H1
        clear H1
        have HC5 := Aside0.mk H
        clear H
        go_upto_region 3 with (fail)
        go_cut [10] (fun v10 wc => ∃ (kq : Nat) (x10_4 : Bool), v10 = .bool x10_4 ∧ Aside0 (scriptoriumref01_small.j1 kq a0 x10_4 = some r) ∧ Aside0 (kq ≤ kj1) ∧ Aside0 (Below w.heap.size w wc))
        case first =>
          have H := HC5.out
          clear HC5
          replace H := Option.bind_eq_some_iff.mp H
          obtain ⟨t125, A60, H⟩ := H
          replace H : (if t125 = true then (scriptoriumref01_small.j1 kj1 a0 true) else ((scriptoriumref01_in.f a0 192 222).bind fun t126 => (if t126 = true then (if a0 = 215 then ((scriptoriumref01_in.f a0 913 937).bind fun t127 => (if t127 = true then (scriptoriumref01_small.j1 kj1 a0 true) else ((scriptoriumref01_in.f a0 1040 1071).bind fun t128 => (scriptoriumref01_small.j1 kj1 a0 t128)))) else (scriptoriumref01_small.j1 kj1 a0 true)) else ((scriptoriumref01_in.f a0 913 937).bind fun t129 => (if t129 = true then (scriptoriumref01_small.j1 kj1 a0 true) else ((scriptoriumref01_in.f a0 1040 1071).bind fun t130 => (scriptoriumref01_small.j1 kj1 a0 t130))))))) = some r := H
          have A6 := Aside0.mk A60
          clear A60
          by_cases c7 : t125 = true
          · subst c7
            have H1 : (scriptoriumref01_small.j1 kj1 a0 true) = some r := by rw [if_pos rfl] at H; exact H
            clear H
            have H := H1
            clear H1
            have H' := Aside0.mk H
            clear H
            go_wp2_with (first | ((with_reducible refine gate_callee (f := 133) rfl ?_); refine goesL_ (some 12) rfl rfl Tryz.func133 (by kernel_rfl) rfl #[.int .i64 a0, .int .i64 65, .int .i64 90] rfl (by (try simp only [List.map_toArray, List.map_cons, List.map_nil]); first | done | rfl | (simp only [List.length_drop, List.length_take]; rfl)) ?_; (with_reducible refine (scriptoriumref01_in.calls a0 65 90 true _ ?side1 A6.out).mono ?_); (case side1 => (first | (with_reducible first | exact HG.out | exact GW.drewN HG.out _ | exact GW.drewN (GW.drewN HG.out _) _) | exact GW.below HG.out (by repeat (first | (with_reducible first | exact HB.out | apply below_alloc | apply pw_below_drewN | apply below_drew1) | exact HB.out)))); rintro e w' ⟨rfl, ⟨nd, rfl⟩⟩; refine ⟨_, rfl, ?_⟩))
            go_meet
            case rel => exact ⟨_, (true), (by first | rfl | (simp; done) | (simp [*]; done)), H', ⟨by have := HJ1.out; first | omega | exact Nat.le_refl _⟩, ⟨by repeat (first | (with_reducible first | exact HB.out | apply below_alloc | apply pw_below_drewN | apply below_drew1) | exact HB.out)⟩⟩
          · replace c7 := Bool.eq_false_iff.mpr c7
            subst c7
            have H1 : ((scriptoriumref01_in.f a0 192 222).bind fun t126 => (if t126 = true then (if a0 = 215 then ((scriptoriumref01_in.f a0 913 937).bind fun t127 => (if t127 = true then (scriptoriumref01_small.j1 kj1 a0 true) else ((scriptoriumref01_in.f a0 1040 1071).bind fun t128 => (scriptoriumref01_small.j1 kj1 a0 t128)))) else (scriptoriumref01_small.j1 kj1 a0 true)) else ((scriptoriumref01_in.f a0 913 937).bind fun t129 => (if t129 = true then (scriptoriumref01_small.j1 kj1 a0 true) else ((scriptoriumref01_in.f a0 1040 1071).bind fun t130 => (scriptoriumref01_small.j1 kj1 a0 t130)))))) = some r := by rw [if_neg (show ¬ (false = true) by decide)] at H; exact H
            clear H
            have H := H1
            clear H1
            replace H := Option.bind_eq_some_iff.mp H
            obtain ⟨t126, A80, H⟩ := H
            replace H : (if t126 = true then (if a0 = 215 then ((scriptoriumref01_in.f a0 913 937).bind fun t127 => (if t127 = true then (scriptoriumref01_small.j1 kj1 a0 true) else ((scriptoriumref01_in.f a0 1040 1071).bind fun t128 => (scriptoriumref01_small.j1 kj1 a0 t128)))) else (scriptoriumref01_small.j1 kj1 a0 true)) else ((scriptoriumref01_in.f a0 913 937).bind fun t129 => (if t129 = true then (scriptoriumref01_small.j1 kj1 a0 true) else ((scriptoriumref01_in.f a0 1040 1071).bind fun t130 => (scriptoriumref01_small.j1 kj1 a0 t130))))) = some r := H
            have A8 := Aside0.mk A80
            clear A80
            by_cases c9 : t126 = true
            · subst c9
              have H1 : (if a0 = 215 then ((scriptoriumref01_in.f a0 913 937).bind fun t127 => (if t127 = true then (scriptoriumref01_small.j1 kj1 a0 true) else ((scriptoriumref01_in.f a0 1040 1071).bind fun t128 => (scriptoriumref01_small.j1 kj1 a0 t128)))) else (scriptoriumref01_small.j1 kj1 a0 true)) = some r := by rw [if_pos rfl] at H; exact H
              clear H
              have H := H1
              clear H1
              by_cases c10 : a0 = 215
              · rw [if_pos c10] at H
                have c10b0 : (a0 == 215) = true := beq_iff_eq.mpr c10
                have c10b1 : (a0 != 215) = false := bne_eq_false_iff_eq.mpr c10
                clear c10
                (first | rw [c10b0] | (simp only [i64_w, i32_w]; rw [c10b0]) | skip)
                replace H := Option.bind_eq_some_iff.mp H
                obtain ⟨t127, A110, H⟩ := H
                replace H : (if t127 = true then (scriptoriumref01_small.j1 kj1 a0 true) else ((scriptoriumref01_in.f a0 1040 1071).bind fun t128 => (scriptoriumref01_small.j1 kj1 a0 t128))) = some r := H
                have A11 := Aside0.mk A110
                clear A110
                by_cases c12 : t127 = true
                · subst c12
                  have H1 : (scriptoriumref01_small.j1 kj1 a0 true) = some r := by rw [if_pos rfl] at H; exact H
                  clear H
                  have H := H1
                  clear H1
                  have H' := Aside0.mk H
                  clear H
                  go_wp2_with (first | ((with_reducible refine gate_callee (f := 133) rfl ?_); refine goesL_ (some 12) rfl rfl Tryz.func133 (by kernel_rfl) rfl #[.int .i64 a0, .int .i64 65, .int .i64 90] rfl (by (try simp only [List.map_toArray, List.map_cons, List.map_nil]); first | done | rfl | (simp only [List.length_drop, List.length_take]; rfl)) ?_; (with_reducible refine (scriptoriumref01_in.calls a0 65 90 false _ ?side1 A6.out).mono ?_); (case side1 => (first | (with_reducible first | exact HG.out | exact GW.drewN HG.out _ | exact GW.drewN (GW.drewN HG.out _) _) | exact GW.below HG.out (by repeat (first | (with_reducible first | exact HB.out | apply below_alloc | apply pw_below_drewN | apply below_drew1) | exact HB.out)))); rintro e w' ⟨rfl, ⟨nd, rfl⟩⟩; refine ⟨_, rfl, ?_⟩) | (go_at_call 133; (with_reducible refine (scriptoriumref01_in.calls a0 192 222 true _ ?side1 A8.out).mono ?_); (case side1 => (first | (with_reducible first | exact HG.out | exact GW.drewN HG.out _ | exact GW.drewN (GW.drewN HG.out _) _) | exact GW.below HG.out (by repeat (first | (with_reducible first | exact HB.out | apply below_alloc | apply pw_below_drewN | apply below_drew1) | exact HB.out)))); rintro e w' ⟨rfl, ⟨nd, rfl⟩⟩) | (go_at_call 133; (with_reducible refine (scriptoriumref01_in.calls a0 913 937 true _ ?side1 A11.out).mono ?_); (case side1 => (first | (with_reducible first | exact HG.out | exact GW.drewN HG.out _ | exact GW.drewN (GW.drewN HG.out _) _) | exact GW.below HG.out (by repeat (first | (with_reducible first | exact HB.out | apply below_alloc | apply pw_below_drewN | apply below_drew1) | exact HB.out)))); rintro e w' ⟨rfl, ⟨nd, rfl⟩⟩))
                  go_meet
                  case rel => exact ⟨_, (true), (by first | rfl | (simp; done) | (simp [*]; done)), H', ⟨by have := HJ1.out; first | omega | exact Nat.le_refl _⟩, ⟨by repeat (first | (with_reducible first | exact HB.out | apply below_alloc | apply pw_below_drewN | apply below_drew1) | exact HB.out)⟩⟩
                · replace c12 := Bool.eq_false_iff.mpr c12
                  subst c12
                  have H1 : ((scriptoriumref01_in.f a0 1040 1071).bind fun t128 => (scriptoriumref01_small.j1 kj1 a0 t128)) = some r := by rw [if_neg (show ¬ (false = true) by decide)] at H; exact H
                  clear H
                  have H := H1
                  clear H1
                  replace H := Option.bind_eq_some_iff.mp H
                  obtain ⟨t128, A130, H⟩ := H
                  replace H : (scriptoriumref01_small.j1 kj1 a0 t128) = some r := H
                  have A13 := Aside0.mk A130
                  clear A130
                  have H' := Aside0.mk H
                  clear H
                  go_wp2_with (first | ((with_reducible refine gate_callee (f := 133) rfl ?_); refine goesL_ (some 12) rfl rfl Tryz.func133 (by kernel_rfl) rfl #[.int .i64 a0, .int .i64 65, .int .i64 90] rfl (by (try simp only [List.map_toArray, List.map_cons, List.map_nil]); first | done | rfl | (simp only [List.length_drop, List.length_take]; rfl)) ?_; (with_reducible refine (scriptoriumref01_in.calls a0 65 90 false _ ?side1 A6.out).mono ?_); (case side1 => (first | (with_reducible first | exact HG.out | exact GW.drewN HG.out _ | exact GW.drewN (GW.drewN HG.out _) _) | exact GW.below HG.out (by repeat (first | (with_reducible first | exact HB.out | apply below_alloc | apply pw_below_drewN | apply below_drew1) | exact HB.out)))); rintro e w' ⟨rfl, ⟨nd, rfl⟩⟩; refine ⟨_, rfl, ?_⟩) | (go_at_call 133; (with_reducible refine (scriptoriumref01_in.calls a0 192 222 true _ ?side1 A8.out).mono ?_); (case side1 => (first | (with_reducible first | exact HG.out | exact GW.drewN HG.out _ | exact GW.drewN (GW.drewN HG.out _) _) | exact GW.below HG.out (by repeat (first | (with_reducible first | exact HB.out | apply below_alloc | apply pw_below_drewN | apply below_drew1) | exact HB.out)))); rintro e w' ⟨rfl, ⟨nd, rfl⟩⟩) | (go_at_call 133; (with_reducible refine (scriptoriumref01_in.calls a0 913 937 false _ ?side1 A11.out).mono ?_); (case side1 => (first | (with_reducible first | exact HG.out | exact GW.drewN HG.out _ | exact GW.drewN (GW.drewN HG.out _) _) | exact GW.below HG.out (by repeat (first | (with_reducible first | exact HB.out | apply below_alloc | apply pw_below_drewN | apply below_drew1) | exact HB.out)))); rintro e w' ⟨rfl, ⟨nd, rfl⟩⟩) | (go_at_call 133; (with_reducible refine (scriptoriumref01_in.calls a0 1040 1071 t128 _ ?side1 A13.out).mono ?_); (case side1 => (first | (with_reducible first | exact HG.out | exact GW.drewN HG.out _ | exact GW.drewN (GW.drewN HG.out _) _) | exact GW.below HG.out (by repeat (first | (with_reducible first | exact HB.out | apply below_alloc | apply pw_below_drewN | apply below_drew1) | exact HB.out)))); rintro e w' ⟨rfl, ⟨nd, rfl⟩⟩))
                  go_meet
                  case rel => exact ⟨_, (t128), (by first | rfl | (simp; done) | (simp [*]; done)), H', ⟨by have := HJ1.out; first | omega | exact Nat.le_refl _⟩, ⟨by repeat (first | (with_reducible first | exact HB.out | apply below_alloc | apply pw_below_drewN | apply below_drew1) | exact HB.out)⟩⟩
              · rw [if_neg c10] at H
                have c10b0 : (a0 == 215) = false := beq_eq_false_iff_ne.mpr c10
                have c10b1 : (a0 != 215) = true := bne_iff_ne.mpr c10
                (first | rw [c10b0] | (simp only [i64_w, i32_w]; rw [c10b0]) | skip)
                have H' := Aside0.mk H
                clear H
                go_wp2_with (first | ((with_reducible refine gate_callee (f := 133) rfl ?_); refine goesL_ (some 12) rfl rfl Tryz.func133 (by kernel_rfl) rfl #[.int .i64 a0, .int .i64 65, .int .i64 90] rfl (by (try simp only [List.map_toArray, List.map_cons, List.map_nil]); first | done | rfl | (simp only [List.length_drop, List.length_take]; rfl)) ?_; (with_reducible refine (scriptoriumref01_in.calls a0 65 90 false _ ?side1 A6.out).mono ?_); (case side1 => (first | (with_reducible first | exact HG.out | exact GW.drewN HG.out _ | exact GW.drewN (GW.drewN HG.out _) _) | exact GW.below HG.out (by repeat (first | (with_reducible first | exact HB.out | apply below_alloc | apply pw_below_drewN | apply below_drew1) | exact HB.out)))); rintro e w' ⟨rfl, ⟨nd, rfl⟩⟩; refine ⟨_, rfl, ?_⟩) | (go_at_call 133; (with_reducible refine (scriptoriumref01_in.calls a0 192 222 true _ ?side1 A8.out).mono ?_); (case side1 => (first | (with_reducible first | exact HG.out | exact GW.drewN HG.out _ | exact GW.drewN (GW.drewN HG.out _) _) | exact GW.below HG.out (by repeat (first | (with_reducible first | exact HB.out | apply below_alloc | apply pw_below_drewN | apply below_drew1) | exact HB.out)))); rintro e w' ⟨rfl, ⟨nd, rfl⟩⟩))
                go_meet
                case rel => exact ⟨_, (true), (by first | rfl | (simp; done) | (simp [*]; done)), H', ⟨by have := HJ1.out; first | omega | exact Nat.le_refl _⟩, ⟨by repeat (first | (with_reducible first | exact HB.out | apply below_alloc | apply pw_below_drewN | apply below_drew1) | exact HB.out)⟩⟩
            · replace c9 := Bool.eq_false_iff.mpr c9
              subst c9
              have H1 : ((scriptoriumref01_in.f a0 913 937).bind fun t129 => (if t129 = true then (scriptoriumref01_small.j1 kj1 a0 true) else ((scriptoriumref01_in.f a0 1040 1071).bind fun t130 => (scriptoriumref01_small.j1 kj1 a0 t130)))) = some r := by rw [if_neg (show ¬ (false = true) by decide)] at H; exact H
              clear H
              have H := H1
              clear H1
              replace H := Option.bind_eq_some_iff.mp H
              obtain ⟨t129, A140, H⟩ := H
              replace H : (if t129 = true then (scriptoriumref01_small.j1 kj1 a0 true) else ((scriptoriumref01_in.f a0 1040 1071).bind fun t130 => (scriptoriumref01_small.j1 kj1 a0 t130))) = some r := H
              have A14 := Aside0.mk A140
              clear A140
              by_cases c15 : t129 = true
              · subst c15
                have H1 : (scriptoriumref01_small.j1 kj1 a0 true) = some r := by rw [if_pos rfl] at H; exact H
                clear H
                have H := H1
                clear H1
                have H' := Aside0.mk H
                clear H
                go_wp2_with (first | ((with_reducible refine gate_callee (f := 133) rfl ?_); refine goesL_ (some 12) rfl rfl Tryz.func133 (by kernel_rfl) rfl #[.int .i64 a0, .int .i64 65, .int .i64 90] rfl (by (try simp only [List.map_toArray, List.map_cons, List.map_nil]); first | done | rfl | (simp only [List.length_drop, List.length_take]; rfl)) ?_; (with_reducible refine (scriptoriumref01_in.calls a0 65 90 false _ ?side1 A6.out).mono ?_); (case side1 => (first | (with_reducible first | exact HG.out | exact GW.drewN HG.out _ | exact GW.drewN (GW.drewN HG.out _) _) | exact GW.below HG.out (by repeat (first | (with_reducible first | exact HB.out | apply below_alloc | apply pw_below_drewN | apply below_drew1) | exact HB.out)))); rintro e w' ⟨rfl, ⟨nd, rfl⟩⟩; refine ⟨_, rfl, ?_⟩) | (go_at_call 133; (with_reducible refine (scriptoriumref01_in.calls a0 192 222 false _ ?side1 A8.out).mono ?_); (case side1 => (first | (with_reducible first | exact HG.out | exact GW.drewN HG.out _ | exact GW.drewN (GW.drewN HG.out _) _) | exact GW.below HG.out (by repeat (first | (with_reducible first | exact HB.out | apply below_alloc | apply pw_below_drewN | apply below_drew1) | exact HB.out)))); rintro e w' ⟨rfl, ⟨nd, rfl⟩⟩) | (go_at_call 133; (with_reducible refine (scriptoriumref01_in.calls a0 913 937 true _ ?side1 A14.out).mono ?_); (case side1 => (first | (with_reducible first | exact HG.out | exact GW.drewN HG.out _ | exact GW.drewN (GW.drewN HG.out _) _) | exact GW.below HG.out (by repeat (first | (with_reducible first | exact HB.out | apply below_alloc | apply pw_below_drewN | apply below_drew1) | exact HB.out)))); rintro e w' ⟨rfl, ⟨nd, rfl⟩⟩))
                go_meet
                case rel => exact ⟨_, (true), (by first | rfl | (simp; done) | (simp [*]; done)), H', ⟨by have := HJ1.out; first | omega | exact Nat.le_refl _⟩, ⟨by repeat (first | (with_reducible first | exact HB.out | apply below_alloc | apply pw_below_drewN | apply below_drew1) | exact HB.out)⟩⟩
              · replace c15 := Bool.eq_false_iff.mpr c15
                subst c15
                have H1 : ((scriptoriumref01_in.f a0 1040 1071).bind fun t130 => (scriptoriumref01_small.j1 kj1 a0 t130)) = some r := by rw [if_neg (show ¬ (false = true) by decide)] at H; exact H
                clear H
                have H := H1
                clear H1
                replace H := Option.bind_eq_some_iff.mp H
                obtain ⟨t130, A160, H⟩ := H
                replace H : (scriptoriumref01_small.j1 kj1 a0 t130) = some r := H
                have A16 := Aside0.mk A160
                clear A160
                have H' := Aside0.mk H
                clear H
                go_wp2_with (first | ((with_reducible refine gate_callee (f := 133) rfl ?_); refine goesL_ (some 12) rfl rfl Tryz.func133 (by kernel_rfl) rfl #[.int .i64 a0, .int .i64 65, .int .i64 90] rfl (by (try simp only [List.map_toArray, List.map_cons, List.map_nil]); first | done | rfl | (simp only [List.length_drop, List.length_take]; rfl)) ?_; (with_reducible refine (scriptoriumref01_in.calls a0 65 90 false _ ?side1 A6.out).mono ?_); (case side1 => (first | (with_reducible first | exact HG.out | exact GW.drewN HG.out _ | exact GW.drewN (GW.drewN HG.out _) _) | exact GW.below HG.out (by repeat (first | (with_reducible first | exact HB.out | apply below_alloc | apply pw_below_drewN | apply below_drew1) | exact HB.out)))); rintro e w' ⟨rfl, ⟨nd, rfl⟩⟩; refine ⟨_, rfl, ?_⟩) | (go_at_call 133; (with_reducible refine (scriptoriumref01_in.calls a0 192 222 false _ ?side1 A8.out).mono ?_); (case side1 => (first | (with_reducible first | exact HG.out | exact GW.drewN HG.out _ | exact GW.drewN (GW.drewN HG.out _) _) | exact GW.below HG.out (by repeat (first | (with_reducible first | exact HB.out | apply below_alloc | apply pw_below_drewN | apply below_drew1) | exact HB.out)))); rintro e w' ⟨rfl, ⟨nd, rfl⟩⟩) | (go_at_call 133; (with_reducible refine (scriptoriumref01_in.calls a0 913 937 false _ ?side1 A14.out).mono ?_); (case side1 => (first | (with_reducible first | exact HG.out | exact GW.drewN HG.out _ | exact GW.drewN (GW.drewN HG.out _) _) | exact GW.below HG.out (by repeat (first | (with_reducible first | exact HB.out | apply below_alloc | apply pw_below_drewN | apply below_drew1) | exact HB.out)))); rintro e w' ⟨rfl, ⟨nd, rfl⟩⟩) | (go_at_call 133; (with_reducible refine (scriptoriumref01_in.calls a0 1040 1071 t130 _ ?side1 A16.out).mono ?_); (case side1 => (first | (with_reducible first | exact HG.out | exact GW.drewN HG.out _ | exact GW.drewN (GW.drewN HG.out _) _) | exact GW.below HG.out (by repeat (first | (with_reducible first | exact HB.out | apply below_alloc | apply pw_below_drewN | apply below_drew1) | exact HB.out)))); rintro e w' ⟨rfl, ⟨nd, rfl⟩⟩))
                go_meet
                case rel => exact ⟨_, (t130), (by first | rfl | (simp; done) | (simp [*]; done)), H', ⟨by have := HJ1.out; first | omega | exact Nat.le_refl _⟩, ⟨by repeat (first | (with_reducible first | exact HB.out | apply below_alloc | apply pw_below_drewN | apply below_drew1) | exact HB.out)⟩⟩
        case rest =>
          clear HC5
          try clear c1
          try clear p2
          try clear c3
          try clear c3b0
          try clear c3b1
          try clear c4
          try clear c7
          try clear c8
          try clear c9
          try clear c10
          try clear c10b0
          try clear c10b1
          try clear c12
          try clear c13
          try clear c15
          try clear p2
          obtain ⟨kq, x10_4, rfl, HA, HJ4, HB⟩ := hcut
          cases kq with
          | zero => exact absurd HA.out (by simp [scriptoriumref01_small.j1])
          | succ kj4 =>
            have H := HA.out
            clear HA
            simp only [scriptoriumref01_small.j1] at H
            by_cases c17 : x10_4 = true
            · subst c17
              have H1 : ((scriptoriumref01_Put.f (wrap64 (a0 + 32))).bind fun t131 => (some t131)) = some r := by rw [if_pos rfl] at H; exact H
              clear H
              have H := H1
              clear H1
              replace H := Option.bind_eq_some_iff.mp H
              obtain ⟨t131, A180, H⟩ := H
              replace H : (some t131) = some r := H
              have A18 := Aside0.mk A180
              clear A180
              obtain rfl := Option.some.inj H
              go_wp2_with (first | ((with_reducible refine gate_callee (f := 104) rfl ?_); refine goesL_ (some 31) rfl rfl Tryz.func104 (by kernel_rfl) rfl #[.int .i64 (wrap64 (a0 + 32))] rfl (by (try simp only [List.map_toArray, List.map_cons, List.map_nil]); first | done | rfl | (simp only [List.length_drop, List.length_take]; rfl)) ?_; (with_reducible refine (scriptoriumref01_Put.calls (wrap64 (a0 + 32)) t131 _ ?side1 A18.out).mono ?_); (case side1 => (first | (with_reducible first | exact HG.out | exact GW.drewN HG.out _ | exact GW.drewN (GW.drewN HG.out _) _) | exact GW.below HG.out (by repeat (first | (with_reducible first | exact HB.out | apply below_alloc | apply pw_below_drewN | apply below_drew1) | exact HB.out)))); rintro e w19 ⟨rfl, hb⟩; refine ⟨_, rfl, ?_⟩; have n0_ := Aside0.mk (below_step (by repeat (first | (with_reducible first | exact HB.out | apply below_alloc | apply pw_below_drewN | apply below_drew1) | exact HB.out)) hb); clear HB; have HB := n0_; clear n0_; (try clear hb); (try clear hb2); (try clear hk); (try clear hi)))
              go_ret
              exact ⟨by first | rfl | (simp [errW_none, errW_some] <;> rfl) | (simp [*, errW_none, errW_some] <;> rfl), by repeat (first | (with_reducible first | exact HB.out | apply below_alloc | apply pw_below_drewN | apply below_drew1) | exact HB.out)⟩
            · replace c17 := Bool.eq_false_iff.mpr c17
              subst c17
              have H1 : ((scriptoriumref01_in.f a0 1024 1039).bind fun t132 => (if t132 = true then ((scriptoriumref01_Put.f (wrap64 (a0 + 80))).bind fun t133 => (some t133)) else ((scriptoriumref01_Put.f a0).bind fun t134 => (some t134)))) = some r := by rw [if_neg (show ¬ (false = true) by decide)] at H; exact H
              clear H
              have H := H1
              clear H1
              replace H := Option.bind_eq_some_iff.mp H
              obtain ⟨t132, A200, H⟩ := H
              replace H : (if t132 = true then ((scriptoriumref01_Put.f (wrap64 (a0 + 80))).bind fun t133 => (some t133)) else ((scriptoriumref01_Put.f a0).bind fun t134 => (some t134))) = some r := H
              have A20 := Aside0.mk A200
              clear A200
              by_cases c21 : t132 = true
              · subst c21
                have H1 : ((scriptoriumref01_Put.f (wrap64 (a0 + 80))).bind fun t133 => (some t133)) = some r := by rw [if_pos rfl] at H; exact H
                clear H
                have H := H1
                clear H1
                replace H := Option.bind_eq_some_iff.mp H
                obtain ⟨t133, A220, H⟩ := H
                replace H : (some t133) = some r := H
                have A22 := Aside0.mk A220
                clear A220
                obtain rfl := Option.some.inj H
                go_wp2_with (first | ((with_reducible refine gate_callee (f := 133) rfl ?_); refine goesL_ (some 34) rfl rfl Tryz.func133 (by kernel_rfl) rfl #[.int .i64 a0, .int .i64 1024, .int .i64 1039] rfl (by (try simp only [List.map_toArray, List.map_cons, List.map_nil]); first | done | rfl | (simp only [List.length_drop, List.length_take]; rfl)) ?_; (with_reducible refine (scriptoriumref01_in.calls a0 1024 1039 true _ ?side1 A20.out).mono ?_); (case side1 => (first | (with_reducible first | exact HG.out | exact GW.drewN HG.out _ | exact GW.drewN (GW.drewN HG.out _) _) | exact GW.below HG.out (by repeat (first | (with_reducible first | exact HB.out | apply below_alloc | apply pw_below_drewN | apply below_drew1) | exact HB.out)))); rintro e w' ⟨rfl, ⟨nd, rfl⟩⟩; refine ⟨_, rfl, ?_⟩) | ((with_reducible refine gate_callee (f := 104) rfl ?_); refine goesL_ (some 37) rfl rfl Tryz.func104 (by kernel_rfl) rfl #[.int .i64 (wrap64 (a0 + 80))] rfl (by (try simp only [List.map_toArray, List.map_cons, List.map_nil]); first | done | rfl | (simp only [List.length_drop, List.length_take]; rfl)) ?_; (with_reducible refine (scriptoriumref01_Put.calls (wrap64 (a0 + 80)) t133 _ ?side1 A22.out).mono ?_); (case side1 => (first | (with_reducible first | exact HG.out | exact GW.drewN HG.out _ | exact GW.drewN (GW.drewN HG.out _) _) | exact GW.below HG.out (by repeat (first | (with_reducible first | exact HB.out | apply below_alloc | apply pw_below_drewN | apply below_drew1) | exact HB.out)))); rintro e w23 ⟨rfl, hb⟩; refine ⟨_, rfl, ?_⟩; have n0_ := Aside0.mk (below_step (by repeat (first | (with_reducible first | exact HB.out | apply below_alloc | apply pw_below_drewN | apply below_drew1) | exact HB.out)) hb); clear HB; have HB := n0_; clear n0_; (try clear hb); (try clear hb2); (try clear hk); (try clear hi)))
                go_ret
                exact ⟨by first | rfl | (simp [errW_none, errW_some] <;> rfl) | (simp [*, errW_none, errW_some] <;> rfl), by repeat (first | (with_reducible first | exact HB.out | apply below_alloc | apply pw_below_drewN | apply below_drew1) | exact HB.out)⟩
              · replace c21 := Bool.eq_false_iff.mpr c21
                subst c21
                have H1 : ((scriptoriumref01_Put.f a0).bind fun t134 => (some t134)) = some r := by rw [if_neg (show ¬ (false = true) by decide)] at H; exact H
                clear H
                have H := H1
                clear H1
                replace H := Option.bind_eq_some_iff.mp H
                obtain ⟨t134, A240, H⟩ := H
                replace H : (some t134) = some r := H
                have A24 := Aside0.mk A240
                clear A240
                obtain rfl := Option.some.inj H
                go_wp2_with (first | ((with_reducible refine gate_callee (f := 133) rfl ?_); refine goesL_ (some 34) rfl rfl Tryz.func133 (by kernel_rfl) rfl #[.int .i64 a0, .int .i64 1024, .int .i64 1039] rfl (by (try simp only [List.map_toArray, List.map_cons, List.map_nil]); first | done | rfl | (simp only [List.length_drop, List.length_take]; rfl)) ?_; (with_reducible refine (scriptoriumref01_in.calls a0 1024 1039 false _ ?side1 A20.out).mono ?_); (case side1 => (first | (with_reducible first | exact HG.out | exact GW.drewN HG.out _ | exact GW.drewN (GW.drewN HG.out _) _) | exact GW.below HG.out (by repeat (first | (with_reducible first | exact HB.out | apply below_alloc | apply pw_below_drewN | apply below_drew1) | exact HB.out)))); rintro e w' ⟨rfl, ⟨nd, rfl⟩⟩; refine ⟨_, rfl, ?_⟩) | ((with_reducible refine gate_callee (f := 104) rfl ?_); refine goesL_ (some 39) rfl rfl Tryz.func104 (by kernel_rfl) rfl #[.int .i64 a0] rfl (by (try simp only [List.map_toArray, List.map_cons, List.map_nil]); first | done | rfl | (simp only [List.length_drop, List.length_take]; rfl)) ?_; (with_reducible refine (scriptoriumref01_Put.calls a0 t134 _ ?side1 A24.out).mono ?_); (case side1 => (first | (with_reducible first | exact HG.out | exact GW.drewN HG.out _ | exact GW.drewN (GW.drewN HG.out _) _) | exact GW.below HG.out (by repeat (first | (with_reducible first | exact HB.out | apply below_alloc | apply pw_below_drewN | apply below_drew1) | exact HB.out)))); rintro e w25 ⟨rfl, hb⟩; refine ⟨_, rfl, ?_⟩; have n0_ := Aside0.mk (below_step (by repeat (first | (with_reducible first | exact HB.out | apply below_alloc | apply pw_below_drewN | apply below_drew1) | exact HB.out)) hb); clear HB; have HB := n0_; clear n0_; (try clear hb); (try clear hb2); (try clear hk); (try clear hi)))
                go_ret
                exact ⟨by first | rfl | (simp [errW_none, errW_some] <;> rfl) | (simp [*, errW_none, errW_some] <;> rfl), by repeat (first | (with_reducible first | exact HB.out | apply below_alloc | apply pw_below_drewN | apply below_drew1) | exact HB.out)⟩

end Go.Proofs.YthdlibgiejpjeaaGreatDoor.LN

namespace Go.Proofs.YthdlibgiejpjeaaGreatDoor.LN
open Go.RowKit Go.Proofs.YthdlibgiejpjeaaGreatDoor Go.Proofs.YthdlibgiejpjeaaGreatDoor.Given Go.Proofs.YthdlibgiejpjeaaGreatDoorW.PrintWords Go.Proofs.YthdlibgiejpjeaaGreatDoorW.PrintLast Go.Proofs.YthdlibgiejpjeaaGreatDoorW.PrintMore
attribute [local go_sem] max2_int min2_int max_two min_two max_three min_three max_four min_four   -- for this text's walks alone
set_option linter.unusedVariables false
set_option linter.unusedSimpArgs false

/-! ### scriptoriumref01_Fold: function 46 -/
def scriptoriumref01_Fold.l0 : Nat → ByteArray → List Int → Bool → Int → Option (ByteArray)
  | 0, _, _, _, _ => none
  | k + 1, x0, x3, x4, x5 => if x5 < (x0.size : Int) then (if 0 ≤ x5 then (if x5 ≤ (x0.size : Int) then ((scriptoriumref01_First.f k (x0.extract (x5 : Int).toNat x0.size)).bind fun bt135 => ((scriptoriumref01_Space.f bt135.1).bind fun t137 => (if t137 = true then (scriptoriumref01_Fold.l0 k x0 x3 true (wrap64 (x5 + bt135.2))) else (if x4 = true then (if (x3.length : Int) > 0 then (if x3.length < 140737488355328 then ((some (x3 ++ [32] : List Int)).bind fun y138 => ((scriptoriumref01_small.f k bt135.1).bind fun t141 => (if y138.length + t141.size < 140737488355328 then (scriptoriumref01_Fold.l0 k x0 (y138 ++ bytesOf t141) false (wrap64 (x5 + bt135.2))) else (none)))) else (none)) else ((scriptoriumref01_small.f k bt135.1).bind fun t145 => (if x3.length + t145.size < 140737488355328 then (scriptoriumref01_Fold.l0 k x0 (x3 ++ bytesOf t145) false (wrap64 (x5 + bt135.2))) else (none)))) else ((scriptoriumref01_small.f k bt135.1).bind fun t149 => (if x3.length + t149.size < 140737488355328 then (scriptoriumref01_Fold.l0 k x0 (x3 ++ bytesOf t149) false (wrap64 (x5 + bt135.2))) else (none))))))) else (none)) else (none)) else (some (strOfNums x3))
def scriptoriumref01_Fold.f (k : Nat) (a0 : ByteArray) : Option (ByteArray) := scriptoriumref01_Fold.l0 k a0 ([] : List Int) false 0
theorem scriptoriumref01_Fold.mono_l : ∀ k, (∀ y0 y1 y2 y3, LeO (scriptoriumref01_Fold.l0 k y0 y1 y2 y3) (scriptoriumref01_Fold.l0 (k + 1) y0 y1 y2 y3))
  | 0 => fun _ _ _ _ r h => by simp [scriptoriumref01_Fold.l0] at h
  | k + 1 => by
    have ih0 := scriptoriumref01_Fold.mono_l k
    · intro y0 y1 y2 y3
      unfold scriptoriumref01_Fold.l0
      repeat' first
      | (with_reducible exact ih0 _ _ _ _)
      | (with_reducible exact scriptoriumref01_First.mono _ _)
      | (with_reducible exact scriptoriumref01_small.mono _ _)
      | (with_reducible exact LeO.refl _)
      | (with_reducible exact LeO.none _)
      | (with_reducible refine LeO.ite ?_ ?_)
      | (with_reducible refine LeO.bind ?_ (fun _ => ?_))
      | exact ih0 _ _ _ _
      | exact scriptoriumref01_First.mono _ _
      | exact scriptoriumref01_small.mono _ _
      | exact LeO.none _
      | refine LeO.ite ?_ ?_
      | refine LeO.bind ?_ (fun _ => ?_)
theorem scriptoriumref01_Fold.mono : ∀ a0 k, LeO (scriptoriumref01_Fold.f k a0) (scriptoriumref01_Fold.f (k + 1) a0) := by
  intro a0 k
  have ih0 := scriptoriumref01_Fold.mono_l k
  unfold scriptoriumref01_Fold.f
  repeat' first
      | (with_reducible exact ih0 _ _ _ _)
      | (with_reducible exact scriptoriumref01_First.mono _ _)
      | (with_reducible exact scriptoriumref01_small.mono _ _)
      | (with_reducible exact LeO.refl _)
      | (with_reducible exact LeO.none _)
      | (with_reducible refine LeO.ite ?_ ?_)
      | (with_reducible refine LeO.bind ?_ (fun _ => ?_))
      | exact ih0 _ _ _ _
      | exact scriptoriumref01_First.mono _ _
      | exact scriptoriumref01_small.mono _ _
      | exact LeO.none _
      | refine LeO.ite ?_ ?_
      | refine LeO.bind ?_ (fun _ => ?_)
set_option maxHeartbeats 8000000 in
set_option maxRecDepth 100000 in
theorem scriptoriumref01_Fold.calls (k : Nat) (a0 : ByteArray) (r : ByteArray) (w : World) (hG : GW w) (h : scriptoriumref01_Fold.f k a0 = some r) :
    Calls Tryz.prog 46 #[.string a0] w fun e w' => e = .returned (.string r) ∧ Below w.heap.size w w' := by
  have HB := Aside0.mk (Below.refl w.heap.size w)
  have HG := Aside0.mk hG
  clear hG
  have H : (scriptoriumref01_Fold.l0 k a0 ([] : List Int) false 0) = some r := h
  clear h
  have H' := Aside0.mk H
  clear H
  go_enter Tryz.func46, Tryz.ntmps46
  go_wp2
  go_loopg [3, 4, 5] k (fun kq v3 v4 v5 w' => ∃ (x3_1 : List Int) (x4_1 : Bool) (x5_1 : Int), v4 = .bool x4_1 ∧ v5 = .int .i64 x5_1 ∧ Aside0 (scriptoriumref01_Fold.l0 kq a0 x3_1 x4_1 x5_1 = some r) ∧ Aside0 (kq ≤ k) ∧ Aside0 (Kd.R (Kd.int .u8) 5 w' w.heap.size (fun _ => True) v3 x3_1) ∧ Aside0 (Below w.heap.size w w'))
  case atStart => exact ⟨(([] : List Int)), (false), (0), (by first | rfl | (simp; done) | (simp [*]; done)), (by first | rfl | (simp; done) | (simp [*]; done)), H', ⟨Nat.le_refl _⟩, ⟨by first | exact Kd.R_nil _ _ _ _ _ | exact Kd.N_nil _ _ _ _ _ | exact Kd.V_nil _ _ _ _ _ | exact Kd.Q_nil _ _ _ _ _ | exact Kd.S_nil _ _ _ _ _⟩, ⟨by repeat (first | (with_reducible first | exact HB.out | apply below_alloc | apply pw_below_drewN | apply below_drew1) | exact HB.out)⟩⟩
  case round =>
    clear H'
    obtain ⟨x3_1, x4_1, x5_1, rfl, rfl, HA, HK1, HO_3, HB⟩ := hrel
    cases gk with
    | zero => exact absurd HA.out (by simp [scriptoriumref01_Fold.l0])
    | succ k1 =>
      have H := HA.out
      clear HA
      simp only [scriptoriumref01_Fold.l0] at H
      by_cases c2 : x5_1 < (a0.size : Int)
      · rw [if_pos c2] at H
        have c2b0 : decide (x5_1 < (a0.size : Int)) = true := decide_eq_true c2
        clear c2
        by_cases c3 : 0 ≤ x5_1
        · rw [if_pos c3] at H
          have c3b0 := eq_true c3
          have c3b1 : decide (0 ≤ x5_1) = true := decide_eq_true c3
          clear c3
          by_cases c4 : x5_1 ≤ (a0.size : Int)
          · rw [if_pos c4] at H
            have c4b0 := eq_true c4
            have c4b1 : decide (x5_1 ≤ (a0.size : Int)) = true := decide_eq_true c4
            clear c4
            replace H := Option.bind_eq_some_iff.mp H
            obtain ⟨⟨t135, t136⟩, A50, H⟩ := H
            replace H : ((scriptoriumref01_Space.f t135).bind fun t137 => (if t137 = true then (scriptoriumref01_Fold.l0 k1 a0 x3_1 true (wrap64 (x5_1 + t136))) else (if x4_1 = true then (if (x3_1.length : Int) > 0 then (if x3_1.length < 140737488355328 then ((some (x3_1 ++ [32] : List Int)).bind fun y138 => ((scriptoriumref01_small.f k1 t135).bind fun t141 => (if y138.length + t141.size < 140737488355328 then (scriptoriumref01_Fold.l0 k1 a0 (y138 ++ bytesOf t141) false (wrap64 (x5_1 + t136))) else (none)))) else (none)) else ((scriptoriumref01_small.f k1 t135).bind fun t145 => (if x3_1.length + t145.size < 140737488355328 then (scriptoriumref01_Fold.l0 k1 a0 (x3_1 ++ bytesOf t145) false (wrap64 (x5_1 + t136))) else (none)))) else ((scriptoriumref01_small.f k1 t135).bind fun t149 => (if x3_1.length + t149.size < 140737488355328 then (scriptoriumref01_Fold.l0 k1 a0 (x3_1 ++ bytesOf t149) false (wrap64 (x5_1 + t136))) else (none)))))) = some r := H
            have A5 := Aside0.mk A50
            clear A50
            replace H := Option.bind_eq_some_iff.mp H
            obtain ⟨t137, A60, H⟩ := H
            replace H : (if t137 = true then (scriptoriumref01_Fold.l0 k1 a0 x3_1 true (wrap64 (x5_1 + t136))) else (if x4_1 = true then (if (x3_1.length : Int) > 0 then (if x3_1.length < 140737488355328 then ((some (x3_1 ++ [32] : List Int)).bind fun y138 => ((scriptoriumref01_small.f k1 t135).bind fun t141 => (if y138.length + t141.size < 140737488355328 then (scriptoriumref01_Fold.l0 k1 a0 (y138 ++ bytesOf t141) false (wrap64 (x5_1 + t136))) else (none)))) else (none)) else ((scriptoriumref01_small.f k1 t135).bind fun t145 => (if x3_1.length + t145.size < 140737488355328 then (scriptoriumref01_Fold.l0 k1 a0 (x3_1 ++ bytesOf t145) false (wrap64 (x5_1 + t136))) else (none)))) else ((scriptoriumref01_small.f k1 t135).bind fun t149 => (if x3_1.length + t149.size < 140737488355328 then (scriptoriumref01_Fold.l0 k1 a0 (x3_1 ++ bytesOf t149) false (wrap64 (x5_1 + t136))) else (none))))) = some r := H
            have A6 := Aside0.mk A60
            clear A60
            by_cases c7 : t137 = true
            · subst c7
              have H1 : (scriptoriumref01_Fold.l0 k1 a0 x3_1 true (wrap64 (x5_1 + t136))) = some r := by rw [if_pos rfl] at H; exact H
              clear H
              have H := H1
              clear H1
              have H' := Aside0.mk H
              clear H
              go_wp2_with (first | ((with_reducible refine gate_callee (f := 87) rfl ?_); refine goesL_ (some 17) rfl rfl Tryz.func87 (by kernel_rfl) rfl #[.string (a0.extract (x5_1 : Int).toNat a0.size)] rfl (by (try simp only [List.map_toArray, List.map_cons, List.map_nil]); first | done | rfl | (simp only [List.length_drop, List.length_take]; rfl)) ?_; (with_reducible refine (scriptoriumref01_First.calls k1 (a0.extract (x5_1 : Int).toNat a0.size) t135 t136 _ ?side1 A5.out).mono ?_); (case side1 => (first | (with_reducible first | exact HG.out | exact GW.drewN HG.out _ | exact GW.drewN (GW.drewN HG.out _) _) | exact GW.below HG.out (by repeat (first | (with_reducible first | exact HB.out | apply below_alloc | apply pw_below_drewN | apply below_drew1) | exact HB.out)))); rintro e w' ⟨rfl, ⟨nd, rfl⟩⟩; refine ⟨_, rfl, ?_⟩) | ((with_reducible refine gate_callee (f := 88) rfl ?_); refine goesL_ (some 24) rfl rfl Tryz.func88 (by kernel_rfl) rfl #[.int .i64 t135] rfl (by (try simp only [List.map_toArray, List.map_cons, List.map_nil]); first | done | rfl | (simp only [List.length_drop, List.length_take]; rfl)) ?_; (with_reducible refine (scriptoriumref01_Space.calls t135 true _ ?side1 A6.out).mono ?_); (case side1 => (first | (with_reducible first | exact HG.out | exact GW.drewN HG.out _ | exact GW.drewN (GW.drewN HG.out _) _) | exact GW.below HG.out (by repeat (first | (with_reducible first | exact HB.out | apply below_alloc | apply pw_below_drewN | apply below_drew1) | exact HB.out)))); rintro e w' ⟨rfl, ⟨nd, rfl⟩⟩; refine ⟨_, rfl, ?_⟩))
              go_roundg k1
              case measure => have := HK1.out; omega
              case rel => exact ⟨(x3_1), (true), (wrap64 (x5_1 + t136)), (by first | rfl | (simp; done) | (simp [*]; done)), (by first | rfl | (simp; done) | (simp [*]; done)), H', ⟨by have := HK1.out; omega⟩, ⟨by (with_reducible repeat (first | apply Kd.R_alloc | apply Kd.R_drewN | apply Kd.R_drew)); exact HO_3.out⟩, ⟨by repeat (first | (with_reducible first | exact HB.out | apply below_alloc | apply pw_below_drewN | apply below_drew1) | exact HB.out)⟩⟩
            · replace c7 := Bool.eq_false_iff.mpr c7
              subst c7
              have H1 : (if x4_1 = true then (if (x3_1.length : Int) > 0 then (if x3_1.length < 140737488355328 then ((some (x3_1 ++ [32] : List Int)).bind fun y138 => ((scriptoriumref01_small.f k1 t135).bind fun t141 => (if y138.length + t141.size < 140737488355328 then (scriptoriumref01_Fold.l0 k1 a0 (y138 ++ bytesOf t141) false (wrap64 (x5_1 + t136))) else (none)))) else (none)) else ((scriptoriumref01_small.f k1 t135).bind fun t145 => (if x3_1.length + t145.size < 140737488355328 then (scriptoriumref01_Fold.l0 k1 a0 (x3_1 ++ bytesOf t145) false (wrap64 (x5_1 + t136))) else (none)))) else ((scriptoriumref01_small.f k1 t135).bind fun t149 => (if x3_1.length + t149.size < 140737488355328 then (scriptoriumref01_Fold.l0 k1 a0 (x3_1 ++ bytesOf t149) false (wrap64 (x5_1 + t136))) else (none)))) = some r := by rw [if_neg (show ¬ (false = true) by decide)] at H; exact H
              clear H
              have H := H1
              clear H1
              by_cases c8 : x4_1 = true
              · subst c8
                have H1 : (if (x3_1.length : Int) > 0 then (if x3_1.length < 140737488355328 then ((some (x3_1 ++ [32] : List Int)).bind fun y138 => ((scriptoriumref01_small.f k1 t135).bind fun t141 => (if y138.length + t141.size < 140737488355328 then (scriptoriumref01_Fold.l0 k1 a0 (y138 ++ bytesOf t141) false (wrap64 (x5_1 + t136))) else (none)))) else (none)) else ((scriptoriumref01_small.f k1 t135).bind fun t145 => (if x3_1.length + t145.size < 140737488355328 then (scriptoriumref01_Fold.l0 k1 a0 (x3_1 ++ bytesOf t145) false (wrap64 (x5_1 + t136))) else (none)))) = some r := by rw [if_pos rfl] at H; exact H
                clear H
                have H := H1
                clear H1
                by_cases c9 : (x3_1.length : Int) > 0
                · rw [if_pos c9] at H
                  have c9b0 : decide (0 < (x3_1.length : Int)) = true := decide_eq_true c9
                  have c9b1 : decide (0 < x3_1.length) = true := decide_eq_true (by omega)
                  clear c9
                  by_cases c10 : x3_1.length < 140737488355328
                  · rw [if_pos c10] at H
                    have LMc10 := Aside0.mk c10
                    clear c10
                    obtain ⟨y138, hy138⟩ : ∃ y_ : List Int, y_ = (x3_1 ++ [32]) := ⟨_, rfl⟩
                    replace H : ((scriptoriumref01_small.f k1 t135).bind fun t141 => (if y138.length + t141.size < 140737488355328 then (scriptoriumref01_Fold.l0 k1 a0 (y138 ++ bytesOf t141) false (wrap64 (x5_1 + t136))) else (none))) = some r := by first | (rw [hy138]; with_reducible exact H) | (have H2_ := (Option.bind_some _ _).symm.trans H; rw [hy138]; with_reducible exact H2_) | (have H2_ := (Option.bind_some _ _).symm.trans H; with_reducible exact H2_) | with_reducible exact H | (rw [hy138]; exact H) | exact H
                    have Ny138 := Aside0.mk hy138
                    clear hy138
                    replace H := Option.bind_eq_some_iff.mp H
                    obtain ⟨t141, A110, H⟩ := H
                    replace H : (if y138.length + t141.size < 140737488355328 then (scriptoriumref01_Fold.l0 k1 a0 (y138 ++ bytesOf t141) false (wrap64 (x5_1 + t136))) else (none)) = some r := H
                    have A11 := Aside0.mk A110
                    clear A110
                    by_cases c12 : y138.length + t141.size < 140737488355328
                    · rw [if_pos c12] at H
                      have LMc12 := Aside0.mk c12
                      clear c12
                      obtain ⟨y142, hy142⟩ : ∃ y_ : List Int, y_ = (y138 ++ bytesOf t141) := ⟨_, rfl⟩
                      replace H : (scriptoriumref01_Fold.l0 k1 a0 y142 false (wrap64 (x5_1 + t136))) = some r := by first | (rw [hy142]; with_reducible exact H) | (have H2_ := (Option.bind_some _ _).symm.trans H; rw [hy142]; with_reducible exact H2_) | (have H2_ := (Option.bind_some _ _).symm.trans H; with_reducible exact H2_) | with_reducible exact H | (rw [hy142]; exact H) | exact H
                      have Ny142 := Aside0.mk hy142
                      clear hy142
                      have H' := Aside0.mk H
                      clear H
                      go_wp2_with (first | ((with_reducible refine gate_callee (f := 87) rfl ?_); refine goesL_ (some 17) rfl rfl Tryz.func87 (by kernel_rfl) rfl #[.string (a0.extract (x5_1 : Int).toNat a0.size)] rfl (by (try simp only [List.map_toArray, List.map_cons, List.map_nil]); first | done | rfl | (simp only [List.length_drop, List.length_take]; rfl)) ?_; (with_reducible refine (scriptoriumref01_First.calls k1 (a0.extract (x5_1 : Int).toNat a0.size) t135 t136 _ ?side1 A5.out).mono ?_); (case side1 => (first | (with_reducible first | exact HG.out | exact GW.drewN HG.out _ | exact GW.drewN (GW.drewN HG.out _) _) | exact GW.below HG.out (by repeat (first | (with_reducible first | exact HB.out | apply below_alloc | apply pw_below_drewN | apply below_drew1) | exact HB.out)))); rintro e w' ⟨rfl, ⟨nd, rfl⟩⟩; refine ⟨_, rfl, ?_⟩) | ((with_reducible refine gate_callee (f := 88) rfl ?_); refine goesL_ (some 24) rfl rfl Tryz.func88 (by kernel_rfl) rfl #[.int .i64 t135] rfl (by (try simp only [List.map_toArray, List.map_cons, List.map_nil]); first | done | rfl | (simp only [List.length_drop, List.length_take]; rfl)) ?_; (with_reducible refine (scriptoriumref01_Space.calls t135 false _ ?side1 A6.out).mono ?_); (case side1 => (first | (with_reducible first | exact HG.out | exact GW.drewN HG.out _ | exact GW.drewN (GW.drewN HG.out _) _) | exact GW.below HG.out (by repeat (first | (with_reducible first | exact HB.out | apply below_alloc | apply pw_below_drewN | apply below_drew1) | exact HB.out)))); rintro e w' ⟨rfl, ⟨nd, rfl⟩⟩; refine ⟨_, rfl, ?_⟩; obtain ⟨Ao13, co13, eo13⟩ := Kd.R_slice HO_3.out; subst eo13) | ((with_reducible refine gate_builtin (b := .append) (xs := #[.tmp 32, .tmp 33]) rfl ?_); (try (refine gate_guard (by rfl) ?_; dsimp only)); at_builtin; refine Kd.R_append (Kd.int .u8) (w0 := w) w.heap.size rfl (.tmp 32) (.tmp 33) 28 5 (.int .u8 0) 1 rfl Tryz.underlying28 info5 rfl (by decide) (by omega) (.slice Ao13 x3_1.length co13) x3_1 32 [.int .u8 32] (fun _ => True) (fun _ => False) rfl rfl ?aP (fun _ hk => hk.elim) ?aF ?aO ?aB ?aS ?aL ?_; (case aP => exact rfl); (case aB => exact (by repeat (first | (with_reducible first | exact HB.out | apply below_alloc | apply pw_below_drewN | apply below_drew1) | exact HB.out))); (case aF => exact (fun _ _ => trivial)); (case aO => exact (by (with_reducible repeat (first | apply Kd.R_alloc | apply Kd.R_drewN | apply Kd.R_drew)); exact HO_3.out)); (case aS => exact (below_size (by repeat (first | (with_reducible first | exact HB.out | apply below_alloc | apply pw_below_drewN | apply below_drew1) | exact HB.out)))); (case aL => have := LMc10.out; first | omega | exact Nat.le_of_lt this); intro v139 w14 ho hb hg hat; rw [← Ny138.out] at ho; have n0_ := Aside0.mk (hb); have n1_ := Aside0.mk (ho); clear HB; clear HO_3; have HB := n0_; have HO140 := n1_; clear n0_ n1_; clear ho hb hg hat) | ((with_reducible refine gate_callee (f := 89) rfl ?_); refine goesL_ (some 37) rfl rfl Tryz.func89 (by kernel_rfl) rfl #[.int .i64 t135] rfl (by (try simp only [List.map_toArray, List.map_cons, List.map_nil]); first | done | rfl | (simp only [List.length_drop, List.length_take]; rfl)) ?_; (with_reducible refine (scriptoriumref01_small.calls k1 t135 t141 _ ?side1 A11.out).mono ?_); (case side1 => (first | (with_reducible first | exact HG.out | exact GW.drewN HG.out _ | exact GW.drewN (GW.drewN HG.out _) _) | exact GW.below HG.out (by repeat (first | (with_reducible first | exact HB.out | apply below_alloc | apply pw_below_drewN | apply below_drew1) | exact HB.out)))); rintro e w15 ⟨rfl, hb⟩; refine ⟨_, rfl, ?_⟩; have n0_ := Aside0.mk (Kd.R_below (by (with_reducible repeat (first | apply Kd.R_alloc | apply Kd.R_drewN | apply Kd.R_drew)); exact HO140.out) hb); have n1_ := Aside0.mk (below_step (by repeat (first | (with_reducible first | exact HB.out | apply below_alloc | apply pw_below_drewN | apply below_drew1) | exact HB.out)) hb); clear HO140; clear HB; have HO140 := n0_; have HB := n1_; clear n0_ n1_; (try clear hb); (try clear hb2); (try clear hk); (try clear hi)) | (at_builtin; refine print_append_str (w0 := w) w.heap.size rfl (.tmp 35) _ 28 9 5 rfl Tryz.underlying28 Tryz.underlying9 info5 v139 y138 t141 rfl rfl ?aO ?aB ?aS ?aL ?_; (case aB => exact (by repeat (first | (with_reducible first | exact HB.out | apply below_alloc | apply pw_below_drewN | apply below_drew1) | exact HB.out))); (case aO => exact (Kd.own_of_R (by (with_reducible repeat (first | apply Kd.R_alloc | apply Kd.R_drewN | apply Kd.R_drew)); exact HO140.out))); (case aS => exact (below_size (by repeat (first | (with_reducible first | exact HB.out | apply below_alloc | apply pw_below_drewN | apply below_drew1) | exact HB.out)))); (case aL => have := LMc12.out; first | omega | exact Nat.le_of_lt this); intro v143 w16 ho0 hb hg; have ho := Kd.R_of_own (h1 := fun _ => rfl) (ok := fun _ => True) ho0 (fun _ _ => trivial); clear ho0; have hat := True.intro; rw [← Ny142.out] at ho; change Kd.R (Kd.int .u8) 5 w16 w.heap.size (fun _ => True) v143 y142 at ho; have n0_ := Aside0.mk (hb); have n1_ := Aside0.mk (ho); clear HB; clear HO140; have HB := n0_; have HO144 := n1_; clear n0_ n1_; clear ho hb hg hat))
                      go_roundg k1
                      case measure => have := HK1.out; omega
                      case rel => exact ⟨(y142), (false), (wrap64 (x5_1 + t136)), (by first | rfl | (simp; done) | (simp [*]; done)), (by first | rfl | (simp; done) | (simp [*]; done)), H', ⟨by have := HK1.out; omega⟩, ⟨by (with_reducible repeat (first | apply Kd.R_alloc | apply Kd.R_drewN | apply Kd.R_drew)); exact HO144.out⟩, ⟨by repeat (first | (with_reducible first | exact HB.out | apply below_alloc | apply pw_below_drewN | apply below_drew1) | exact HB.out)⟩⟩
                    · rw [if_neg c12] at H
                      exact absurd H (by simp)
                  · rw [if_neg c10] at H
                    exact absurd H (by simp)
                · rw [if_neg c9] at H
                  have c9b0 : decide (0 < (x3_1.length : Int)) = false := decide_eq_false c9
                  have c9b1 : decide (0 < x3_1.length) = false := decide_eq_false (by omega)
                  clear c9
                  replace H := Option.bind_eq_some_iff.mp H
                  obtain ⟨t145, A170, H⟩ := H
                  replace H : (if x3_1.length + t145.size < 140737488355328 then (scriptoriumref01_Fold.l0 k1 a0 (x3_1 ++ bytesOf t145) false (wrap64 (x5_1 + t136))) else (none)) = some r := H
                  have A17 := Aside0.mk A170
                  clear A170
                  by_cases c18 : x3_1.length + t145.size < 140737488355328
                  · rw [if_pos c18] at H
                    have LMc18 := Aside0.mk c18
                    clear c18
                    obtain ⟨y146, hy146⟩ : ∃ y_ : List Int, y_ = (x3_1 ++ bytesOf t145) := ⟨_, rfl⟩
                    replace H : (scriptoriumref01_Fold.l0 k1 a0 y146 false (wrap64 (x5_1 + t136))) = some r := by first | (rw [hy146]; with_reducible exact H) | (have H2_ := (Option.bind_some _ _).symm.trans H; rw [hy146]; with_reducible exact H2_) | (have H2_ := (Option.bind_some _ _).symm.trans H; with_reducible exact H2_) | with_reducible exact H | (rw [hy146]; exact H) | exact H
                    have Ny146 := Aside0.mk hy146
                    clear hy146
                    have H' := Aside0.mk H
                    clear H
                    go_wp2_with (first | ((with_reducible refine gate_callee (f := 87) rfl ?_); refine goesL_ (some 17) rfl rfl Tryz.func87 (by kernel_rfl) rfl #[.string (a0.extract (x5_1 : Int).toNat a0.size)] rfl (by (try simp only [List.map_toArray, List.map_cons, List.map_nil]); first | done | rfl | (simp only [List.length_drop, List.length_take]; rfl)) ?_; (with_reducible refine (scriptoriumref01_First.calls k1 (a0.extract (x5_1 : Int).toNat a0.size) t135 t136 _ ?side1 A5.out).mono ?_); (case side1 => (first | (with_reducible first | exact HG.out | exact GW.drewN HG.out _ | exact GW.drewN (GW.drewN HG.out _) _) | exact GW.below HG.out (by repeat (first | (with_reducible first | exact HB.out | apply below_alloc | apply pw_below_drewN | apply below_drew1) | exact HB.out)))); rintro e w' ⟨rfl, ⟨nd, rfl⟩⟩; refine ⟨_, rfl, ?_⟩) | ((with_reducible refine gate_callee (f := 88) rfl ?_); refine goesL_ (some 24) rfl rfl Tryz.func88 (by kernel_rfl) rfl #[.int .i64 t135] rfl (by (try simp only [List.map_toArray, List.map_cons, List.map_nil]); first | done | rfl | (simp only [List.length_drop, List.length_take]; rfl)) ?_; (with_reducible refine (scriptoriumref01_Space.calls t135 false _ ?side1 A6.out).mono ?_); (case side1 => (first | (with_reducible first | exact HG.out | exact GW.drewN HG.out _ | exact GW.drewN (GW.drewN HG.out _) _) | exact GW.below HG.out (by repeat (first | (with_reducible first | exact HB.out | apply below_alloc | apply pw_below_drewN | apply below_drew1) | exact HB.out)))); rintro e w' ⟨rfl, ⟨nd, rfl⟩⟩; refine ⟨_, rfl, ?_⟩; obtain ⟨Ao19, co19, eo19⟩ := Kd.R_slice HO_3.out; subst eo19) | ((with_reducible refine gate_callee (f := 89) rfl ?_); refine goesL_ (some 37) rfl rfl Tryz.func89 (by kernel_rfl) rfl #[.int .i64 t135] rfl (by (try simp only [List.map_toArray, List.map_cons, List.map_nil]); first | done | rfl | (simp only [List.length_drop, List.length_take]; rfl)) ?_; (with_reducible refine (scriptoriumref01_small.calls k1 t135 t145 _ ?side1 A17.out).mono ?_); (case side1 => (first | (with_reducible first | exact HG.out | exact GW.drewN HG.out _ | exact GW.drewN (GW.drewN HG.out _) _) | exact GW.below HG.out (by repeat (first | (with_reducible first | exact HB.out | apply below_alloc | apply pw_below_drewN | apply below_drew1) | exact HB.out)))); rintro e w20 ⟨rfl, hb⟩; refine ⟨_, rfl, ?_⟩; have n0_ := Aside0.mk (Kd.R_below (by (with_reducible repeat (first | apply Kd.R_alloc | apply Kd.R_drewN | apply Kd.R_drew)); exact HO_3.out) hb); have n1_ := Aside0.mk (below_step (by repeat (first | (with_reducible first | exact HB.out | apply below_alloc | apply pw_below_drewN | apply below_drew1) | exact HB.out)) hb); clear HO_3; clear HB; have HO_3 := n0_; have HB := n1_; clear n0_ n1_; (try clear hb); (try clear hb2); (try clear hk); (try clear hi)) | (at_builtin; refine print_append_str (w0 := w) w.heap.size rfl (.tmp 35) _ 28 9 5 rfl Tryz.underlying28 Tryz.underlying9 info5 (.slice Ao19 x3_1.length co19) x3_1 t145 rfl rfl ?aO ?aB ?aS ?aL ?_; (case aB => exact (by repeat (first | (with_reducible first | exact HB.out | apply below_alloc | apply pw_below_drewN | apply below_drew1) | exact HB.out))); (case aO => exact (Kd.own_of_R (by (with_reducible repeat (first | apply Kd.R_alloc | apply Kd.R_drewN | apply Kd.R_drew)); exact HO_3.out))); (case aS => exact (below_size (by repeat (first | (with_reducible first | exact HB.out | apply below_alloc | apply pw_below_drewN | apply below_drew1) | exact HB.out)))); (case aL => have := LMc18.out; first | omega | exact Nat.le_of_lt this); intro v147 w21 ho0 hb hg; have ho := Kd.R_of_own (h1 := fun _ => rfl) (ok := fun _ => True) ho0 (fun _ _ => trivial); clear ho0; have hat := True.intro; rw [← Ny146.out] at ho; change Kd.R (Kd.int .u8) 5 w21 w.heap.size (fun _ => True) v147 y146 at ho; have n0_ := Aside0.mk (hb); have n1_ := Aside0.mk (ho); clear HB; clear HO_3; have HB := n0_; have HO148 := n1_; clear n0_ n1_; clear ho hb hg hat))
                    go_roundg k1
                    case measure => have := HK1.out; omega
                    case rel => exact ⟨(y146), (false), (wrap64 (x5_1 + t136)), (by first | rfl | (simp; done) | (simp [*]; done)), (by first | rfl | (simp; done) | (simp [*]; done)), H', ⟨by have := HK1.out; omega⟩, ⟨by (with_reducible repeat (first | apply Kd.R_alloc | apply Kd.R_drewN | apply Kd.R_drew)); exact HO148.out⟩, ⟨by repeat (first | (with_reducible first | exact HB.out | apply below_alloc | apply pw_below_drewN | apply below_drew1) | exact HB.out)⟩⟩
                  · rw [if_neg c18] at H
                    exact absurd H (by simp)
              · replace c8 := Bool.eq_false_iff.mpr c8
                subst c8
                have H1 : ((scriptoriumref01_small.f k1 t135).bind fun t149 => (if x3_1.length + t149.size < 140737488355328 then (scriptoriumref01_Fold.l0 k1 a0 (x3_1 ++ bytesOf t149) false (wrap64 (x5_1 + t136))) else (none))) = some r := by rw [if_neg (show ¬ (false = true) by decide)] at H; exact H
                clear H
                have H := H1
                clear H1
                replace H := Option.bind_eq_some_iff.mp H
                obtain ⟨t149, A220, H⟩ := H
                replace H : (if x3_1.length + t149.size < 140737488355328 then (scriptoriumref01_Fold.l0 k1 a0 (x3_1 ++ bytesOf t149) false (wrap64 (x5_1 + t136))) else (none)) = some r := H
                have A22 := Aside0.mk A220
                clear A220
                by_cases c23 : x3_1.length + t149.size < 140737488355328
                · rw [if_pos c23] at H
                  have LMc23 := Aside0.mk c23
                  clear c23
                  obtain ⟨y150, hy150⟩ : ∃ y_ : List Int, y_ = (x3_1 ++ bytesOf t149) := ⟨_, rfl⟩
                  replace H : (scriptoriumref01_Fold.l0 k1 a0 y150 false (wrap64 (x5_1 + t136))) = some r := by first | (rw [hy150]; with_reducible exact H) | (have H2_ := (Option.bind_some _ _).symm.trans H; rw [hy150]; with_reducible exact H2_) | (have H2_ := (Option.bind_some _ _).symm.trans H; with_reducible exact H2_) | with_reducible exact H | (rw [hy150]; exact H) | exact H
                  have Ny150 := Aside0.mk hy150
                  clear hy150
                  have H' := Aside0.mk H
                  clear H
                  go_wp2_with (first | ((with_reducible refine gate_callee (f := 87) rfl ?_); refine goesL_ (some 17) rfl rfl Tryz.func87 (by kernel_rfl) rfl #[.string (a0.extract (x5_1 : Int).toNat a0.size)] rfl (by (try simp only [List.map_toArray, List.map_cons, List.map_nil]); first | done | rfl | (simp only [List.length_drop, List.length_take]; rfl)) ?_; (with_reducible refine (scriptoriumref01_First.calls k1 (a0.extract (x5_1 : Int).toNat a0.size) t135 t136 _ ?side1 A5.out).mono ?_); (case side1 => (first | (with_reducible first | exact HG.out | exact GW.drewN HG.out _ | exact GW.drewN (GW.drewN HG.out _) _) | exact GW.below HG.out (by repeat (first | (with_reducible first | exact HB.out | apply below_alloc | apply pw_below_drewN | apply below_drew1) | exact HB.out)))); rintro e w' ⟨rfl, ⟨nd, rfl⟩⟩; refine ⟨_, rfl, ?_⟩) | ((with_reducible refine gate_callee (f := 88) rfl ?_); refine goesL_ (some 24) rfl rfl Tryz.func88 (by kernel_rfl) rfl #[.int .i64 t135] rfl (by (try simp only [List.map_toArray, List.map_cons, List.map_nil]); first | done | rfl | (simp only [List.length_drop, List.length_take]; rfl)) ?_; (with_reducible refine (scriptoriumref01_Space.calls t135 false _ ?side1 A6.out).mono ?_); (case side1 => (first | (with_reducible first | exact HG.out | exact GW.drewN HG.out _ | exact GW.drewN (GW.drewN HG.out _) _) | exact GW.below HG.out (by repeat (first | (with_reducible first | exact HB.out | apply below_alloc | apply pw_below_drewN | apply below_drew1) | exact HB.out)))); rintro e w' ⟨rfl, ⟨nd, rfl⟩⟩; refine ⟨_, rfl, ?_⟩) | ((with_reducible refine gate_callee (f := 89) rfl ?_); refine goesL_ (some 37) rfl rfl Tryz.func89 (by kernel_rfl) rfl #[.int .i64 t135] rfl (by (try simp only [List.map_toArray, List.map_cons, List.map_nil]); first | done | rfl | (simp only [List.length_drop, List.length_take]; rfl)) ?_; (with_reducible refine (scriptoriumref01_small.calls k1 t135 t149 _ ?side1 A22.out).mono ?_); (case side1 => (first | (with_reducible first | exact HG.out | exact GW.drewN HG.out _ | exact GW.drewN (GW.drewN HG.out _) _) | exact GW.below HG.out (by repeat (first | (with_reducible first | exact HB.out | apply below_alloc | apply pw_below_drewN | apply below_drew1) | exact HB.out)))); rintro e w24 ⟨rfl, hb⟩; refine ⟨_, rfl, ?_⟩; have n0_ := Aside0.mk (Kd.R_below (by (with_reducible repeat (first | apply Kd.R_alloc | apply Kd.R_drewN | apply Kd.R_drew)); exact HO_3.out) hb); have n1_ := Aside0.mk (below_step (by repeat (first | (with_reducible first | exact HB.out | apply below_alloc | apply pw_below_drewN | apply below_drew1) | exact HB.out)) hb); clear HO_3; clear HB; have HO_3 := n0_; have HB := n1_; clear n0_ n1_; (try clear hb); (try clear hb2); (try clear hk); (try clear hi)) | (at_builtin; refine print_append_str (w0 := w) w.heap.size rfl (.tmp 35) _ 28 9 5 rfl Tryz.underlying28 Tryz.underlying9 info5 u3 x3_1 t149 rfl rfl ?aO ?aB ?aS ?aL ?_; (case aB => exact (by repeat (first | (with_reducible first | exact HB.out | apply below_alloc | apply pw_below_drewN | apply below_drew1) | exact HB.out))); (case aO => exact (Kd.own_of_R (by (with_reducible repeat (first | apply Kd.R_alloc | apply Kd.R_drewN | apply Kd.R_drew)); exact HO_3.out))); (case aS => exact (below_size (by repeat (first | (with_reducible first | exact HB.out | apply below_alloc | apply pw_below_drewN | apply below_drew1) | exact HB.out)))); (case aL => have := LMc23.out; first | omega | exact Nat.le_of_lt this); intro v151 w25 ho0 hb hg; have ho := Kd.R_of_own (h1 := fun _ => rfl) (ok := fun _ => True) ho0 (fun _ _ => trivial); clear ho0; have hat := True.intro; rw [← Ny150.out] at ho; change Kd.R (Kd.int .u8) 5 w25 w.heap.size (fun _ => True) v151 y150 at ho; have n0_ := Aside0.mk (hb); have n1_ := Aside0.mk (ho); clear HB; clear HO_3; have HB := n0_; have HO152 := n1_; clear n0_ n1_; clear ho hb hg hat))
                  go_roundg k1
                  case measure => have := HK1.out; omega
                  case rel => exact ⟨(y150), (false), (wrap64 (x5_1 + t136)), (by first | rfl | (simp; done) | (simp [*]; done)), (by first | rfl | (simp; done) | (simp [*]; done)), H', ⟨by have := HK1.out; omega⟩, ⟨by (with_reducible repeat (first | apply Kd.R_alloc | apply Kd.R_drewN | apply Kd.R_drew)); exact HO152.out⟩, ⟨by repeat (first | (with_reducible first | exact HB.out | apply below_alloc | apply pw_below_drewN | apply below_drew1) | exact HB.out)⟩⟩
                · rw [if_neg c23] at H
                  exact absurd H (by simp)
          · rw [if_neg c4] at H
            exact absurd H (by simp)
        · rw [if_neg c3] at H
          exact absurd H (by simp)
      · rw [if_neg c2] at H
        have c2b0 : decide (x5_1 < (a0.size : Int)) = false := decide_eq_false c2
        clear c2
        obtain rfl := Option.some.inj H
        have hcv26 := own_string (P := Tryz.prog) Tryz.underlying28 Tryz.underlying5 Tryz.underlying9 (Kd.own_of_R HO_3.out)
        go_wp2
        go_ret
        exact ⟨by first | rfl | (simp [errW_none, errW_some] <;> rfl) | (simp [*, errW_none, errW_some] <;> rfl), by repeat (first | (with_reducible first | exact HB.out | apply below_alloc | apply pw_below_drewN | apply below_drew1) | exact HB.out)⟩

end Go.Proofs.YthdlibgiejpjeaaGreatDoor.LN

namespace Go.Proofs.YthdlibgiejpjeaaGreatDoor.LN
open Go.RowKit Go.Proofs.YthdlibgiejpjeaaGreatDoor Go.Proofs.YthdlibgiejpjeaaGreatDoor.Given Go.Proofs.YthdlibgiejpjeaaGreatDoorW.PrintWords Go.Proofs.YthdlibgiejpjeaaGreatDoorW.PrintLast Go.Proofs.YthdlibgiejpjeaaGreatDoorW.PrintMore
attribute [local go_sem] max2_int min2_int max_two min_two max_three min_three max_four min_four   -- for this text's walks alone
set_option linter.unusedVariables false
set_option linter.unusedSimpArgs false

end Go.Proofs.YthdlibgiejpjeaaGreatDoor.LN
