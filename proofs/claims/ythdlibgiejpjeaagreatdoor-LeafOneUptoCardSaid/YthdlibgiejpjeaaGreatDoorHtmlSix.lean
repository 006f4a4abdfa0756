/- leaf.HTML of '<DIV': 6. -/
import Derived.Test.YthdlibgiejpjeaaGreatDoorGiven67
set_option linter.unusedVariables false
set_option linter.unusedSimpArgs false
namespace Go.Proofs.YthdlibgiejpjeaaGreatDoor.Given
open Go.RowKit Go.Proofs.YthdlibgiejpjeaaGreatDoor Go.Proofs.YthdlibgiejpjeaaGreatDoorW.PrintWords Go.Proofs.YthdlibgiejpjeaaGreatDoor.Spec

set_option maxHeartbeats 4000000 in
set_option maxRecDepth 1000000 in
theorem whole_div (w : World) : Calls Tryz.prog 75 #[.string (mkB [100, 105, 118])] w fun e w' => e = .returned (.bool false) ∧ w = w' := by
  have h1 : (mkB [100, 105, 118]).toList = [100, 105, 118] := Lib.toList_data _
  generalize mkB [100, 105, 118] = T at *
  go_enter Tryz.func75, Tryz.ntmps75
  go_wp2
  go_ret
  exact ⟨rfl, rfl⟩
set_option maxHeartbeats 4000000 in
set_option maxRecDepth 1000000 in
theorem block_div (w : World) : Calls Tryz.prog 78 #[.string (mkB [100, 105, 118])] w fun e w' => e = .returned (.bool true) ∧ w = w' := by
  have h1 : (mkB [100, 105, 118]).toList = [100, 105, 118] := Lib.toList_data _
  generalize mkB [100, 105, 118] = T at *
  go_enter Tryz.func78, Tryz.ntmps78
  go_wp2
  go_ret
  exact ⟨rfl, rfl⟩
set_option maxHeartbeats 4000000 in
set_option maxRecDepth 1000000 in
theorem name_div (w : World) : Calls Tryz.prog 74 #[.string (mkB [100, 105, 118]), .string (mkB [])] w fun e w' => e = .returned (.string (mkB [100, 105, 118])) ∧ w = w' := by
  have hz : (mkB [100, 105, 118]).size = 3 := rfl
  have hz' := Lib.hid hz
  have p0 : 0 < (mkB [100, 105, 118]).size := by rw [hz]; omega
  have p1 : 1 < (mkB [100, 105, 118]).size := by rw [hz]; omega
  have p2 : 2 < (mkB [100, 105, 118]).size := by rw [hz]; omega
  have c0 : (mkB [100, 105, 118])[0]'p0 = 100 := rfl
  have c1 : (mkB [100, 105, 118])[1]'p1 = 105 := rfl
  have c2 : (mkB [100, 105, 118])[2]'p2 = 118 := rfl
  have hs : ∀ W, (Instr.slice 9 (.string (mkB [100, 105, 118])) none (some (.int .i64 3)) none).run Tryz.prog W = .ok (.string (mkB [100, 105, 118])) W := fun W => sl_to [100, 105, 118] 3 (by decide) W
  generalize mkB [100, 105, 118] = T at *
  generalize mkB [] = M at *
  go_enter Tryz.func74, Tryz.ntmps74
  go_wp2
  go_loop [5] (fun i => i = .int .i64 0 ∨ i = .int .i64 1 ∨ i = .int .i64 2 ∨ i = .int .i64 3) (fun i => 3 - (intOf i).toNat)
  case atStart => exact .inl rfl
  case round =>
    rcases hrel with rfl | rfl | rfl | rfl
    · go_wp2
      exact ⟨.inr (.inl rfl), by simp [intOf]⟩
    · go_wp2
      exact ⟨.inr (.inr (.inl rfl)), by simp [intOf]⟩
    · go_wp2
      exact ⟨.inr (.inr (.inr rfl)), by simp [intOf]⟩
    · go_wp2
      go_ret
      exact ⟨rfl, rfl⟩
theorem name_div' (w : World) : Calls Tryz.prog 74 #[.string (mkB [100, 105, 118]), .string ⟨#[]⟩] w fun e w' => e = .returned (.string (mkB [100, 105, 118])) ∧ w = w' := name_div w
def leaf_HTML.f (a0 : ByteArray) : Option (Int) := if a0.data.toList = [60, 68, 73, 86] then some 6 else none
set_option maxHeartbeats 8000000 in
set_option maxRecDepth 1000000 in
theorem html_div (w : World) (hG : GW w) : Calls Tryz.prog 35 #[.string (mkB [60, 68, 73, 86])] w fun e w' => e = .returned (.int .i64 6) ∧ Below w.heap.size w w' := by
  have hlow := Lib.hid (fun W hW => lower_calls [60, 68, 73, 86] W hW (by decide))
  rw [show ([60, 68, 73, 86] : List UInt8).map lowC = [60, 100, 105, 118] from by decide] at hlow
  have hcut := Lib.hid (fun W hW => strings_CutPrefix.calls (mkB [60, 100, 105, 118]) ⟨#[60]⟩ (mkB [100, 105, 118]) true W hW (by decide +kernel))
  have hpre1 := Lib.hid (fun W hW => strings_HasPrefix.calls (mkB [100, 105, 118]) ⟨#[33, 45, 45]⟩ false W hW (by decide +kernel))
  have hpre2 := Lib.hid (fun W hW => strings_HasPrefix.calls (mkB [60, 68, 73, 86]) ⟨#[60, 33, 91, 67, 68, 65, 84, 65, 91]⟩ false W hW (by decide +kernel))
  have htrim := Lib.hid (fun W hW => strings_TrimPrefix.calls (mkB [100, 105, 118]) ⟨#[47]⟩ (mkB [100, 105, 118]) W hW (by decide +kernel))
  have hname := Lib.hid name_div'
  have hwhole := Lib.hid whole_div
  have hblock := Lib.hid block_div
  have hbeh := Lib.hid (fun W hW => behind_calls [] W hW)
  rw [show behind [] = true from rfl] at hbeh
  have hem : (mkB [100, 105, 118]).toList.isEmpty = false := by rw [Lib.toList_data]; rfl
  have hem2 : ¬ (mkB [100, 105, 118]).toList = [] := by rw [Lib.toList_data]; simp [mkB]
  have p0 : 0 < (mkB [100, 105, 118]).size := by show 0 < 3; omega
  have q1 : decide ((1 : Int) < ((mkB [100, 105, 118]).size : Int)) = true := by decide +kernel
  have c0 : (mkB [100, 105, 118])[0]'p0 = 100 := rfl
  have hs : ∀ W, (Instr.slice 9 (.string (mkB [100, 105, 118])) (some (.int .i64 ((mkB [100, 105, 118]).size : Int))) none none).run Tryz.prog W = .ok (.string (mkB [])) W := fun W => sl_from [100, 105, 118] 3 (by decide) W
  generalize mkB [100, 105, 118] = D at *
  generalize mkB [60, 100, 105, 118] = LD at *
  generalize mkB [60, 68, 73, 86] = S at *
  go_enter Tryz.func35, Tryz.ntmps35
  go_wp2_with fail
  refine (hlow.out w hG).mono ?_
  rintro e W1 ⟨rfl, hb1⟩
  go_wp2_with fail
  refine (hcut.out W1 (hG.below hb1)).mono ?_
  rintro e W2 ⟨rfl, hb2'⟩
  have hb2 := hb1.trans (hb2'.mono hb1.size)
  clear hb2' hb1
  go_wp2_with fail
  refine (hname.out W2).mono ?_
  rintro e W3 ⟨rfl, rfl⟩
  go_wp2_with fail
  refine (hwhole.out _).mono ?_
  rintro e W3 ⟨rfl, rfl⟩
  go_wp2_with fail
  refine (hpre1.out _ (hG.below hb2)).mono ?_
  rintro e W3 ⟨rfl, hb3'⟩
  have hb3 := hb2.trans (hb3'.mono hb2.size)
  clear hb3' hb2
  go_wp2_with fail
  refine (hpre2.out _ (hG.below hb3)).mono ?_
  rintro e W4 ⟨rfl, hb4'⟩
  have hb4 := hb3.trans (hb4'.mono hb3.size)
  clear hb4' hb3
  go_wp2_with fail
  refine (htrim.out _ (hG.below hb4)).mono ?_
  rintro e W5 ⟨rfl, hb5'⟩
  have hb5 := hb4.trans (hb5'.mono hb4.size)
  clear hb5' hb4
  go_wp2_with fail
  refine (hname.out _).mono ?_
  rintro e W6 ⟨rfl, rfl⟩
  go_wp2_with fail
  refine (hblock.out _).mono ?_
  rintro e W6 ⟨rfl, rfl⟩
  go_wp2_with fail
  refine (hbeh.out _ (hG.below hb5)).mono ?_
  rintro e W7 ⟨rfl, hb6'⟩
  have hb6 := hb5.trans (hb6'.mono hb5.size)
  clear hb6' hb5
  go_wp2
  go_ret
  exact ⟨rfl, hb6⟩
theorem leaf_HTML.calls (a0 : ByteArray) (r : Int) (w : World) (hG : GW w) (h : leaf_HTML.f a0 = some r) :
    Calls Tryz.prog 35 #[.string a0] w fun e w' => e = .returned (.int .i64 r) ∧ Below w.heap.size w w' := by
  unfold leaf_HTML.f at h
  split at h
  · rename_i h1
    obtain rfl := Option.some.inj h
    rw [mkB_of a0 _ h1]
    exact html_div w hG
  · cases h
end Go.Proofs.YthdlibgiejpjeaaGreatDoor.Given
