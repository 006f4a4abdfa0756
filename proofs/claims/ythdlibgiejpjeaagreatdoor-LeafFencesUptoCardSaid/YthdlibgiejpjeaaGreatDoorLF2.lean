-- PRINTED by print.py (a twelfth state) out of the translation. Not trusted: Lean checks it.
import Derived.Test.YthdlibgiejpjeaaGreatDoorLF0
import Derived.Test.YthdlibgiejpjeaaGreatDoorLF1
namespace Go.Proofs.YthdlibgiejpjeaaGreatDoor.LF
open Go.RowKit Go.Proofs.YthdlibgiejpjeaaGreatDoor Go.Proofs.YthdlibgiejpjeaaGreatDoor.Given Go.Proofs.YthdlibgiejpjeaaGreatDoorW.PrintWords Go.Proofs.YthdlibgiejpjeaaGreatDoorW.PrintLast Go.Proofs.YthdlibgiejpjeaaGreatDoorW.PrintMore
attribute [local go_sem] max2_int min2_int max_two min_two max_three min_three max_four min_four   -- for this text's walks alone
set_option linter.unusedVariables false
set_option linter.unusedSimpArgs false

/-! ### scriptoriumlaw05_LeafFences: function 15 -/
mutual
def scriptoriumlaw05_LeafFences.j0 : Nat → Int → Int → Bool → Int → Bool → Option (Bool)
  | 0, _, _, _, _, _ => none
  | k + 1, x0, x1, x2, x3, x9 => if x1 < 0 then (scriptoriumlaw05_LeafFences.j1 k x0 (wrap64 (-(wrap64 (x1 + 1)))) x2 x3 x9) else (scriptoriumlaw05_LeafFences.j1 k x0 x1 x2 x3 x9)
def scriptoriumlaw05_LeafFences.j1 : Nat → Int → Int → Bool → Int → Bool → Option (Bool)
  | 0, _, _, _, _, _ => none
  | k + 1, x0, x1, x2, x3, x9 => if x3 < 0 then (scriptoriumlaw05_LeafFences.j2 k x0 x1 x2 (wrap64 (-(wrap64 (x3 + 1)))) x9) else (scriptoriumlaw05_LeafFences.j2 k x0 x1 x2 x3 x9)
def scriptoriumlaw05_LeafFences.j2 : Nat → Int → Int → Bool → Int → Bool → Option (Bool)
  | 0, _, _, _, _, _ => none
  | k + 1, x0, x1, x2, x3, x9 => if x2 = true then (scriptoriumlaw05_LeafFences.j3 k (wrap64 (3 + (Int.tmod x0 40))) (wrap64 (1 + (Int.tmod x1 40))) x3 x9 126) else (scriptoriumlaw05_LeafFences.j3 k (wrap64 (3 + (Int.tmod x0 40))) (wrap64 (1 + (Int.tmod x1 40))) x3 x9 96)
def scriptoriumlaw05_LeafFences.j3 : Nat → Int → Int → Int → Bool → Int → Option (Bool)
  | 0, _, _, _, _, _ => none
  | k + 1, x0, x1, x3, x9, x10 => scriptoriumlaw05_LeafFences.l0 k x0 x1 x3 x9 x10 (⟨#[]⟩ : ByteArray) 0
def scriptoriumlaw05_LeafFences.l0 : Nat → Int → Int → Int → Bool → Int → ByteArray → Int → Option (Bool)
  | 0, _, _, _, _, _, _, _ => none
  | k + 1, x0, x1, x3, x9, x10, x11, x12 => if x12 < x0 then ((some (([x10] : List Int) : List Int)).bind fun y129 => (if x11.size + (strOfNums y129).size ≤ 9223372036854775807 then (scriptoriumlaw05_LeafFences.l0 k x0 x1 x3 x9 x10 (x11 ++ (strOfNums y129)) (wrap64 (x12 + 1))) else (none))) else (scriptoriumlaw05_LeafFences.l1 k x0 x1 x3 x9 x10 x11 (⟨#[]⟩ : ByteArray) 0)
def scriptoriumlaw05_LeafFences.l1 : Nat → Int → Int → Int → Bool → Int → ByteArray → ByteArray → Int → Option (Bool)
  | 0, _, _, _, _, _, _, _, _ => none
  | k + 1, x0, x1, x3, x9, x10, x11, x13, x14 => if x14 < (Int.tmod x3 5) then ((some (([(⟨#[32]⟩ : ByteArray), (⟨#[9]⟩ : ByteArray)] : List ByteArray) : List ByteArray)).bind fun y132 => (if 0 ≤ (Int.tmod x14 2) then (if (Int.tmod x14 2) < (y132.length : Int) then (if x13.size + (rdOf ByteArray.empty y132 (Int.tmod x14 2)).size ≤ 9223372036854775807 then (scriptoriumlaw05_LeafFences.l1 k x0 x1 x3 x9 x10 x11 (x13 ++ (rdOf ByteArray.empty y132 (Int.tmod x14 2))) (wrap64 (x14 + 1))) else (none)) else (none)) else (none))) else (if x11.size + x13.size ≤ 9223372036854775807 then ((leaf_Fence.f k (x11 ++ x13)).bind fun bt136 => (if x9 = true then (if bt136.1 = x10 then (if bt136.2.1 = x0 then (if bt136.2.2.toList = ([] : List UInt8) then ((leaf_Closes.f k (x11 ++ x13) x10 x0).bind fun t139 => (if t139 = true then ((leaf_Closes.f k (x11 ++ x13) x10 (wrap64 (x0 - 1))).bind fun t140 => (if t140 = true then ((leaf_Closes.f k (x11 ++ x13) x10 (wrap64 (x0 + x1))).bind fun t141 => (if t141 = true then (some false) else ((leaf_Closes.f k (x11 ++ x13) ((222 - x10) % 256) x0).bind fun t142 => (some (!t142))))) else (some false))) else (some false))) else (some false)) else (some false)) else (some false)) else (some false))) else (none))
end
def scriptoriumlaw05_LeafFences.f (k : Nat) (a0 : Int) (a1 : Int) (a2 : Bool) (a3 : Int) : Option (Bool) := (scriptoriumlaw05_shown.f k).bind fun t128 => (if a0 < 0 then (scriptoriumlaw05_LeafFences.j0 k (wrap64 (-(wrap64 (a0 + 1)))) a1 a2 a3 t128) else (scriptoriumlaw05_LeafFences.j0 k a0 a1 a2 a3 t128))
theorem scriptoriumlaw05_LeafFences.mono_l : ∀ k, (∀ y0 y1 y2 y3 y4, LeO (scriptoriumlaw05_LeafFences.j0 k y0 y1 y2 y3 y4) (scriptoriumlaw05_LeafFences.j0 (k + 1) y0 y1 y2 y3 y4)) ∧ (∀ y0 y1 y2 y3 y4, LeO (scriptoriumlaw05_LeafFences.j1 k y0 y1 y2 y3 y4) (scriptoriumlaw05_LeafFences.j1 (k + 1) y0 y1 y2 y3 y4)) ∧ (∀ y0 y1 y2 y3 y4, LeO (scriptoriumlaw05_LeafFences.j2 k y0 y1 y2 y3 y4) (scriptoriumlaw05_LeafFences.j2 (k + 1) y0 y1 y2 y3 y4)) ∧ (∀ y0 y1 y2 y3 y4, LeO (scriptoriumlaw05_LeafFences.j3 k y0 y1 y2 y3 y4) (scriptoriumlaw05_LeafFences.j3 (k + 1) y0 y1 y2 y3 y4)) ∧ (∀ y0 y1 y2 y3 y4 y5 y6, LeO (scriptoriumlaw05_LeafFences.l0 k y0 y1 y2 y3 y4 y5 y6) (scriptoriumlaw05_LeafFences.l0 (k + 1) y0 y1 y2 y3 y4 y5 y6)) ∧ (∀ y0 y1 y2 y3 y4 y5 y6 y7, LeO (scriptoriumlaw05_LeafFences.l1 k y0 y1 y2 y3 y4 y5 y6 y7) (scriptoriumlaw05_LeafFences.l1 (k + 1) y0 y1 y2 y3 y4 y5 y6 y7))
  | 0 => ⟨fun _ _ _ _ _ r h => by simp [scriptoriumlaw05_LeafFences.j0] at h, fun _ _ _ _ _ r h => by simp [scriptoriumlaw05_LeafFences.j1] at h, fun _ _ _ _ _ r h => by simp [scriptoriumlaw05_LeafFences.j2] at h, fun _ _ _ _ _ r h => by simp [scriptoriumlaw05_LeafFences.j3] at h, fun _ _ _ _ _ _ _ r h => by simp [scriptoriumlaw05_LeafFences.l0] at h, fun _ _ _ _ _ _ _ _ r h => by simp [scriptoriumlaw05_LeafFences.l1] at h⟩
  | k + 1 => by
    obtain ⟨ih0, ih1, ih2, ih3, ih4, ih5⟩ := scriptoriumlaw05_LeafFences.mono_l k
    refine ⟨?_, ?_, ?_, ?_, ?_, ?_⟩
    · intro y0 y1 y2 y3 y4
      unfold scriptoriumlaw05_LeafFences.j0
      repeat' first
      | (with_reducible exact ih0 _ _ _ _ _)
      | (with_reducible exact ih1 _ _ _ _ _)
      | (with_reducible exact ih2 _ _ _ _ _)
      | (with_reducible exact ih3 _ _ _ _ _)
      | (with_reducible exact ih4 _ _ _ _ _ _ _)
      | (with_reducible exact ih5 _ _ _ _ _ _ _ _)
      | (with_reducible exact leaf_Closes.mono _ _ _ _)
      | (with_reducible exact leaf_Fence.mono _ _)
      | (with_reducible exact scriptoriumlaw05_shown.mono _)
      | (with_reducible exact LeO.refl _)
      | (with_reducible exact LeO.none _)
      | (with_reducible refine LeO.ite ?_ ?_)
      | (with_reducible refine LeO.bind ?_ (fun _ => ?_))
      | exact ih0 _ _ _ _ _
      | exact ih1 _ _ _ _ _
      | exact ih2 _ _ _ _ _
      | exact ih3 _ _ _ _ _
      | exact ih4 _ _ _ _ _ _ _
      | exact ih5 _ _ _ _ _ _ _ _
      | exact leaf_Closes.mono _ _ _ _
      | exact leaf_Fence.mono _ _
      | exact scriptoriumlaw05_shown.mono _
      | exact LeO.none _
      | refine LeO.ite ?_ ?_
      | refine LeO.bind ?_ (fun _ => ?_)
    · intro y0 y1 y2 y3 y4
      unfold scriptoriumlaw05_LeafFences.j1
      repeat' first
      | (with_reducible exact ih0 _ _ _ _ _)
      | (with_reducible exact ih1 _ _ _ _ _)
      | (with_reducible exact ih2 _ _ _ _ _)
      | (with_reducible exact ih3 _ _ _ _ _)
      | (with_reducible exact ih4 _ _ _ _ _ _ _)
      | (with_reducible exact ih5 _ _ _ _ _ _ _ _)
      | (with_reducible exact leaf_Closes.mono _ _ _ _)
      | (with_reducible exact leaf_Fence.mono _ _)
      | (with_reducible exact scriptoriumlaw05_shown.mono _)
      | (with_reducible exact LeO.refl _)
      | (with_reducible exact LeO.none _)
      | (with_reducible refine LeO.ite ?_ ?_)
      | (with_reducible refine LeO.bind ?_ (fun _ => ?_))
      | exact ih0 _ _ _ _ _
      | exact ih1 _ _ _ _ _
      | exact ih2 _ _ _ _ _
      | exact ih3 _ _ _ _ _
      | exact ih4 _ _ _ _ _ _ _
      | exact ih5 _ _ _ _ _ _ _ _
      | exact leaf_Closes.mono _ _ _ _
      | exact leaf_Fence.mono _ _
      | exact scriptoriumlaw05_shown.mono _
      | exact LeO.none _
      | refine LeO.ite ?_ ?_
      | refine LeO.bind ?_ (fun _ => ?_)
    · intro y0 y1 y2 y3 y4
      unfold scriptoriumlaw05_LeafFences.j2
      repeat' first
      | (with_reducible exact ih0 _ _ _ _ _)
      | (with_reducible exact ih1 _ _ _ _ _)
      | (with_reducible exact ih2 _ _ _ _ _)
      | (with_reducible exact ih3 _ _ _ _ _)
      | (with_reducible exact ih4 _ _ _ _ _ _ _)
      | (with_reducible exact ih5 _ _ _ _ _ _ _ _)
      | (with_reducible exact leaf_Closes.mono _ _ _ _)
      | (with_reducible exact leaf_Fence.mono _ _)
      | (with_reducible exact scriptoriumlaw05_shown.mono _)
      | (with_reducible exact LeO.refl _)
      | (with_reducible exact LeO.none _)
      | (with_reducible refine LeO.ite ?_ ?_)
      | (with_reducible refine LeO.bind ?_ (fun _ => ?_))
      | exact ih0 _ _ _ _ _
      | exact ih1 _ _ _ _ _
      | exact ih2 _ _ _ _ _
      | exact ih3 _ _ _ _ _
      | exact ih4 _ _ _ _ _ _ _
      | exact ih5 _ _ _ _ _ _ _ _
      | exact leaf_Closes.mono _ _ _ _
      | exact leaf_Fence.mono _ _
      | exact scriptoriumlaw05_shown.mono _
      | exact LeO.none _
      | refine LeO.ite ?_ ?_
      | refine LeO.bind ?_ (fun _ => ?_)
    · intro y0 y1 y2 y3 y4
      unfold scriptoriumlaw05_LeafFences.j3
      repeat' first
      | (with_reducible exact ih0 _ _ _ _ _)
      | (with_reducible exact ih1 _ _ _ _ _)
      | (with_reducible exact ih2 _ _ _ _ _)
      | (with_reducible exact ih3 _ _ _ _ _)
      | (with_reducible exact ih4 _ _ _ _ _ _ _)
      | (with_reducible exact ih5 _ _ _ _ _ _ _ _)
      | (with_reducible exact leaf_Closes.mono _ _ _ _)
      | (with_reducible exact leaf_Fence.mono _ _)
      | (with_reducible exact scriptoriumlaw05_shown.mono _)
      | (with_reducible exact LeO.refl _)
      | (with_reducible exact LeO.none _)
      | (with_reducible refine LeO.ite ?_ ?_)
      | (with_reducible refine LeO.bind ?_ (fun _ => ?_))
      | exact ih0 _ _ _ _ _
      | exact ih1 _ _ _ _ _
      | exact ih2 _ _ _ _ _
      | exact ih3 _ _ _ _ _
      | exact ih4 _ _ _ _ _ _ _
      | exact ih5 _ _ _ _ _ _ _ _
      | exact leaf_Closes.mono _ _ _ _
      | exact leaf_Fence.mono _ _
      | exact scriptoriumlaw05_shown.mono _
      | exact LeO.none _
      | refine LeO.ite ?_ ?_
      | refine LeO.bind ?_ (fun _ => ?_)
    · intro y0 y1 y2 y3 y4 y5 y6
      unfold scriptoriumlaw05_LeafFences.l0
      repeat' first
      | (with_reducible exact ih0 _ _ _ _ _)
      | (with_reducible exact ih1 _ _ _ _ _)
      | (with_reducible exact ih2 _ _ _ _ _)
      | (with_reducible exact ih3 _ _ _ _ _)
      | (with_reducible exact ih4 _ _ _ _ _ _ _)
      | (with_reducible exact ih5 _ _ _ _ _ _ _ _)
      | (with_reducible exact leaf_Closes.mono _ _ _ _)
      | (with_reducible exact leaf_Fence.mono _ _)
      | (with_reducible exact scriptoriumlaw05_shown.mono _)
      | (with_reducible exact LeO.refl _)
      | (with_reducible exact LeO.none _)
      | (with_reducible refine LeO.ite ?_ ?_)
      | (with_reducible refine LeO.bind ?_ (fun _ => ?_))
      | exact ih0 _ _ _ _ _
      | exact ih1 _ _ _ _ _
      | exact ih2 _ _ _ _ _
      | exact ih3 _ _ _ _ _
      | exact ih4 _ _ _ _ _ _ _
      | exact ih5 _ _ _ _ _ _ _ _
      | exact leaf_Closes.mono _ _ _ _
      | exact leaf_Fence.mono _ _
      | exact scriptoriumlaw05_shown.mono _
      | exact LeO.none _
      | refine LeO.ite ?_ ?_
      | refine LeO.bind ?_ (fun _ => ?_)
    · intro y0 y1 y2 y3 y4 y5 y6 y7
      unfold scriptoriumlaw05_LeafFences.l1
      repeat' first
      | (with_reducible exact ih0 _ _ _ _ _)
      | (with_reducible exact ih1 _ _ _ _ _)
      | (with_reducible exact ih2 _ _ _ _ _)
      | (with_reducible exact ih3 _ _ _ _ _)
      | (with_reducible exact ih4 _ _ _ _ _ _ _)
      | (with_reducible exact ih5 _ _ _ _ _ _ _ _)
      | (with_reducible exact leaf_Closes.mono _ _ _ _)
      | (with_reducible exact leaf_Fence.mono _ _)
      | (with_reducible exact scriptoriumlaw05_shown.mono _)
      | (with_reducible exact LeO.refl _)
      | (with_reducible exact LeO.none _)
      | (with_reducible refine LeO.ite ?_ ?_)
      | (with_reducible refine LeO.bind ?_ (fun _ => ?_))
      | exact ih0 _ _ _ _ _
      | exact ih1 _ _ _ _ _
      | exact ih2 _ _ _ _ _
      | exact ih3 _ _ _ _ _
      | exact ih4 _ _ _ _ _ _ _
      | exact ih5 _ _ _ _ _ _ _ _
      | exact leaf_Closes.mono _ _ _ _
      | exact leaf_Fence.mono _ _
      | exact scriptoriumlaw05_shown.mono _
      | exact LeO.none _
      | refine LeO.ite ?_ ?_
      | refine LeO.bind ?_ (fun _ => ?_)
theorem scriptoriumlaw05_LeafFences.mono : ∀ a0 a1 a2 a3 k, LeO (scriptoriumlaw05_LeafFences.f k a0 a1 a2 a3) (scriptoriumlaw05_LeafFences.f (k + 1) a0 a1 a2 a3) := by
  intro a0 a1 a2 a3 k
  obtain ⟨ih0, ih1, ih2, ih3, ih4, ih5⟩ := scriptoriumlaw05_LeafFences.mono_l k
  unfold scriptoriumlaw05_LeafFences.f
  repeat' first
      | (with_reducible exact ih0 _ _ _ _ _)
      | (with_reducible exact ih1 _ _ _ _ _)
      | (with_reducible exact ih2 _ _ _ _ _)
      | (with_reducible exact ih3 _ _ _ _ _)
      | (with_reducible exact ih4 _ _ _ _ _ _ _)
      | (with_reducible exact ih5 _ _ _ _ _ _ _ _)
      | (with_reducible exact leaf_Closes.mono _ _ _ _)
      | (with_reducible exact leaf_Fence.mono _ _)
      | (with_reducible exact scriptoriumlaw05_shown.mono _)
      | (with_reducible exact LeO.refl _)
      | (with_reducible exact LeO.none _)
      | (with_reducible refine LeO.ite ?_ ?_)
      | (with_reducible refine LeO.bind ?_ (fun _ => ?_))
      | exact ih0 _ _ _ _ _
      | exact ih1 _ _ _ _ _
      | exact ih2 _ _ _ _ _
      | exact ih3 _ _ _ _ _
      | exact ih4 _ _ _ _ _ _ _
      | exact ih5 _ _ _ _ _ _ _ _
      | exact leaf_Closes.mono _ _ _ _
      | exact leaf_Fence.mono _ _
      | exact scriptoriumlaw05_shown.mono _
      | exact LeO.none _
      | refine LeO.ite ?_ ?_
      | refine LeO.bind ?_ (fun _ => ?_)
set_option maxHeartbeats 8000000 in
set_option maxRecDepth 100000 in
theorem scriptoriumlaw05_LeafFences.calls (k : Nat) (a0 : Int) (a1 : Int) (a2 : Bool) (a3 : Int) (r : Bool) (w : World) (hG : GW w) (h : scriptoriumlaw05_LeafFences.f k a0 a1 a2 a3 = some r) :
    Calls Tryz.prog 15 #[.int .i64 a0, .int .i64 a1, .bool a2, .int .i64 a3] w fun e w' => e = .returned (.bool r) ∧ Below w.heap.size w w' := by
  have HB := Aside0.mk (Below.refl w.heap.size w)
  have HG := Aside0.mk hG
  clear hG
  have H : ((scriptoriumlaw05_shown.f k).bind fun t128 => (if a0 < 0 then (scriptoriumlaw05_LeafFences.j0 k (wrap64 (-(wrap64 (a0 + 1)))) a1 a2 a3 t128) else (scriptoriumlaw05_LeafFences.j0 k a0 a1 a2 a3 t128))) = some r := h
  clear h
  replace H := Option.bind_eq_some_iff.mp H
  obtain ⟨t128, A50, H⟩ := H
  replace H : (if a0 < 0 then (scriptoriumlaw05_LeafFences.j0 k (wrap64 (-(wrap64 (a0 + 1)))) a1 a2 a3 t128) else (scriptoriumlaw05_LeafFences.j0 k a0 a1 a2 a3 t128)) = some r := H
  have A5 := Aside0.mk A50
  clear A50
  have HC6 := Aside0.mk H
  clear H
  go_enter Tryz.func15, Tryz.ntmps15
  go_upto_if 20 with (first | ((with_reducible refine gate_callee (f := 31) rfl ?_); refine goesL_ (some 18) rfl rfl Tryz.func31 (by kernel_rfl) rfl #[] rfl (by (try simp only [List.map_toArray, List.map_cons, List.map_nil]); first | done | rfl | (simp only [List.length_drop, List.length_take]; rfl)) ?_; (with_reducible refine (scriptoriumlaw05_shown.calls k  t128 _ ?side1 A5.out).mono ?_); (case side1 => (first | (with_reducible first | exact HG.out | exact GW.drewN HG.out _ | exact GW.drewN (GW.drewN HG.out _) _) | exact GW.below HG.out (by repeat (first | (with_reducible first | exact HB.out | apply below_alloc | apply pw_below_drewN | apply below_drew1) | exact HB.out)))); rintro e w7 ⟨rfl, hb⟩; refine ⟨_, rfl, ?_⟩; have n0_ := Aside0.mk (below_step (by repeat (first | (with_reducible first | exact HB.out | apply below_alloc | apply pw_below_drewN | apply below_drew1) | exact HB.out)) hb); clear HB; have HB := n0_; clear n0_; (try clear hb); (try clear hb2); (try clear hk); (try clear hi)))
  (try simp only [Act.put, List.setIfInBounds_toArray, List.set_cons_zero, List.set_cons_succ])
  go_cut [0] (fun v0 wc => ∃ (kq : Nat) (x0_5 : Int), v0 = .int .i64 x0_5 ∧ Aside0 (scriptoriumlaw05_LeafFences.j0 kq x0_5 a1 a2 a3 t128 = some r) ∧ Aside0 (kq ≤ k) ∧ Aside0 (Below w.heap.size w wc))
  case first =>
    have H := HC6.out
    clear HC6
    by_cases c8 : a0 < 0
    · rw [if_pos c8] at H
      have c8b0 : decide (a0 < 0) = true := decide_eq_true c8
      clear c8
      (first | rw [c8b0] | (simp only [i64_w, i32_w]; rw [c8b0]) | skip)
      have H' := Aside0.mk H
      clear H
      go_wp2
      go_meet
      case rel => exact ⟨_, (wrap64 (-(wrap64 (a0 + 1)))), (by first | rfl | (simp; done) | (simp [*]; done)), H', ⟨by first | omega | exact Nat.le_refl _⟩, ⟨by repeat (first | (with_reducible first | exact HB.out | apply below_alloc | apply pw_below_drewN | apply below_drew1) | exact HB.out)⟩⟩
    · rw [if_neg c8] at H
      have c8b0 : decide (a0 < 0) = false := decide_eq_false c8
      clear c8
      (first | rw [c8b0] | (simp only [i64_w, i32_w]; rw [c8b0]) | skip)
      have H' := Aside0.mk H
      clear H
      go_wp2
      go_meet
      case rel => exact ⟨_, (a0), (by first | rfl | (simp; done) | (simp [*]; done)), H', ⟨by first | omega | exact Nat.le_refl _⟩, ⟨by repeat (first | (with_reducible first | exact HB.out | apply below_alloc | apply pw_below_drewN | apply below_drew1) | exact HB.out)⟩⟩
  case rest =>
    clear HC6
    try clear c1
    try clear p2
    try clear c3
    try clear p6
    try clear c8
    try clear c8b0
    obtain ⟨kq, x0_5, rfl, HA, HJ5, HB⟩ := hcut
    cases kq with
    | zero => exact absurd HA.out (by simp [scriptoriumlaw05_LeafFences.j0])
    | succ kj5 =>
      have H := HA.out
      clear HA
      simp only [scriptoriumlaw05_LeafFences.j0] at H
      have HC9 := Aside0.mk H
      clear H
      go_upto_if 25 with (fail)
      go_cut [1] (fun v1 wc => ∃ (kq : Nat) (x1_8 : Int), v1 = .int .i64 x1_8 ∧ Aside0 (scriptoriumlaw05_LeafFences.j1 kq x0_5 x1_8 a2 a3 t128 = some r) ∧ Aside0 (kq ≤ kj5) ∧ Aside0 (Below w.heap.size w wc))
      case first =>
        have H := HC9.out
        clear HC9
        by_cases c10 : a1 < 0
        · rw [if_pos c10] at H
          have c10b0 : decide (a1 < 0) = true := decide_eq_true c10
          clear c10
          (first | rw [c10b0] | (simp only [i64_w, i32_w]; rw [c10b0]) | skip)
          have H' := Aside0.mk H
          clear H
          go_wp2
          go_meet
          case rel => exact ⟨_, (wrap64 (-(wrap64 (a1 + 1)))), (by first | rfl | (simp; done) | (simp [*]; done)), H', ⟨by have := HJ5.out; first | omega | exact Nat.le_refl _⟩, ⟨by repeat (first | (with_reducible first | exact HB.out | apply below_alloc | apply pw_below_drewN | apply below_drew1) | exact HB.out)⟩⟩
        · rw [if_neg c10] at H
          have c10b0 : decide (a1 < 0) = false := decide_eq_false c10
          clear c10
          (first | rw [c10b0] | (simp only [i64_w, i32_w]; rw [c10b0]) | skip)
          have H' := Aside0.mk H
          clear H
          go_wp2
          go_meet
          case rel => exact ⟨_, (a1), (by first | rfl | (simp; done) | (simp [*]; done)), H', ⟨by have := HJ5.out; first | omega | exact Nat.le_refl _⟩, ⟨by repeat (first | (with_reducible first | exact HB.out | apply below_alloc | apply pw_below_drewN | apply below_drew1) | exact HB.out)⟩⟩
      case rest =>
        clear HC9
        try clear c1
        try clear p2
        try clear c3
        try clear p6
        try clear c8
        try clear c8b0
        try clear c10
        try clear c10b0
        try clear p2
        try clear p6
        obtain ⟨kq, x1_8, rfl, HA, HJ8, HB⟩ := hcut
        cases kq with
        | zero => exact absurd HA.out (by simp [scriptoriumlaw05_LeafFences.j1])
        | succ kj8 =>
          have H := HA.out
          clear HA
          simp only [scriptoriumlaw05_LeafFences.j1] at H
          have HC11 := Aside0.mk H
          clear H
          go_upto_if 30 with (fail)
          go_cut [3] (fun v3 wc => ∃ (kq : Nat) (x3_10 : Int), v3 = .int .i64 x3_10 ∧ Aside0 (scriptoriumlaw05_LeafFences.j2 kq x0_5 x1_8 a2 x3_10 t128 = some r) ∧ Aside0 (kq ≤ kj8) ∧ Aside0 (Below w.heap.size w wc))
          case first =>
            have H := HC11.out
            clear HC11
            by_cases c12 : a3 < 0
            · rw [if_pos c12] at H
              have c12b0 : decide (a3 < 0) = true := decide_eq_true c12
              clear c12
              (first | rw [c12b0] | (simp only [i64_w, i32_w]; rw [c12b0]) | skip)
              have H' := Aside0.mk H
              clear H
              go_wp2
              go_meet
              case rel => exact ⟨_, (wrap64 (-(wrap64 (a3 + 1)))), (by first | rfl | (simp; done) | (simp [*]; done)), H', ⟨by have := HJ5.out; have := HJ8.out; first | omega | exact Nat.le_refl _⟩, ⟨by repeat (first | (with_reducible first | exact HB.out | apply below_alloc | apply pw_below_drewN | apply below_drew1) | exact HB.out)⟩⟩
            · rw [if_neg c12] at H
              have c12b0 : decide (a3 < 0) = false := decide_eq_false c12
              clear c12
              (first | rw [c12b0] | (simp only [i64_w, i32_w]; rw [c12b0]) | skip)
              have H' := Aside0.mk H
              clear H
              go_wp2
              go_meet
              case rel => exact ⟨_, (a3), (by first | rfl | (simp; done) | (simp [*]; done)), H', ⟨by have := HJ5.out; have := HJ8.out; first | omega | exact Nat.le_refl _⟩, ⟨by repeat (first | (with_reducible first | exact HB.out | apply below_alloc | apply pw_below_drewN | apply below_drew1) | exact HB.out)⟩⟩
          case rest =>
            clear HC11
            try clear c1
            try clear p2
            try clear c3
            try clear p6
            try clear c8
            try clear c8b0
            try clear c10
            try clear c10b0
            try clear c12
            try clear c12b0
            try clear p2
            try clear p6
            obtain ⟨kq, x3_10, rfl, HA, HJ10, HB⟩ := hcut
            cases kq with
            | zero => exact absurd HA.out (by simp [scriptoriumlaw05_LeafFences.j2])
            | succ kj10 =>
              have H := HA.out
              clear HA
              simp only [scriptoriumlaw05_LeafFences.j2] at H
              have HC13 := Aside0.mk H
              clear H
              go_upto_if 40 with (fail)
              go_cut [10] (fun v10 wc => ∃ (kq : Nat) (x10_12 : Int), v10 = .int .u8 x10_12 ∧ Aside0 (scriptoriumlaw05_LeafFences.j3 kq (wrap64 (3 + (Int.tmod x0_5 40))) (wrap64 (1 + (Int.tmod x1_8 40))) x3_10 t128 x10_12 = some r) ∧ Aside0 (kq ≤ kj10) ∧ Aside0 (Below w.heap.size w wc))
              case first =>
                have H := HC13.out
                clear HC13
                by_cases c14 : a2 = true
                · subst c14
                  have H1 : (scriptoriumlaw05_LeafFences.j3 kj10 (wrap64 (3 + (Int.tmod x0_5 40))) (wrap64 (1 + (Int.tmod x1_8 40))) x3_10 t128 126) = some r := by rw [if_pos rfl] at H; exact H
                  clear H
                  have H := H1
                  clear H1
                  have H' := Aside0.mk H
                  clear H
                  go_wp2
                  go_meet
                  case rel => exact ⟨_, (126), (by first | rfl | (simp; done) | (simp [*]; done)), H', ⟨by have := HJ5.out; have := HJ8.out; have := HJ10.out; first | omega | exact Nat.le_refl _⟩, ⟨by repeat (first | (with_reducible first | exact HB.out | apply below_alloc | apply pw_below_drewN | apply below_drew1) | exact HB.out)⟩⟩
                · replace c14 := Bool.eq_false_iff.mpr c14
                  subst c14
                  have H1 : (scriptoriumlaw05_LeafFences.j3 kj10 (wrap64 (3 + (Int.tmod x0_5 40))) (wrap64 (1 + (Int.tmod x1_8 40))) x3_10 t128 96) = some r := by rw [if_neg (show ¬ (false = true) by decide)] at H; exact H
                  clear H
                  have H := H1
                  clear H1
                  have H' := Aside0.mk H
                  clear H
                  go_wp2
                  go_meet
                  case rel => exact ⟨_, (96), (by first | rfl | (simp; done) | (simp [*]; done)), H', ⟨by have := HJ5.out; have := HJ8.out; have := HJ10.out; first | omega | exact Nat.le_refl _⟩, ⟨by repeat (first | (with_reducible first | exact HB.out | apply below_alloc | apply pw_below_drewN | apply below_drew1) | exact HB.out)⟩⟩
              case rest =>
                clear HC13
                try clear c1
                try clear p2
                try clear c3
                try clear p6
                try clear c8
                try clear c8b0
                try clear c10
                try clear c10b0
                try clear c12
                try clear c12b0
                try clear c14
                try clear p2
                try clear p6
                obtain ⟨kq, x10_12, rfl, HA, HJ12, HB⟩ := hcut
                cases kq with
                | zero => exact absurd HA.out (by simp [scriptoriumlaw05_LeafFences.j3])
                | succ kj12 =>
                  have H := HA.out
                  clear HA
                  simp only [scriptoriumlaw05_LeafFences.j3] at H
                  have H' := Aside0.mk H
                  clear H
                  go_wp2
                  go_loopg [11, 12] kj12 (fun kq v11 v12 w' => ∃ (x11_5 : ByteArray) (x12_5 : Int), v11 = .string x11_5 ∧ v12 = .int .i64 x12_5 ∧ Aside0 (scriptoriumlaw05_LeafFences.l0 kq (wrap64 (3 + (Int.tmod x0_5 40))) (wrap64 (1 + (Int.tmod x1_8 40))) x3_10 t128 x10_12 x11_5 x12_5 = some r) ∧ Aside0 (kq ≤ kj12) ∧ Aside0 (Below w.heap.size w w'))
                  case atStart => exact ⟨((⟨#[]⟩ : ByteArray)), (0), (by first | rfl | (simp; done) | (simp [*]; done)), (by first | rfl | (simp; done) | (simp [*]; done)), H', ⟨Nat.le_refl _⟩, ⟨by repeat (first | (with_reducible first | exact HB.out | apply below_alloc | apply pw_below_drewN | apply below_drew1) | exact HB.out)⟩⟩
                  case round =>
                    clear H'
                    try clear c1
                    try clear p2
                    try clear c3
                    try clear p6
                    try clear c8
                    try clear c8b0
                    try clear c10
                    try clear c10b0
                    try clear c12
                    try clear c12b0
                    try clear c14
                    try clear p2
                    try clear p6
                    obtain ⟨x11_5, x12_5, rfl, rfl, HA, HK5, HB⟩ := hrel
                    cases gk with
                    | zero => exact absurd HA.out (by simp [scriptoriumlaw05_LeafFences.l0])
                    | succ k5 =>
                      have H := HA.out
                      clear HA
                      simp only [scriptoriumlaw05_LeafFences.l0] at H
                      by_cases c15 : x12_5 < (wrap64 (3 + (Int.tmod x0_5 40)))
                      · rw [if_pos c15] at H
                        have c15b0 : decide (x12_5 < (wrap64 (3 + (Int.tmod x0_5 40)))) = true := decide_eq_true c15
                        clear c15
                        obtain ⟨y129, hy129⟩ : ∃ y_ : List Int, y_ = (([x10_12] : List Int)) := ⟨_, rfl⟩
                        replace H : (if x11_5.size + (strOfNums y129).size ≤ 9223372036854775807 then (scriptoriumlaw05_LeafFences.l0 k5 (wrap64 (3 + (Int.tmod x0_5 40))) (wrap64 (1 + (Int.tmod x1_8 40))) x3_10 t128 x10_12 (x11_5 ++ (strOfNums y129)) (wrap64 (x12_5 + 1))) else (none)) = some r := by first | (rw [hy129]; with_reducible exact H) | (have H2_ := (Option.bind_some _ _).symm.trans H; rw [hy129]; with_reducible exact H2_) | (have H2_ := (Option.bind_some _ _).symm.trans H; with_reducible exact H2_) | with_reducible exact H | (rw [hy129]; exact H) | exact H
                        have Ny129 := Aside0.mk hy129
                        clear hy129
                        by_cases c16 : x11_5.size + (strOfNums y129).size ≤ 9223372036854775807
                        · rw [if_pos c16] at H
                          have c16b0 := eq_true c16
                          have c16b1 : decide (x11_5.size + (strOfNums y129).size ≤ 9223372036854775807) = true := decide_eq_true c16
                          try have c16b2 : (9223372036854775807 < x11_5.size + (strOfNums y129).size) = False := eq_false (Nat.not_lt.2 c16)
                          have H' := Aside0.mk H
                          clear H
                          go_wp2_with (first | ((with_reducible refine gate_dst (N := 48) rfl ?_); refine Kd.R_lit (Kd.int .u8) _ 5 ?hg (N := 48) ?hd (xs := ([x10_12] : List Int)) (inner := [.int .u8 x10_12]) (ok := fun _ => True) (okp := fun _ => True) ?hr ?hp (fun _ hk => hk) trivial (Below.refl _ _) (Nat.le_refl _) (by simp) ?_; (case hd => rfl); (case hg => rfl); (case hr => first | (go_simp; done) | (go_simp; rfl)); (case hp => exact (Reps.one (show Kd.M (Kd.int .u8) _ _ _ x10_12 [.int .u8 x10_12] from rfl) (Reps.none _ _))); intro v130 w17 ho18 hb hg_ hnew_; clear hg_ hnew_; (first | rw [← Ny129.out] at ho18 | (simp only [Int.reduceToNat] at ho18; rw [← Ny129.out] at ho18)); have n0_ := Aside0.mk (Kd.R_lower ho18 (below_size (by repeat (first | (with_reducible first | exact HB.out | apply below_alloc | apply pw_below_drewN | apply below_drew1) | exact HB.out)))); have n1_ := Aside0.mk (below_step (by repeat (first | (with_reducible first | exact HB.out | apply below_alloc | apply pw_below_drewN | apply below_drew1) | exact HB.out)) hb); clear HB; have HO131 := n0_; have HB := n1_; clear n0_ n1_; clear hb ho18; have hcv19 := own_string (P := Tryz.prog) Tryz.underlying28 Tryz.underlying5 Tryz.underlying9 (Kd.own_of_R HO131.out)))
                          go_roundg k5
                          case measure => have := HJ5.out; have := HJ8.out; have := HJ10.out; have := HJ12.out; have := HK5.out; omega
                          case rel => exact ⟨(x11_5 ++ (strOfNums y129)), (wrap64 (x12_5 + 1)), (by first | rfl | (simp; done) | (simp [*]; done)), (by first | rfl | (simp; done) | (simp [*]; done)), H', ⟨by have := HJ5.out; have := HJ8.out; have := HJ10.out; have := HJ12.out; have := HK5.out; omega⟩, ⟨by repeat (first | (with_reducible first | exact HB.out | apply below_alloc | apply pw_below_drewN | apply below_drew1) | exact HB.out)⟩⟩
                        · rw [if_neg c16] at H
                          exact absurd H (by simp)
                      · rw [if_neg c15] at H
                        have c15b0 : decide (x12_5 < (wrap64 (3 + (Int.tmod x0_5 40)))) = false := decide_eq_false c15
                        clear c15
                        have H' := Aside0.mk H
                        clear H
                        go_wp2
                        go_loopg [13, 14] k5 (fun kq v13 v14 w' => ∃ (x13_6 : ByteArray) (x14_6 : Int), v13 = .string x13_6 ∧ v14 = .int .i64 x14_6 ∧ Aside0 (scriptoriumlaw05_LeafFences.l1 kq (wrap64 (3 + (Int.tmod x0_5 40))) (wrap64 (1 + (Int.tmod x1_8 40))) x3_10 t128 x10_12 x11_5 x13_6 x14_6 = some r) ∧ Aside0 (kq ≤ k5) ∧ Aside0 (Below w.heap.size w w'))
                        case atStart => exact ⟨((⟨#[]⟩ : ByteArray)), (0), (by first | rfl | (simp; done) | (simp [*]; done)), (by first | rfl | (simp; done) | (simp [*]; done)), H', ⟨Nat.le_refl _⟩, ⟨by repeat (first | (with_reducible first | exact HB.out | apply below_alloc | apply pw_below_drewN | apply below_drew1) | exact HB.out)⟩⟩
                        case round =>
                          clear H'
                          try clear c1
                          try clear hcv1
                          try clear p2
                          try clear c3
                          try clear p6
                          try clear c8
                          try clear c8b0
                          try clear c10
                          try clear c10b0
                          try clear c12
                          try clear c12b0
                          try clear c14
                          try clear c15
                          try clear c15b0
                          try clear c16
                          try clear c16b0
                          try clear c16b1
                          try clear c16b2
                          try clear hcv19
                          try clear p2
                          try clear p6
                          obtain ⟨x13_6, x14_6, rfl, rfl, HA, HK6, HB⟩ := hrel
                          cases gk with
                          | zero => exact absurd HA.out (by simp [scriptoriumlaw05_LeafFences.l1])
                          | succ k6 =>
                            have H := HA.out
                            clear HA
                            simp only [scriptoriumlaw05_LeafFences.l1] at H
                            by_cases c20 : x14_6 < (Int.tmod x3_10 5)
                            · rw [if_pos c20] at H
                              have c20b0 : decide (x14_6 < (Int.tmod x3_10 5)) = true := decide_eq_true c20
                              clear c20
                              obtain ⟨y132, hy132⟩ : ∃ y_ : List ByteArray, y_ = (([(⟨#[32]⟩ : ByteArray), (⟨#[9]⟩ : ByteArray)] : List ByteArray)) := ⟨_, rfl⟩
                              replace H : (if 0 ≤ (Int.tmod x14_6 2) then (if (Int.tmod x14_6 2) < (y132.length : Int) then (if x13_6.size + (rdOf ByteArray.empty y132 (Int.tmod x14_6 2)).size ≤ 9223372036854775807 then (scriptoriumlaw05_LeafFences.l1 k6 (wrap64 (3 + (Int.tmod x0_5 40))) (wrap64 (1 + (Int.tmod x1_8 40))) x3_10 t128 x10_12 x11_5 (x13_6 ++ (rdOf ByteArray.empty y132 (Int.tmod x14_6 2))) (wrap64 (x14_6 + 1))) else (none)) else (none)) else (none)) = some r := by first | (rw [hy132]; with_reducible exact H) | (have H2_ := (Option.bind_some _ _).symm.trans H; rw [hy132]; with_reducible exact H2_) | (have H2_ := (Option.bind_some _ _).symm.trans H; with_reducible exact H2_) | with_reducible exact H | (rw [hy132]; exact H) | exact H
                              have Ny132 := Aside0.mk hy132
                              clear hy132
                              obtain ⟨ji21, hji21⟩ : ∃ j_ : Int, (Int.tmod x14_6 2) = j_ := ⟨_, rfl⟩
                              replace H : (if 0 ≤ (ji21) then (if (ji21) < (y132.length : Int) then (if x13_6.size + (rdOf ByteArray.empty y132 (ji21)).size ≤ 9223372036854775807 then (scriptoriumlaw05_LeafFences.l1 k6 (wrap64 (3 + (Int.tmod x0_5 40))) (wrap64 (1 + (Int.tmod x1_8 40))) x3_10 t128 x10_12 x11_5 (x13_6 ++ (rdOf ByteArray.empty y132 (ji21))) (wrap64 (x14_6 + 1))) else (none)) else (none)) else (none)) = some r := by first | (rw [hji21] at H; exact H) | (simp only [hji21] at H ⊢; exact H)
                              by_cases c22 : 0 ≤ (ji21)
                              · rw [if_pos c22] at H
                                have c22b0 : decide (0 ≤ (ji21)) = true := decide_eq_true c22
                                clear c22
                                by_cases c23 : (ji21) < (y132.length : Int)
                                · rw [if_pos c23] at H
                                  have c23b0 : decide ((ji21) < (y132.length : Int)) = true := decide_eq_true c23
                                  clear c23
                                  by_cases c24 : x13_6.size + (rdOf ByteArray.empty y132 (ji21)).size ≤ 9223372036854775807
                                  · rw [if_pos c24] at H
                                    have c24b0 := eq_true c24
                                    have c24b1 : decide (x13_6.size + (rdOf ByteArray.empty y132 (ji21)).size ≤ 9223372036854775807) = true := decide_eq_true c24
                                    try have c24b2 : (9223372036854775807 < x13_6.size + (rdOf ByteArray.empty y132 (ji21)).size) = False := eq_false (Nat.not_lt.2 c24)
                                    have H' := Aside0.mk H
                                    clear H
                                    go_wp2_with (first | ((with_reducible refine gate_dst (N := 58) rfl ?_); refine Kd.R_lit Kd.string _ 9 ?hg (N := 58) ?hd (xs := ([(⟨#[32]⟩ : ByteArray), (⟨#[9]⟩ : ByteArray)] : List ByteArray)) (inner := [.string (⟨#[32]⟩ : ByteArray), .string (⟨#[9]⟩ : ByteArray)]) (ok := fun _ => True) (okp := fun _ => True) ?hr ?hp (fun _ hk => hk) trivial (Below.refl _ _) (Nat.le_refl _) (by simp) ?_; (case hd => rfl); (case hg => rfl); (case hr => first | (go_simp; done) | (go_simp; rfl)); (case hp => exact (Reps.one (show Kd.M Kd.string _ _ _ (⟨#[32]⟩ : ByteArray) [.string (⟨#[32]⟩ : ByteArray)] from rfl) (Reps.one (show Kd.M Kd.string _ _ _ (⟨#[9]⟩ : ByteArray) [.string (⟨#[9]⟩ : ByteArray)] from rfl) (Reps.none _ _)))); intro v133 w25 ho26 hb hg_ hnew_; clear hg_ hnew_; (first | rw [← Ny132.out] at ho26 | (simp only [Int.reduceToNat] at ho26; rw [← Ny132.out] at ho26)); have n0_ := Aside0.mk (Kd.R_lower ho26 (below_size (by repeat (first | (with_reducible first | exact HB.out | apply below_alloc | apply pw_below_drewN | apply below_drew1) | exact HB.out)))); have n1_ := Aside0.mk (below_step (by repeat (first | (with_reducible first | exact HB.out | apply below_alloc | apply pw_below_drewN | apply below_drew1) | exact HB.out)) hb); clear HB; have HO134 := n0_; have HB := n1_; clear n0_ n1_; clear hb ho26; obtain ⟨Ao27, co27, eo27⟩ := Kd.R_slice HO134.out; subst eo27; have p135 : 0 ≤ ((ji21) : Int) := of_decide_eq_true (by first | (with_reducible assumption) | assumption); have q135 : (ji21) < (y132.length : Int) := of_decide_eq_true (by first | (with_reducible assumption) | assumption); obtain ⟨ad135, e135, hx135_0⟩ := Kd.at_string (Kd.R_reads' HO134.out).2.2 (ji21) p135 q135; cases e135; replace p135 := eq_true p135; replace q135 := eq_true q135))
                                    go_roundg k6
                                    case measure => have := HJ5.out; have := HJ8.out; have := HJ10.out; have := HJ12.out; have := HK5.out; have := HK6.out; omega
                                    case rel => exact ⟨(x13_6 ++ (rdOf ByteArray.empty y132 (ji21))), (wrap64 (x14_6 + 1)), (by first | rfl | (simp; done) | (simp only [← hji21] <;> (first | rfl | simp)) | (simp [*]; done)), (by first | rfl | (simp; done) | (simp [*]; done)), H', ⟨by have := HJ5.out; have := HJ8.out; have := HJ10.out; have := HJ12.out; have := HK5.out; have := HK6.out; omega⟩, ⟨by repeat (first | (with_reducible first | exact HB.out | apply below_alloc | apply pw_below_drewN | apply below_drew1) | exact HB.out)⟩⟩
                                  · rw [if_neg c24] at H
                                    exact absurd H (by simp)
                                · rw [if_neg c23] at H
                                  exact absurd H (by simp)
                              · rw [if_neg c22] at H
                                exact absurd H (by simp)
                            · rw [if_neg c20] at H
                              have c20b0 : decide (x14_6 < (Int.tmod x3_10 5)) = false := decide_eq_false c20
                              clear c20
                              by_cases c28 : x11_5.size + x13_6.size ≤ 9223372036854775807
                              · rw [if_pos c28] at H
                                have c28b0 := eq_true c28
                                have c28b1 : decide (x11_5.size + x13_6.size ≤ 9223372036854775807) = true := decide_eq_true c28
                                try have c28b2 : (9223372036854775807 < x11_5.size + x13_6.size) = False := eq_false (Nat.not_lt.2 c28)
                                replace H := Option.bind_eq_some_iff.mp H
                                obtain ⟨⟨t136, t137, t138⟩, A290, H⟩ := H
                                replace H : (if t128 = true then (if t136 = x10_12 then (if t137 = (wrap64 (3 + (Int.tmod x0_5 40))) then (if t138.toList = ([] : List UInt8) then ((leaf_Closes.f k6 (x11_5 ++ x13_6) x10_12 (wrap64 (3 + (Int.tmod x0_5 40)))).bind fun t139 => (if t139 = true then ((leaf_Closes.f k6 (x11_5 ++ x13_6) x10_12 (wrap64 ((wrap64 (3 + (Int.tmod x0_5 40))) - 1))).bind fun t140 => (if t140 = true then ((leaf_Closes.f k6 (x11_5 ++ x13_6) x10_12 (wrap64 ((wrap64 (3 + (Int.tmod x0_5 40))) + (wrap64 (1 + (Int.tmod x1_8 40)))))).bind fun t141 => (if t141 = true then (some false) else ((leaf_Closes.f k6 (x11_5 ++ x13_6) ((222 - x10_12) % 256) (wrap64 (3 + (Int.tmod x0_5 40)))).bind fun t142 => (some (!t142))))) else (some false))) else (some false))) else (some false)) else (some false)) else (some false)) else (some false)) = some r := H
                                have A29 := Aside0.mk A290
                                clear A290
                                by_cases c30 : t128 = true
                                · subst c30
                                  have H1 : (if t136 = x10_12 then (if t137 = (wrap64 (3 + (Int.tmod x0_5 40))) then (if t138.toList = ([] : List UInt8) then ((leaf_Closes.f k6 (x11_5 ++ x13_6) x10_12 (wrap64 (3 + (Int.tmod x0_5 40)))).bind fun t139 => (if t139 = true then ((leaf_Closes.f k6 (x11_5 ++ x13_6) x10_12 (wrap64 ((wrap64 (3 + (Int.tmod x0_5 40))) - 1))).bind fun t140 => (if t140 = true then ((leaf_Closes.f k6 (x11_5 ++ x13_6) x10_12 (wrap64 ((wrap64 (3 + (Int.tmod x0_5 40))) + (wrap64 (1 + (Int.tmod x1_8 40)))))).bind fun t141 => (if t141 = true then (some false) else ((leaf_Closes.f k6 (x11_5 ++ x13_6) ((222 - x10_12) % 256) (wrap64 (3 + (Int.tmod x0_5 40)))).bind fun t142 => (some (!t142))))) else (some false))) else (some false))) else (some false)) else (some false)) else (some false)) = some r := by rw [if_pos rfl] at H; exact H
                                  clear H
                                  have H := H1
                                  clear H1
                                  by_cases c31 : t136 = x10_12
                                  · rw [if_pos c31] at H
                                    have c31b0 : (t136 == x10_12) = true := beq_iff_eq.mpr c31
                                    have c31b1 : (t136 != x10_12) = false := bne_eq_false_iff_eq.mpr c31
                                    clear c31
                                    by_cases c32 : t137 = (wrap64 (3 + (Int.tmod x0_5 40)))
                                    · rw [if_pos c32] at H
                                      have c32b0 : (t137 == (wrap64 (3 + (Int.tmod x0_5 40)))) = true := beq_iff_eq.mpr c32
                                      have c32b1 : (t137 != (wrap64 (3 + (Int.tmod x0_5 40)))) = false := bne_eq_false_iff_eq.mpr c32
                                      clear c32
                                      by_cases c33 : t138.toList = ([] : List UInt8)
                                      · rw [if_pos c33] at H
                                        have c33b0 : (t138.toList == ([] : List UInt8)) = true := beq_iff_eq.mpr c33
                                        have c33b1 : (t138.toList != ([] : List UInt8)) = false := bne_eq_false_iff_eq.mpr c33
                                        have c33e0 : t138.toList.isEmpty = true := by rw [c33]; rfl
                                        clear c33
                                        replace H := Option.bind_eq_some_iff.mp H
                                        obtain ⟨t139, A340, H⟩ := H
                                        replace H : (if t139 = true then ((leaf_Closes.f k6 (x11_5 ++ x13_6) x10_12 (wrap64 ((wrap64 (3 + (Int.tmod x0_5 40))) - 1))).bind fun t140 => (if t140 = true then ((leaf_Closes.f k6 (x11_5 ++ x13_6) x10_12 (wrap64 ((wrap64 (3 + (Int.tmod x0_5 40))) + (wrap64 (1 + (Int.tmod x1_8 40)))))).bind fun t141 => (if t141 = true then (some false) else ((leaf_Closes.f k6 (x11_5 ++ x13_6) ((222 - x10_12) % 256) (wrap64 (3 + (Int.tmod x0_5 40)))).bind fun t142 => (some (!t142))))) else (some false))) else (some false)) = some r := H
                                        have A34 := Aside0.mk A340
                                        clear A340
                                        by_cases c35 : t139 = true
                                        · subst c35
                                          have H1 : ((leaf_Closes.f k6 (x11_5 ++ x13_6) x10_12 (wrap64 ((wrap64 (3 + (Int.tmod x0_5 40))) - 1))).bind fun t140 => (if t140 = true then ((leaf_Closes.f k6 (x11_5 ++ x13_6) x10_12 (wrap64 ((wrap64 (3 + (Int.tmod x0_5 40))) + (wrap64 (1 + (Int.tmod x1_8 40)))))).bind fun t141 => (if t141 = true then (some false) else ((leaf_Closes.f k6 (x11_5 ++ x13_6) ((222 - x10_12) % 256) (wrap64 (3 + (Int.tmod x0_5 40)))).bind fun t142 => (some (!t142))))) else (some false))) = some r := by rw [if_pos rfl] at H; exact H
                                          clear H
                                          have H := H1
                                          clear H1
                                          replace H := Option.bind_eq_some_iff.mp H
                                          obtain ⟨t140, A360, H⟩ := H
                                          replace H : (if t140 = true then ((leaf_Closes.f k6 (x11_5 ++ x13_6) x10_12 (wrap64 ((wrap64 (3 + (Int.tmod x0_5 40))) + (wrap64 (1 + (Int.tmod x1_8 40)))))).bind fun t141 => (if t141 = true then (some false) else ((leaf_Closes.f k6 (x11_5 ++ x13_6) ((222 - x10_12) % 256) (wrap64 (3 + (Int.tmod x0_5 40)))).bind fun t142 => (some (!t142))))) else (some false)) = some r := H
                                          have A36 := Aside0.mk A360
                                          clear A360
                                          by_cases c37 : t140 = true
                                          · subst c37
                                            have H1 : ((leaf_Closes.f k6 (x11_5 ++ x13_6) x10_12 (wrap64 ((wrap64 (3 + (Int.tmod x0_5 40))) + (wrap64 (1 + (Int.tmod x1_8 40)))))).bind fun t141 => (if t141 = true then (some false) else ((leaf_Closes.f k6 (x11_5 ++ x13_6) ((222 - x10_12) % 256) (wrap64 (3 + (Int.tmod x0_5 40)))).bind fun t142 => (some (!t142))))) = some r := by rw [if_pos rfl] at H; exact H
                                            clear H
                                            have H := H1
                                            clear H1
                                            replace H := Option.bind_eq_some_iff.mp H
                                            obtain ⟨t141, A380, H⟩ := H
                                            replace H : (if t141 = true then (some false) else ((leaf_Closes.f k6 (x11_5 ++ x13_6) ((222 - x10_12) % 256) (wrap64 (3 + (Int.tmod x0_5 40)))).bind fun t142 => (some (!t142)))) = some r := H
                                            have A38 := Aside0.mk A380
                                            clear A380
                                            by_cases c39 : t141 = true
                                            · subst c39
                                              have H1 : (some false) = some r := by rw [if_pos rfl] at H; exact H
                                              clear H
                                              have H := H1
                                              clear H1
                                              obtain rfl := Option.some.inj H
                                              go_wp2_with (first | ((with_reducible refine gate_callee (f := 34) rfl ?_); refine goesL_ (some 68) rfl rfl Tryz.func34 (by kernel_rfl) rfl #[.string (x11_5 ++ x13_6)] rfl (by (try simp only [List.map_toArray, List.map_cons, List.map_nil]); first | done | rfl | (simp only [List.length_drop, List.length_take]; rfl)) ?_; (with_reducible refine (leaf_Fence.calls k6 (x11_5 ++ x13_6) t136 t137 t138 _ ?side1 A29.out).mono ?_); (case side1 => (first | (with_reducible first | exact HG.out | exact GW.drewN HG.out _ | exact GW.drewN (GW.drewN HG.out _) _) | exact GW.below HG.out (by repeat (first | (with_reducible first | exact HB.out | apply below_alloc | apply pw_below_drewN | apply below_drew1) | exact HB.out)))); rintro e w40 ⟨rfl, hb⟩; refine ⟨_, rfl, ?_⟩; have n0_ := Aside0.mk (below_step (by repeat (first | (with_reducible first | exact HB.out | apply below_alloc | apply pw_below_drewN | apply below_drew1) | exact HB.out)) hb); clear HB; have HB := n0_; clear n0_; (try clear hb); (try clear hb2); (try clear hk); (try clear hi)) | (go_at_call 40; (with_reducible refine (leaf_Closes.calls k6 (x11_5 ++ x13_6) x10_12 (wrap64 (3 + (Int.tmod x0_5 40))) true _ ?side1 A34.out).mono ?_); (case side1 => (first | (with_reducible first | exact HG.out | exact GW.drewN HG.out _ | exact GW.drewN (GW.drewN HG.out _) _) | exact GW.below HG.out (by repeat (first | (with_reducible first | exact HB.out | apply below_alloc | apply pw_below_drewN | apply below_drew1) | exact HB.out)))); rintro e w41 ⟨rfl, hb⟩; have n0_ := Aside0.mk (below_step (by repeat (first | (with_reducible first | exact HB.out | apply below_alloc | apply pw_below_drewN | apply below_drew1) | exact HB.out)) hb); clear HB; have HB := n0_; clear n0_; (try clear hb); (try clear hb2); (try clear hk); (try clear hi)) | (go_at_call 40; (with_reducible refine (leaf_Closes.calls k6 (x11_5 ++ x13_6) x10_12 (wrap64 ((wrap64 (3 + (Int.tmod x0_5 40))) - 1)) true _ ?side1 A36.out).mono ?_); (case side1 => (first | (with_reducible first | exact HG.out | exact GW.drewN HG.out _ | exact GW.drewN (GW.drewN HG.out _) _) | exact GW.below HG.out (by repeat (first | (with_reducible first | exact HB.out | apply below_alloc | apply pw_below_drewN | apply below_drew1) | exact HB.out)))); rintro e w42 ⟨rfl, hb⟩; have n0_ := Aside0.mk (below_step (by repeat (first | (with_reducible first | exact HB.out | apply below_alloc | apply pw_below_drewN | apply below_drew1) | exact HB.out)) hb); clear HB; have HB := n0_; clear n0_; (try clear hb); (try clear hb2); (try clear hk); (try clear hi)) | (go_at_call 40; (with_reducible refine (leaf_Closes.calls k6 (x11_5 ++ x13_6) x10_12 (wrap64 ((wrap64 (3 + (Int.tmod x0_5 40))) + (wrap64 (1 + (Int.tmod x1_8 40))))) true _ ?side1 A38.out).mono ?_); (case side1 => (first | (with_reducible first | exact HG.out | exact GW.drewN HG.out _ | exact GW.drewN (GW.drewN HG.out _) _) | exact GW.below HG.out (by repeat (first | (with_reducible first | exact HB.out | apply below_alloc | apply pw_below_drewN | apply below_drew1) | exact HB.out)))); rintro e w43 ⟨rfl, hb⟩; have n0_ := Aside0.mk (below_step (by repeat (first | (with_reducible first | exact HB.out | apply below_alloc | apply pw_below_drewN | apply below_drew1) | exact HB.out)) hb); clear HB; have HB := n0_; clear n0_; (try clear hb); (try clear hb2); (try clear hk); (try clear hi)))
                                              go_ret
                                              exact ⟨by first | rfl | (simp [errW_none, errW_some] <;> rfl) | (simp [*, errW_none, errW_some] <;> rfl), by repeat (first | (with_reducible first | exact HB.out | apply below_alloc | apply pw_below_drewN | apply below_drew1) | exact HB.out)⟩
                                            · replace c39 := Bool.eq_false_iff.mpr c39
                                              subst c39
                                              have H1 : ((leaf_Closes.f k6 (x11_5 ++ x13_6) ((222 - x10_12) % 256) (wrap64 (3 + (Int.tmod x0_5 40)))).bind fun t142 => (some (!t142))) = some r := by rw [if_neg (show ¬ (false = true) by decide)] at H; exact H
                                              clear H
                                              have H := H1
                                              clear H1
                                              replace H := Option.bind_eq_some_iff.mp H
                                              obtain ⟨t142, A440, H⟩ := H
                                              replace H : (some (!t142)) = some r := H
                                              have A44 := Aside0.mk A440
                                              clear A440
                                              obtain rfl := Option.some.inj H
                                              go_wp2_with (first | ((with_reducible refine gate_callee (f := 34) rfl ?_); refine goesL_ (some 68) rfl rfl Tryz.func34 (by kernel_rfl) rfl #[.string (x11_5 ++ x13_6)] rfl (by (try simp only [List.map_toArray, List.map_cons, List.map_nil]); first | done | rfl | (simp only [List.length_drop, List.length_take]; rfl)) ?_; (with_reducible refine (leaf_Fence.calls k6 (x11_5 ++ x13_6) t136 t137 t138 _ ?side1 A29.out).mono ?_); (case side1 => (first | (with_reducible first | exact HG.out | exact GW.drewN HG.out _ | exact GW.drewN (GW.drewN HG.out _) _) | exact GW.below HG.out (by repeat (first | (with_reducible first | exact HB.out | apply below_alloc | apply pw_below_drewN | apply below_drew1) | exact HB.out)))); rintro e w45 ⟨rfl, hb⟩; refine ⟨_, rfl, ?_⟩; have n0_ := Aside0.mk (below_step (by repeat (first | (with_reducible first | exact HB.out | apply below_alloc | apply pw_below_drewN | apply below_drew1) | exact HB.out)) hb); clear HB; have HB := n0_; clear n0_; (try clear hb); (try clear hb2); (try clear hk); (try clear hi)) | (go_at_call 40; (with_reducible refine (leaf_Closes.calls k6 (x11_5 ++ x13_6) x10_12 (wrap64 (3 + (Int.tmod x0_5 40))) true _ ?side1 A34.out).mono ?_); (case side1 => (first | (with_reducible first | exact HG.out | exact GW.drewN HG.out _ | exact GW.drewN (GW.drewN HG.out _) _) | exact GW.below HG.out (by repeat (first | (with_reducible first | exact HB.out | apply below_alloc | apply pw_below_drewN | apply below_drew1) | exact HB.out)))); rintro e w46 ⟨rfl, hb⟩; have n0_ := Aside0.mk (below_step (by repeat (first | (with_reducible first | exact HB.out | apply below_alloc | apply pw_below_drewN | apply below_drew1) | exact HB.out)) hb); clear HB; have HB := n0_; clear n0_; (try clear hb); (try clear hb2); (try clear hk); (try clear hi)) | (go_at_call 40; (with_reducible refine (leaf_Closes.calls k6 (x11_5 ++ x13_6) x10_12 (wrap64 ((wrap64 (3 + (Int.tmod x0_5 40))) - 1)) true _ ?side1 A36.out).mono ?_); (case side1 => (first | (with_reducible first | exact HG.out | exact GW.drewN HG.out _ | exact GW.drewN (GW.drewN HG.out _) _) | exact GW.below HG.out (by repeat (first | (with_reducible first | exact HB.out | apply below_alloc | apply pw_below_drewN | apply below_drew1) | exact HB.out)))); rintro e w47 ⟨rfl, hb⟩; have n0_ := Aside0.mk (below_step (by repeat (first | (with_reducible first | exact HB.out | apply below_alloc | apply pw_below_drewN | apply below_drew1) | exact HB.out)) hb); clear HB; have HB := n0_; clear n0_; (try clear hb); (try clear hb2); (try clear hk); (try clear hi)) | (go_at_call 40; (with_reducible refine (leaf_Closes.calls k6 (x11_5 ++ x13_6) x10_12 (wrap64 ((wrap64 (3 + (Int.tmod x0_5 40))) + (wrap64 (1 + (Int.tmod x1_8 40))))) false _ ?side1 A38.out).mono ?_); (case side1 => (first | (with_reducible first | exact HG.out | exact GW.drewN HG.out _ | exact GW.drewN (GW.drewN HG.out _) _) | exact GW.below HG.out (by repeat (first | (with_reducible first | exact HB.out | apply below_alloc | apply pw_below_drewN | apply below_drew1) | exact HB.out)))); rintro e w48 ⟨rfl, hb⟩; have n0_ := Aside0.mk (below_step (by repeat (first | (with_reducible first | exact HB.out | apply below_alloc | apply pw_below_drewN | apply below_drew1) | exact HB.out)) hb); clear HB; have HB := n0_; clear n0_; (try clear hb); (try clear hb2); (try clear hk); (try clear hi)) | (go_at_call 40; (with_reducible refine (leaf_Closes.calls k6 (x11_5 ++ x13_6) ((222 - x10_12) % 256) (wrap64 (3 + (Int.tmod x0_5 40))) t142 _ ?side1 A44.out).mono ?_); (case side1 => (first | (with_reducible first | exact HG.out | exact GW.drewN HG.out _ | exact GW.drewN (GW.drewN HG.out _) _) | exact GW.below HG.out (by repeat (first | (with_reducible first | exact HB.out | apply below_alloc | apply pw_below_drewN | apply below_drew1) | exact HB.out)))); rintro e w49 ⟨rfl, hb⟩; have n0_ := Aside0.mk (below_step (by repeat (first | (with_reducible first | exact HB.out | apply below_alloc | apply pw_below_drewN | apply below_drew1) | exact HB.out)) hb); clear HB; have HB := n0_; clear n0_; (try clear hb); (try clear hb2); (try clear hk); (try clear hi)))
                                              go_ret
                                              exact ⟨by first | rfl | (simp [errW_none, errW_some] <;> rfl) | (simp [*, errW_none, errW_some] <;> rfl), by repeat (first | (with_reducible first | exact HB.out | apply below_alloc | apply pw_below_drewN | apply below_drew1) | exact HB.out)⟩
                                          · replace c37 := Bool.eq_false_iff.mpr c37
                                            subst c37
                                            have H1 : (some false) = some r := by rw [if_neg (show ¬ (false = true) by decide)] at H; exact H
                                            clear H
                                            have H := H1
                                            clear H1
                                            obtain rfl := Option.some.inj H
                                            go_wp2_with (first | ((with_reducible refine gate_callee (f := 34) rfl ?_); refine goesL_ (some 68) rfl rfl Tryz.func34 (by kernel_rfl) rfl #[.string (x11_5 ++ x13_6)] rfl (by (try simp only [List.map_toArray, List.map_cons, List.map_nil]); first | done | rfl | (simp only [List.length_drop, List.length_take]; rfl)) ?_; (with_reducible refine (leaf_Fence.calls k6 (x11_5 ++ x13_6) t136 t137 t138 _ ?side1 A29.out).mono ?_); (case side1 => (first | (with_reducible first | exact HG.out | exact GW.drewN HG.out _ | exact GW.drewN (GW.drewN HG.out _) _) | exact GW.below HG.out (by repeat (first | (with_reducible first | exact HB.out | apply below_alloc | apply pw_below_drewN | apply below_drew1) | exact HB.out)))); rintro e w50 ⟨rfl, hb⟩; refine ⟨_, rfl, ?_⟩; have n0_ := Aside0.mk (below_step (by repeat (first | (with_reducible first | exact HB.out | apply below_alloc | apply pw_below_drewN | apply below_drew1) | exact HB.out)) hb); clear HB; have HB := n0_; clear n0_; (try clear hb); (try clear hb2); (try clear hk); (try clear hi)) | (go_at_call 40; (with_reducible refine (leaf_Closes.calls k6 (x11_5 ++ x13_6) x10_12 (wrap64 (3 + (Int.tmod x0_5 40))) true _ ?side1 A34.out).mono ?_); (case side1 => (first | (with_reducible first | exact HG.out | exact GW.drewN HG.out _ | exact GW.drewN (GW.drewN HG.out _) _) | exact GW.below HG.out (by repeat (first | (with_reducible first | exact HB.out | apply below_alloc | apply pw_below_drewN | apply below_drew1) | exact HB.out)))); rintro e w51 ⟨rfl, hb⟩; have n0_ := Aside0.mk (below_step (by repeat (first | (with_reducible first | exact HB.out | apply below_alloc | apply pw_below_drewN | apply below_drew1) | exact HB.out)) hb); clear HB; have HB := n0_; clear n0_; (try clear hb); (try clear hb2); (try clear hk); (try clear hi)) | (go_at_call 40; (with_reducible refine (leaf_Closes.calls k6 (x11_5 ++ x13_6) x10_12 (wrap64 ((wrap64 (3 + (Int.tmod x0_5 40))) - 1)) false _ ?side1 A36.out).mono ?_); (case side1 => (first | (with_reducible first | exact HG.out | exact GW.drewN HG.out _ | exact GW.drewN (GW.drewN HG.out _) _) | exact GW.below HG.out (by repeat (first | (with_reducible first | exact HB.out | apply below_alloc | apply pw_below_drewN | apply below_drew1) | exact HB.out)))); rintro e w52 ⟨rfl, hb⟩; have n0_ := Aside0.mk (below_step (by repeat (first | (with_reducible first | exact HB.out | apply below_alloc | apply pw_below_drewN | apply below_drew1) | exact HB.out)) hb); clear HB; have HB := n0_; clear n0_; (try clear hb); (try clear hb2); (try clear hk); (try clear hi)))
                                            go_ret
                                            exact ⟨by first | rfl | (simp [errW_none, errW_some] <;> rfl) | (simp [*, errW_none, errW_some] <;> rfl), by repeat (first | (with_reducible first | exact HB.out | apply below_alloc | apply pw_below_drewN | apply below_drew1) | exact HB.out)⟩
                                        · replace c35 := Bool.eq_false_iff.mpr c35
                                          subst c35
                                          have H1 : (some false) = some r := by rw [if_neg (show ¬ (false = true) by decide)] at H; exact H
                                          clear H
                                          have H := H1
                                          clear H1
                                          obtain rfl := Option.some.inj H
                                          go_wp2_with (first | ((with_reducible refine gate_callee (f := 34) rfl ?_); refine goesL_ (some 68) rfl rfl Tryz.func34 (by kernel_rfl) rfl #[.string (x11_5 ++ x13_6)] rfl (by (try simp only [List.map_toArray, List.map_cons, List.map_nil]); first | done | rfl | (simp only [List.length_drop, List.length_take]; rfl)) ?_; (with_reducible refine (leaf_Fence.calls k6 (x11_5 ++ x13_6) t136 t137 t138 _ ?side1 A29.out).mono ?_); (case side1 => (first | (with_reducible first | exact HG.out | exact GW.drewN HG.out _ | exact GW.drewN (GW.drewN HG.out _) _) | exact GW.below HG.out (by repeat (first | (with_reducible first | exact HB.out | apply below_alloc | apply pw_below_drewN | apply below_drew1) | exact HB.out)))); rintro e w53 ⟨rfl, hb⟩; refine ⟨_, rfl, ?_⟩; have n0_ := Aside0.mk (below_step (by repeat (first | (with_reducible first | exact HB.out | apply below_alloc | apply pw_below_drewN | apply below_drew1) | exact HB.out)) hb); clear HB; have HB := n0_; clear n0_; (try clear hb); (try clear hb2); (try clear hk); (try clear hi)) | (go_at_call 40; (with_reducible refine (leaf_Closes.calls k6 (x11_5 ++ x13_6) x10_12 (wrap64 (3 + (Int.tmod x0_5 40))) false _ ?side1 A34.out).mono ?_); (case side1 => (first | (with_reducible first | exact HG.out | exact GW.drewN HG.out _ | exact GW.drewN (GW.drewN HG.out _) _) | exact GW.below HG.out (by repeat (first | (with_reducible first | exact HB.out | apply below_alloc | apply pw_below_drewN | apply below_drew1) | exact HB.out)))); rintro e w54 ⟨rfl, hb⟩; have n0_ := Aside0.mk (below_step (by repeat (first | (with_reducible first | exact HB.out | apply below_alloc | apply pw_below_drewN | apply below_drew1) | exact HB.out)) hb); clear HB; have HB := n0_; clear n0_; (try clear hb); (try clear hb2); (try clear hk); (try clear hi)))
                                          go_ret
                                          exact ⟨by first | rfl | (simp [errW_none, errW_some] <;> rfl) | (simp [*, errW_none, errW_some] <;> rfl), by repeat (first | (with_reducible first | exact HB.out | apply below_alloc | apply pw_below_drewN | apply below_drew1) | exact HB.out)⟩
                                      · rw [if_neg c33] at H
                                        have c33b0 : (t138.toList == ([] : List UInt8)) = false := beq_eq_false_iff_ne.mpr c33
                                        have c33b1 : (t138.toList != ([] : List UInt8)) = true := bne_iff_ne.mpr c33
                                        have c33e0 : t138.toList.isEmpty = false := by cases h_ : t138.toList with | nil => exact absurd h_ c33 | cons _ _ => rfl
                                        obtain rfl := Option.some.inj H
                                        go_wp2_with (first | ((with_reducible refine gate_callee (f := 34) rfl ?_); refine goesL_ (some 68) rfl rfl Tryz.func34 (by kernel_rfl) rfl #[.string (x11_5 ++ x13_6)] rfl (by (try simp only [List.map_toArray, List.map_cons, List.map_nil]); first | done | rfl | (simp only [List.length_drop, List.length_take]; rfl)) ?_; (with_reducible refine (leaf_Fence.calls k6 (x11_5 ++ x13_6) t136 t137 t138 _ ?side1 A29.out).mono ?_); (case side1 => (first | (with_reducible first | exact HG.out | exact GW.drewN HG.out _ | exact GW.drewN (GW.drewN HG.out _) _) | exact GW.below HG.out (by repeat (first | (with_reducible first | exact HB.out | apply below_alloc | apply pw_below_drewN | apply below_drew1) | exact HB.out)))); rintro e w55 ⟨rfl, hb⟩; refine ⟨_, rfl, ?_⟩; have n0_ := Aside0.mk (below_step (by repeat (first | (with_reducible first | exact HB.out | apply below_alloc | apply pw_below_drewN | apply below_drew1) | exact HB.out)) hb); clear HB; have HB := n0_; clear n0_; (try clear hb); (try clear hb2); (try clear hk); (try clear hi)))
                                        go_ret
                                        exact ⟨by first | rfl | (simp [errW_none, errW_some] <;> rfl) | (simp [*, errW_none, errW_some] <;> rfl), by repeat (first | (with_reducible first | exact HB.out | apply below_alloc | apply pw_below_drewN | apply below_drew1) | exact HB.out)⟩
                                    · rw [if_neg c32] at H
                                      have c32b0 : (t137 == (wrap64 (3 + (Int.tmod x0_5 40)))) = false := beq_eq_false_iff_ne.mpr c32
                                      have c32b1 : (t137 != (wrap64 (3 + (Int.tmod x0_5 40)))) = true := bne_iff_ne.mpr c32
                                      obtain rfl := Option.some.inj H
                                      go_wp2_with (first | ((with_reducible refine gate_callee (f := 34) rfl ?_); refine goesL_ (some 68) rfl rfl Tryz.func34 (by kernel_rfl) rfl #[.string (x11_5 ++ x13_6)] rfl (by (try simp only [List.map_toArray, List.map_cons, List.map_nil]); first | done | rfl | (simp only [List.length_drop, List.length_take]; rfl)) ?_; (with_reducible refine (leaf_Fence.calls k6 (x11_5 ++ x13_6) t136 t137 t138 _ ?side1 A29.out).mono ?_); (case side1 => (first | (with_reducible first | exact HG.out | exact GW.drewN HG.out _ | exact GW.drewN (GW.drewN HG.out _) _) | exact GW.below HG.out (by repeat (first | (with_reducible first | exact HB.out | apply below_alloc | apply pw_below_drewN | apply below_drew1) | exact HB.out)))); rintro e w56 ⟨rfl, hb⟩; refine ⟨_, rfl, ?_⟩; have n0_ := Aside0.mk (below_step (by repeat (first | (with_reducible first | exact HB.out | apply below_alloc | apply pw_below_drewN | apply below_drew1) | exact HB.out)) hb); clear HB; have HB := n0_; clear n0_; (try clear hb); (try clear hb2); (try clear hk); (try clear hi)))
                                      go_ret
                                      exact ⟨by first | rfl | (simp [errW_none, errW_some] <;> rfl) | (simp [*, errW_none, errW_some] <;> rfl), by repeat (first | (with_reducible first | exact HB.out | apply below_alloc | apply pw_below_drewN | apply below_drew1) | exact HB.out)⟩
                                  · rw [if_neg c31] at H
                                    have c31b0 : (t136 == x10_12) = false := beq_eq_false_iff_ne.mpr c31
                                    have c31b1 : (t136 != x10_12) = true := bne_iff_ne.mpr c31
                                    obtain rfl := Option.some.inj H
                                    go_wp2_with (first | ((with_reducible refine gate_callee (f := 34) rfl ?_); refine goesL_ (some 68) rfl rfl Tryz.func34 (by kernel_rfl) rfl #[.string (x11_5 ++ x13_6)] rfl (by (try simp only [List.map_toArray, List.map_cons, List.map_nil]); first | done | rfl | (simp only [List.length_drop, List.length_take]; rfl)) ?_; (with_reducible refine (leaf_Fence.calls k6 (x11_5 ++ x13_6) t136 t137 t138 _ ?side1 A29.out).mono ?_); (case side1 => (first | (with_reducible first | exact HG.out | exact GW.drewN HG.out _ | exact GW.drewN (GW.drewN HG.out _) _) | exact GW.below HG.out (by repeat (first | (with_reducible first | exact HB.out | apply below_alloc | apply pw_below_drewN | apply below_drew1) | exact HB.out)))); rintro e w57 ⟨rfl, hb⟩; refine ⟨_, rfl, ?_⟩; have n0_ := Aside0.mk (below_step (by repeat (first | (with_reducible first | exact HB.out | apply below_alloc | apply pw_below_drewN | apply below_drew1) | exact HB.out)) hb); clear HB; have HB := n0_; clear n0_; (try clear hb); (try clear hb2); (try clear hk); (try clear hi)))
                                    go_ret
                                    exact ⟨by first | rfl | (simp [errW_none, errW_some] <;> rfl) | (simp [*, errW_none, errW_some] <;> rfl), by repeat (first | (with_reducible first | exact HB.out | apply below_alloc | apply pw_below_drewN | apply below_drew1) | exact HB.out)⟩
                                · replace c30 := Bool.eq_false_iff.mpr c30
                                  subst c30
                                  have H1 : (some false) = some r := by rw [if_neg (show ¬ (false = true) by decide)] at H; exact H
                                  clear H
                                  have H := H1
                                  clear H1
                                  obtain rfl := Option.some.inj H
                                  go_wp2_with (first | ((with_reducible refine gate_callee (f := 34) rfl ?_); refine goesL_ (some 68) rfl rfl Tryz.func34 (by kernel_rfl) rfl #[.string (x11_5 ++ x13_6)] rfl (by (try simp only [List.map_toArray, List.map_cons, List.map_nil]); first | done | rfl | (simp only [List.length_drop, List.length_take]; rfl)) ?_; (with_reducible refine (leaf_Fence.calls k6 (x11_5 ++ x13_6) t136 t137 t138 _ ?side1 A29.out).mono ?_); (case side1 => (first | (with_reducible first | exact HG.out | exact GW.drewN HG.out _ | exact GW.drewN (GW.drewN HG.out _) _) | exact GW.below HG.out (by repeat (first | (with_reducible first | exact HB.out | apply below_alloc | apply pw_below_drewN | apply below_drew1) | exact HB.out)))); rintro e w58 ⟨rfl, hb⟩; refine ⟨_, rfl, ?_⟩; have n0_ := Aside0.mk (below_step (by repeat (first | (with_reducible first | exact HB.out | apply below_alloc | apply pw_below_drewN | apply below_drew1) | exact HB.out)) hb); clear HB; have HB := n0_; clear n0_; (try clear hb); (try clear hb2); (try clear hk); (try clear hi)))
                                  go_ret
                                  exact ⟨by first | rfl | (simp [errW_none, errW_some] <;> rfl) | (simp [*, errW_none, errW_some] <;> rfl), by repeat (first | (with_reducible first | exact HB.out | apply below_alloc | apply pw_below_drewN | apply below_drew1) | exact HB.out)⟩
                              · rw [if_neg c28] at H
                                exact absurd H (by simp)

/-- THE ONE PURE STATEMENT of scriptoriumlaw05_LeafFences: yours. -/
def scriptoriumlaw05_LeafFences.Pure : Prop := ∀ (a0 : Int) (a1 : Int) (a2 : Bool) (a3 : Int), (Lit.int .i64 a0).wf = true → (Lit.int .i64 a1).wf = true → (Lit.int .i64 a3).wf = true → ∃ k, scriptoriumlaw05_LeafFences.f k a0 a1 a2 a3 = some true
theorem scriptoriumlaw05_LeafFences.walk (P : scriptoriumlaw05_LeafFences.Pure) (a0 : Int) (a1 : Int) (a2 : Bool) (a3 : Int) (w : World) (hG : GW w) (w0 : (Lit.int .i64 a0).wf = true) (w1 : (Lit.int .i64 a1).wf = true) (w3 : (Lit.int .i64 a3).wf = true) :
    Calls Tryz.prog 15 #[.int .i64 a0, .int .i64 a1, .bool a2, .int .i64 a3] w fun e w' => e = .returned (.bool true) ∧ Below w.heap.size w w' := by
  obtain ⟨k, h⟩ := P a0 a1 a2 a3 w0 w1 w3
  refine (scriptoriumlaw05_LeafFences.calls k a0 a1 a2 a3 true w  hG h).mono ?_
  rintro e w' ⟨rfl, hd⟩
  exact ⟨rfl, hd⟩

end Go.Proofs.YthdlibgiejpjeaaGreatDoor.LF
