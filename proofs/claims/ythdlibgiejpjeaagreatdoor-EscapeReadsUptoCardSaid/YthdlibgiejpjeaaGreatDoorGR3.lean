-- PRINTED by print.py (a twelfth state) out of the translation. Not trusted: Lean checks it.
import Derived.Test.YthdlibgiejpjeaaGreatDoorGR0
import Derived.Test.YthdlibgiejpjeaaGreatDoorGR1
import Derived.Test.YthdlibgiejpjeaaGreatDoorGR2
namespace Go.Proofs.YthdlibgiejpjeaaGreatDoor.GR
open Go.RowKit Go.Proofs.YthdlibgiejpjeaaGreatDoor Go.Proofs.YthdlibgiejpjeaaGreatDoor.Given Go.Proofs.YthdlibgiejpjeaaGreatDoorW.PrintWords Go.Proofs.YthdlibgiejpjeaaGreatDoorW.PrintLast Go.Proofs.YthdlibgiejpjeaaGreatDoorW.PrintMore
attribute [local go_sem] max2_int min2_int max_two min_two max_three min_three max_four min_four   -- for this text's walks alone
set_option linter.unusedVariables false
set_option linter.unusedSimpArgs false

/-! ### scriptoriumref02_Entity: function 26 -/
mutual
def scriptoriumref02_Entity.j0 : Nat → ByteArray → Bool → Option (ByteArray × Int)
  | 0, _, _ => none
  | k + 1, x0, x13 => if x13 = true then (some ((⟨#[]⟩ : ByteArray), 0)) else (if 1 < (x0.size : Int) then (if (bt x0 1) = 35 then (if 2 < (x0.size : Int) then (if (bt x0 2) = 120 then (scriptoriumref02_Entity.j1 k x0 true) else (scriptoriumref02_Entity.j1 k x0 ((bt x0 2) == 88))) else (none)) else (scriptoriumref02_Entity.j1 k x0 false)) else (none))
def scriptoriumref02_Entity.j1 : Nat → ByteArray → Bool → Option (ByteArray × Int)
  | 0, _, _ => none
  | k + 1, x0, x26 => if x26 = true then ((scriptoriumref02_number.f k x0 3 16 6).bind fun bt173 => (some (bt173.1, bt173.2))) else (if 1 < (x0.size : Int) then (if (bt x0 1) = 35 then ((scriptoriumref02_number.f k x0 2 10 7).bind fun bt175 => (some (bt175.1, bt175.2))) else (scriptoriumref02_Entity.l0 k x0 1)) else (none))
def scriptoriumref02_Entity.j3 : Nat → ByteArray → Int → Option (ByteArray × Int)
  | 0, _, _ => none
  | k + 1, x0, x4 => if x4 = (x0.size : Int) then (scriptoriumref02_Entity.j4 k x0 x4 true) else (if 0 ≤ x4 then (if x4 < (x0.size : Int) then (scriptoriumref02_Entity.j4 k x0 x4 ((bt x0 x4) != 59)) else (none)) else (none))
def scriptoriumref02_Entity.j4 : Nat → ByteArray → Int → Bool → Option (ByteArray × Int)
  | 0, _, _, _ => none
  | k + 1, x0, x4, x63 => if x63 = true then (some ((⟨#[]⟩ : ByteArray), 0)) else (if 1 ≤ x4 then (if x4 ≤ (x0.size : Int) then ((scriptoriumref02_named.f (x0.extract 1 (x4 : Int).toNat)).bind fun t177 => (if t177.toList = ([] : List UInt8) then (some ((⟨#[]⟩ : ByteArray), 0)) else (some (t177, wrap64 (x4 + 1))))) else (none)) else (none))
def scriptoriumref02_Entity.l0 : Nat → ByteArray → Int → Option (ByteArray × Int)
  | 0, _, _ => none
  | k + 1, x0, x4 => if x4 < (x0.size : Int) then (if x4 < 20 then (if 0 ≤ x4 then (if (bt x0 x4) = 59 then (scriptoriumref02_Entity.j3 k x0 x4) else (scriptoriumref02_Entity.l0 k x0 (wrap64 (x4 + 1)))) else (none)) else (scriptoriumref02_Entity.j3 k x0 x4)) else (scriptoriumref02_Entity.j3 k x0 x4)
end
def scriptoriumref02_Entity.f (k : Nat) (a0 : ByteArray) : Option (ByteArray × Int) := if (a0.size : Int) < 3 then (scriptoriumref02_Entity.j0 k a0 true) else (if 0 < (a0.size : Int) then (scriptoriumref02_Entity.j0 k a0 ((bt a0 0) != 38)) else (none))
theorem scriptoriumref02_Entity.mono_l : ∀ k, (∀ y0 y1, LeO (scriptoriumref02_Entity.j0 k y0 y1) (scriptoriumref02_Entity.j0 (k + 1) y0 y1)) ∧ (∀ y0 y1, LeO (scriptoriumref02_Entity.j1 k y0 y1) (scriptoriumref02_Entity.j1 (k + 1) y0 y1)) ∧ (∀ y0 y1, LeO (scriptoriumref02_Entity.j3 k y0 y1) (scriptoriumref02_Entity.j3 (k + 1) y0 y1)) ∧ (∀ y0 y1 y2, LeO (scriptoriumref02_Entity.j4 k y0 y1 y2) (scriptoriumref02_Entity.j4 (k + 1) y0 y1 y2)) ∧ (∀ y0 y1, LeO (scriptoriumref02_Entity.l0 k y0 y1) (scriptoriumref02_Entity.l0 (k + 1) y0 y1))
  | 0 => ⟨fun _ _ r h => by simp [scriptoriumref02_Entity.j0] at h, fun _ _ r h => by simp [scriptoriumref02_Entity.j1] at h, fun _ _ r h => by simp [scriptoriumref02_Entity.j3] at h, fun _ _ _ r h => by simp [scriptoriumref02_Entity.j4] at h, fun _ _ r h => by simp [scriptoriumref02_Entity.l0] at h⟩
  | k + 1 => by
    obtain ⟨ih0, ih1, ih2, ih3, ih4⟩ := scriptoriumref02_Entity.mono_l k
    refine ⟨?_, ?_, ?_, ?_, ?_⟩
    · intro y0 y1
      unfold scriptoriumref02_Entity.j0
      repeat' first
      | (with_reducible exact ih0 _ _)
      | (with_reducible exact ih1 _ _)
      | (with_reducible exact ih2 _ _)
      | (with_reducible exact ih3 _ _ _)
      | (with_reducible exact ih4 _ _)
      | (with_reducible exact scriptoriumref02_number.mono _ _ _ _ _)
      | (with_reducible exact LeO.refl _)
      | (with_reducible exact LeO.none _)
      | (with_reducible refine LeO.ite ?_ ?_)
      | (with_reducible refine LeO.bind ?_ (fun _ => ?_))
      | exact ih0 _ _
      | exact ih1 _ _
      | exact ih2 _ _
      | exact ih3 _ _ _
      | exact ih4 _ _
      | exact scriptoriumref02_number.mono _ _ _ _ _
      | exact LeO.none _
      | refine LeO.ite ?_ ?_
      | refine LeO.bind ?_ (fun _ => ?_)
    · intro y0 y1
      unfold scriptoriumref02_Entity.j1
      repeat' first
      | (with_reducible exact ih0 _ _)
      | (with_reducible exact ih1 _ _)
      | (with_reducible exact ih2 _ _)
      | (with_reducible exact ih3 _ _ _)
      | (with_reducible exact ih4 _ _)
      | (with_reducible exact scriptoriumref02_number.mono _ _ _ _ _)
      | (with_reducible exact LeO.refl _)
      | (with_reducible exact LeO.none _)
      | (with_reducible refine LeO.ite ?_ ?_)
      | (with_reducible refine LeO.bind ?_ (fun _ => ?_))
      | exact ih0 _ _
      | exact ih1 _ _
      | exact ih2 _ _
      | exact ih3 _ _ _
      | exact ih4 _ _
      | exact scriptoriumref02_number.mono _ _ _ _ _
      | exact LeO.none _
      | refine LeO.ite ?_ ?_
      | refine LeO.bind ?_ (fun _ => ?_)
    · intro y0 y1
      unfold scriptoriumref02_Entity.j3
      repeat' first
      | (with_reducible exact ih0 _ _)
      | (with_reducible exact ih1 _ _)
      | (with_reducible exact ih2 _ _)
      | (with_reducible exact ih3 _ _ _)
      | (with_reducible exact ih4 _ _)
      | (with_reducible exact scriptoriumref02_number.mono _ _ _ _ _)
      | (with_reducible exact LeO.refl _)
      | (with_reducible exact LeO.none _)
      | (with_reducible refine LeO.ite ?_ ?_)
      | (with_reducible refine LeO.bind ?_ (fun _ => ?_))
      | exact ih0 _ _
      | exact ih1 _ _
      | exact ih2 _ _
      | exact ih3 _ _ _
      | exact ih4 _ _
      | exact scriptoriumref02_number.mono _ _ _ _ _
      | exact LeO.none _
      | refine LeO.ite ?_ ?_
      | refine LeO.bind ?_ (fun _ => ?_)
    · intro y0 y1 y2
      unfold scriptoriumref02_Entity.j4
      repeat' first
      | (with_reducible exact ih0 _ _)
      | (with_reducible exact ih1 _ _)
      | (with_reducible exact ih2 _ _)
      | (with_reducible exact ih3 _ _ _)
      | (with_reducible exact ih4 _ _)
      | (with_reducible exact scriptoriumref02_number.mono _ _ _ _ _)
      | (with_reducible exact LeO.refl _)
      | (with_reducible exact LeO.none _)
      | (with_reducible refine LeO.ite ?_ ?_)
      | (with_reducible refine LeO.bind ?_ (fun _ => ?_))
      | exact ih0 _ _
      | exact ih1 _ _
      | exact ih2 _ _
      | exact ih3 _ _ _
      | exact ih4 _ _
      | exact scriptoriumref02_number.mono _ _ _ _ _
      | exact LeO.none _
      | refine LeO.ite ?_ ?_
      | refine LeO.bind ?_ (fun _ => ?_)
    · intro y0 y1
      unfold scriptoriumref02_Entity.l0
      repeat' first
      | (with_reducible exact ih0 _ _)
      | (with_reducible exact ih1 _ _)
      | (with_reducible exact ih2 _ _)
      | (with_reducible exact ih3 _ _ _)
      | (with_reducible exact ih4 _ _)
      | (with_reducible exact scriptoriumref02_number.mono _ _ _ _ _)
      | (with_reducible exact LeO.refl _)
      | (with_reducible exact LeO.none _)
      | (with_reducible refine LeO.ite ?_ ?_)
      | (with_reducible refine LeO.bind ?_ (fun _ => ?_))
      | exact ih0 _ _
      | exact ih1 _ _
      | exact ih2 _ _
      | exact ih3 _ _ _
      | exact ih4 _ _
      | exact scriptoriumref02_number.mono _ _ _ _ _
      | exact LeO.none _
      | refine LeO.ite ?_ ?_
      | refine LeO.bind ?_ (fun _ => ?_)
theorem scriptoriumref02_Entity.mono : ∀ a0 k, LeO (scriptoriumref02_Entity.f k a0) (scriptoriumref02_Entity.f (k + 1) a0) := by
  intro a0 k
  obtain ⟨ih0, ih1, ih2, ih3, ih4⟩ := scriptoriumref02_Entity.mono_l k
  unfold scriptoriumref02_Entity.f
  repeat' first
      | (with_reducible exact ih0 _ _)
      | (with_reducible exact ih1 _ _)
      | (with_reducible exact ih2 _ _)
      | (with_reducible exact ih3 _ _ _)
      | (with_reducible exact ih4 _ _)
      | (with_reducible exact scriptoriumref02_number.mono _ _ _ _ _)
      | (with_reducible exact LeO.refl _)
      | (with_reducible exact LeO.none _)
      | (with_reducible refine LeO.ite ?_ ?_)
      | (with_reducible refine LeO.bind ?_ (fun _ => ?_))
      | exact ih0 _ _
      | exact ih1 _ _
      | exact ih2 _ _
      | exact ih3 _ _ _
      | exact ih4 _ _
      | exact scriptoriumref02_number.mono _ _ _ _ _
      | exact LeO.none _
      | refine LeO.ite ?_ ?_
      | refine LeO.bind ?_ (fun _ => ?_)
set_option maxHeartbeats 8000000 in
set_option maxRecDepth 100000 in
theorem scriptoriumref02_Entity.calls (k : Nat) (a0 : ByteArray) (r1 : ByteArray) (r2 : Int) (w : World) (hG : GW w) (h : scriptoriumref02_Entity.f k a0 = some (r1, r2)) :
    Calls Tryz.prog 26 #[.string a0] w fun e w' => e = .returned (.tuple #[.string r1, .int .i64 r2]) ∧ Below w.heap.size w w' := by
  have HB := Aside0.mk (Below.refl w.heap.size w)
  have HG := Aside0.mk hG
  clear hG
  have H : (if (a0.size : Int) < 3 then (scriptoriumref02_Entity.j0 k a0 true) else (if 0 < (a0.size : Int) then (scriptoriumref02_Entity.j0 k a0 ((bt a0 0) != 38)) else (none))) = some (r1, r2) := h
  clear h
  have HC2 := Aside0.mk H
  clear H
  go_enter Tryz.func26, Tryz.ntmps26
  go_upto_region 1 with (fail)
  go_cut [13] (fun v13 wc => ∃ (kq : Nat) (x13_1 : Bool), v13 = .bool x13_1 ∧ Aside0 (scriptoriumref02_Entity.j0 kq a0 x13_1 = some (r1, r2)) ∧ Aside0 (kq ≤ k) ∧ Aside0 (Below w.heap.size w wc))
  case first =>
    have H := HC2.out
    clear HC2
    by_cases c3 : (a0.size : Int) < 3
    · rw [if_pos c3] at H
      have c3b0 : decide ((a0.size : Int) < 3) = true := decide_eq_true c3
      have c3b1 : decide (a0.size < 3) = true := decide_eq_true (by omega)
      clear c3
      (first | rw [c3b0] | (simp only [i64_w, i32_w]; rw [c3b0]) | skip)
      have H' := Aside0.mk H
      clear H
      go_wp2
      go_meet
      case rel => exact ⟨_, (true), (by first | rfl | (simp; done) | (simp [*]; done)), H', ⟨by first | omega | exact Nat.le_refl _⟩, ⟨by repeat (first | (with_reducible first | exact HB.out | apply below_alloc | apply pw_below_drewN | apply below_drew1) | exact HB.out)⟩⟩
    · rw [if_neg c3] at H
      have c3b0 : decide ((a0.size : Int) < 3) = false := decide_eq_false c3
      have c3b1 : decide (a0.size < 3) = false := decide_eq_false (by omega)
      clear c3
      (first | rw [c3b0] | (simp only [i64_w, i32_w]; rw [c3b0]) | skip)
      by_cases c4 : 0 < (a0.size : Int)
      · rw [if_pos c4] at H
        have c4b0 : decide (0 < (a0.size : Int)) = true := decide_eq_true c4
        have c4b1 : decide (0 < a0.size) = true := decide_eq_true (by omega)
        clear c4
        have H' := Aside0.mk H
        clear H
        have p5 : 0 ≤ (0 : Int) := (by omega)
        have q5 : 0 < a0.size := (by have : (0 : Int) < (a0.size : Int) := of_decide_eq_true (by first | (with_reducible assumption) | assumption); omega)
        have hx5 : ∀ h : 0 < a0.size, ((a0[0]'h).toNat : Int) = bt a0 0 := bt_at a0 0
        clear p5
        have qi5 : (0 < (a0.size : Int)) = True := eq_true (of_decide_eq_true (by first | (with_reducible assumption) | assumption))
        replace q5 := eq_true q5
        go_wp2
        go_meet
        case rel => exact ⟨_, (((bt a0 0) != 38)), (by first | rfl | (simp; done) | (simp [*]; done)), H', ⟨by first | omega | exact Nat.le_refl _⟩, ⟨by repeat (first | (with_reducible first | exact HB.out | apply below_alloc | apply pw_below_drewN | apply below_drew1) | exact HB.out)⟩⟩
      · rw [if_neg c4] at H
        exact absurd H (by simp)
  case rest =>
    clear HC2
    try clear c2
    try clear p2
    try clear c3
    try clear c3b0
    try clear c3b1
    try clear c4
    try clear c4b0
    try clear c4b1
    try clear p5
    try clear q5
    try clear hx5
    try clear qi5
    try clear p5
    try clear q5
    obtain ⟨kq, x13_1, rfl, HA, HJ1, HB⟩ := hcut
    cases kq with
    | zero => exact absurd HA.out (by simp [scriptoriumref02_Entity.j0])
    | succ kj1 =>
      have H := HA.out
      clear HA
      simp only [scriptoriumref02_Entity.j0] at H
      by_cases c6 : x13_1 = true
      · subst c6
        have H1 : (some ((⟨#[]⟩ : ByteArray), 0)) = some (r1, r2) := by rw [if_pos rfl] at H; exact H
        clear H
        have H := H1
        clear H1
        simp only [Option.some.injEq, Prod.mk.injEq] at H
        obtain ⟨rfl, rfl⟩ := H
        go_wp2
        go_ret2
        exact ⟨by first | rfl | (simp [errW_none, errW_some] <;> rfl) | (simp [*, errW_none, errW_some] <;> rfl), by repeat (first | (with_reducible first | exact HB.out | apply below_alloc | apply pw_below_drewN | apply below_drew1) | exact HB.out)⟩
      · replace c6 := Bool.eq_false_iff.mpr c6
        subst c6
        have H1 : (if 1 < (a0.size : Int) then (if (bt a0 1) = 35 then (if 2 < (a0.size : Int) then (if (bt a0 2) = 120 then (scriptoriumref02_Entity.j1 kj1 a0 true) else (scriptoriumref02_Entity.j1 kj1 a0 ((bt a0 2) == 88))) else (none)) else (scriptoriumref02_Entity.j1 kj1 a0 false)) else (none)) = some (r1, r2) := by rw [if_neg (show ¬ (false = true) by decide)] at H; exact H
        clear H
        have H := H1
        clear H1
        have HC7 := Aside0.mk H
        clear H
        go_upto_region 3 with (fail)
        go_cut [26] (fun v26 wc => ∃ (kq : Nat) (x26_6 : Bool), v26 = .bool x26_6 ∧ Aside0 (scriptoriumref02_Entity.j1 kq a0 x26_6 = some (r1, r2)) ∧ Aside0 (kq ≤ kj1) ∧ Aside0 (Below w.heap.size w wc))
        case first =>
          have H := HC7.out
          clear HC7
          by_cases c8 : 1 < (a0.size : Int)
          · rw [if_pos c8] at H
            have c8b0 : decide (1 < (a0.size : Int)) = true := decide_eq_true c8
            have c8b1 : decide (1 < a0.size) = true := decide_eq_true (by omega)
            clear c8
            (first | rw [c8b0] | (simp only [i64_w, i32_w]; rw [c8b0]) | skip)
            by_cases c10 : (bt a0 1) = 35
            · rw [if_pos c10] at H
              have c10b0 : ((bt a0 1) == 35) = true := beq_iff_eq.mpr c10
              have c10b1 : ((bt a0 1) != 35) = false := bne_eq_false_iff_eq.mpr c10
              clear c10
              by_cases c11 : 2 < (a0.size : Int)
              · rw [if_pos c11] at H
                have c11b0 : decide (2 < (a0.size : Int)) = true := decide_eq_true c11
                have c11b1 : decide (2 < a0.size) = true := decide_eq_true (by omega)
                clear c11
                by_cases c13 : (bt a0 2) = 120
                · rw [if_pos c13] at H
                  have c13b0 : ((bt a0 2) == 120) = true := beq_iff_eq.mpr c13
                  have c13b1 : ((bt a0 2) != 120) = false := bne_eq_false_iff_eq.mpr c13
                  clear c13
                  have H' := Aside0.mk H
                  clear H
                  have p9 : 0 ≤ (1 : Int) := (by omega)
                  have q9 : 1 < a0.size := (by have : (1 : Int) < (a0.size : Int) := of_decide_eq_true (by first | (with_reducible assumption) | assumption); omega)
                  have hx9 : ∀ h : 1 < a0.size, ((a0[1]'h).toNat : Int) = bt a0 1 := bt_at a0 1
                  clear p9
                  have qi9 : (1 < (a0.size : Int)) = True := eq_true (of_decide_eq_true (by first | (with_reducible assumption) | assumption))
                  replace q9 := eq_true q9
                  have p12 : 0 ≤ (2 : Int) := (by omega)
                  have q12 : 2 < a0.size := (by have : (2 : Int) < (a0.size : Int) := of_decide_eq_true (by first | (with_reducible assumption) | assumption); omega)
                  have hx12 : ∀ h : 2 < a0.size, ((a0[2]'h).toNat : Int) = bt a0 2 := bt_at a0 2
                  clear p12
                  have qi12 : (2 < (a0.size : Int)) = True := eq_true (of_decide_eq_true (by first | (with_reducible assumption) | assumption))
                  replace q12 := eq_true q12
                  go_wp2
                  go_meet
                  case rel => exact ⟨_, (true), (by first | rfl | (simp; done) | (simp [*]; done)), H', ⟨by have := HJ1.out; first | omega | exact Nat.le_refl _⟩, ⟨by repeat (first | (with_reducible first | exact HB.out | apply below_alloc | apply pw_below_drewN | apply below_drew1) | exact HB.out)⟩⟩
                · rw [if_neg c13] at H
                  have c13b0 : ((bt a0 2) == 120) = false := beq_eq_false_iff_ne.mpr c13
                  have c13b1 : ((bt a0 2) != 120) = true := bne_iff_ne.mpr c13
                  have H' := Aside0.mk H
                  clear H
                  have p9 : 0 ≤ (1 : Int) := (by omega)
                  have q9 : 1 < a0.size := (by have : (1 : Int) < (a0.size : Int) := of_decide_eq_true (by first | (with_reducible assumption) | assumption); omega)
                  have hx9 : ∀ h : 1 < a0.size, ((a0[1]'h).toNat : Int) = bt a0 1 := bt_at a0 1
                  clear p9
                  have qi9 : (1 < (a0.size : Int)) = True := eq_true (of_decide_eq_true (by first | (with_reducible assumption) | assumption))
                  replace q9 := eq_true q9
                  have p12 : 0 ≤ (2 : Int) := (by omega)
                  have q12 : 2 < a0.size := (by have : (2 : Int) < (a0.size : Int) := of_decide_eq_true (by first | (with_reducible assumption) | assumption); omega)
                  have hx12 : ∀ h : 2 < a0.size, ((a0[2]'h).toNat : Int) = bt a0 2 := bt_at a0 2
                  clear p12
                  have qi12 : (2 < (a0.size : Int)) = True := eq_true (of_decide_eq_true (by first | (with_reducible assumption) | assumption))
                  replace q12 := eq_true q12
                  have p14 : 0 ≤ (2 : Int) := (by omega)
                  have q14 : 2 < a0.size := (by have : (2 : Int) < (a0.size : Int) := of_decide_eq_true (by first | (with_reducible assumption) | assumption); omega)
                  have hx14 : ∀ h : 2 < a0.size, ((a0[2]'h).toNat : Int) = bt a0 2 := bt_at a0 2
                  clear p14
                  have qi14 : (2 < (a0.size : Int)) = True := eq_true (of_decide_eq_true (by first | (with_reducible assumption) | assumption))
                  replace q14 := eq_true q14
                  go_wp2
                  go_meet
                  case rel => exact ⟨_, (((bt a0 2) == 88)), (by first | rfl | (simp; done) | (simp [*]; done)), H', ⟨by have := HJ1.out; first | omega | exact Nat.le_refl _⟩, ⟨by repeat (first | (with_reducible first | exact HB.out | apply below_alloc | apply pw_below_drewN | apply below_drew1) | exact HB.out)⟩⟩
              · rw [if_neg c11] at H
                exact absurd H (by simp)
            · rw [if_neg c10] at H
              have c10b0 : ((bt a0 1) == 35) = false := beq_eq_false_iff_ne.mpr c10
              have c10b1 : ((bt a0 1) != 35) = true := bne_iff_ne.mpr c10
              have H' := Aside0.mk H
              clear H
              have p9 : 0 ≤ (1 : Int) := (by omega)
              have q9 : 1 < a0.size := (by have : (1 : Int) < (a0.size : Int) := of_decide_eq_true (by first | (with_reducible assumption) | assumption); omega)
              have hx9 : ∀ h : 1 < a0.size, ((a0[1]'h).toNat : Int) = bt a0 1 := bt_at a0 1
              clear p9
              have qi9 : (1 < (a0.size : Int)) = True := eq_true (of_decide_eq_true (by first | (with_reducible assumption) | assumption))
              replace q9 := eq_true q9
              go_wp2
              go_meet
              case rel => exact ⟨_, (false), (by first | rfl | (simp; done) | (simp [*]; done)), H', ⟨by have := HJ1.out; first | omega | exact Nat.le_refl _⟩, ⟨by repeat (first | (with_reducible first | exact HB.out | apply below_alloc | apply pw_below_drewN | apply below_drew1) | exact HB.out)⟩⟩
          · rw [if_neg c8] at H
            exact absurd H (by simp)
        case rest =>
          clear HC7
          try clear c1
          try clear p1
          try clear q1
          try clear hx1
          try clear qi1
          try clear c2
          try clear p2
          try clear c3
          try clear c3b0
          try clear c3b1
          try clear c4
          try clear c4b0
          try clear c4b1
          try clear p5
          try clear q5
          try clear hx5
          try clear qi5
          try clear c6
          try clear c8
          try clear c8b0
          try clear c8b1
          try clear p9
          try clear q9
          try clear hx9
          try clear qi9
          try clear c10
          try clear c10b0
          try clear c10b1
          try clear c11
          try clear c11b0
          try clear c11b1
          try clear p12
          try clear q12
          try clear hx12
          try clear qi12
          try clear c13
          try clear c13b0
          try clear c13b1
          try clear p14
          try clear q14
          try clear hx14
          try clear qi14
          try clear p12
          try clear p14
          try clear p2
          try clear p5
          try clear p9
          try clear q12
          try clear q14
          try clear q5
          try clear q9
          obtain ⟨kq, x26_6, rfl, HA, HJ6, HB⟩ := hcut
          cases kq with
          | zero => exact absurd HA.out (by simp [scriptoriumref02_Entity.j1])
          | succ kj6 =>
            have H := HA.out
            clear HA
            simp only [scriptoriumref02_Entity.j1] at H
            by_cases c15 : x26_6 = true
            · subst c15
              have H1 : ((scriptoriumref02_number.f kj6 a0 3 16 6).bind fun bt173 => (some (bt173.1, bt173.2))) = some (r1, r2) := by rw [if_pos rfl] at H; exact H
              clear H
              have H := H1
              clear H1
              replace H := Option.bind_eq_some_iff.mp H
              obtain ⟨⟨t173, t174⟩, A160, H⟩ := H
              replace H : (some (t173, t174)) = some (r1, r2) := H
              have A16 := Aside0.mk A160
              clear A160
              simp only [Option.some.injEq, Prod.mk.injEq] at H
              obtain ⟨rfl, rfl⟩ := H
              go_wp2_with (first | ((with_reducible refine gate_callee (f := 62) rfl ?_); refine goesL_ (some 28) rfl rfl Tryz.func62 (by kernel_rfl) rfl #[.string a0, .int .i64 3, .int .i64 16, .int .i64 6] rfl (by (try simp only [List.map_toArray, List.map_cons, List.map_nil]); first | done | rfl | (simp only [List.length_drop, List.length_take]; rfl)) ?_; (with_reducible refine (scriptoriumref02_number.calls kj6 a0 3 16 6 t173 t174 _ ?side1 A16.out).mono ?_); (case side1 => (first | (with_reducible first | exact HG.out | exact GW.drewN HG.out _ | exact GW.drewN (GW.drewN HG.out _) _) | exact GW.below HG.out (by repeat (first | (with_reducible first | exact HB.out | apply below_alloc | apply pw_below_drewN | apply below_drew1) | exact HB.out)))); rintro e w17 ⟨rfl, hb⟩; refine ⟨_, rfl, ?_⟩; have n0_ := Aside0.mk (below_step (by repeat (first | (with_reducible first | exact HB.out | apply below_alloc | apply pw_below_drewN | apply below_drew1) | exact HB.out)) hb); clear HB; have HB := n0_; clear n0_; (try clear hb); (try clear hb2); (try clear hk); (try clear hi)))
              go_ret2
              exact ⟨by first | rfl | (simp [errW_none, errW_some] <;> rfl) | (simp [*, errW_none, errW_some] <;> rfl), by repeat (first | (with_reducible first | exact HB.out | apply below_alloc | apply pw_below_drewN | apply below_drew1) | exact HB.out)⟩
            · replace c15 := Bool.eq_false_iff.mpr c15
              subst c15
              have H1 : (if 1 < (a0.size : Int) then (if (bt a0 1) = 35 then ((scriptoriumref02_number.f kj6 a0 2 10 7).bind fun bt175 => (some (bt175.1, bt175.2))) else (scriptoriumref02_Entity.l0 kj6 a0 1)) else (none)) = some (r1, r2) := by rw [if_neg (show ¬ (false = true) by decide)] at H; exact H
              clear H
              have H := H1
              clear H1
              by_cases c18 : 1 < (a0.size : Int)
              · rw [if_pos c18] at H
                have c18b0 : decide (1 < (a0.size : Int)) = true := decide_eq_true c18
                have c18b1 : decide (1 < a0.size) = true := decide_eq_true (by omega)
                clear c18
                by_cases c20 : (bt a0 1) = 35
                · rw [if_pos c20] at H
                  have c20b0 : ((bt a0 1) == 35) = true := beq_iff_eq.mpr c20
                  have c20b1 : ((bt a0 1) != 35) = false := bne_eq_false_iff_eq.mpr c20
                  clear c20
                  replace H := Option.bind_eq_some_iff.mp H
                  obtain ⟨⟨t175, t176⟩, A210, H⟩ := H
                  replace H : (some (t175, t176)) = some (r1, r2) := H
                  have A21 := Aside0.mk A210
                  clear A210
                  simp only [Option.some.injEq, Prod.mk.injEq] at H
                  obtain ⟨rfl, rfl⟩ := H
                  have p19 : 0 ≤ (1 : Int) := (by omega)
                  have q19 : 1 < a0.size := (by have : (1 : Int) < (a0.size : Int) := of_decide_eq_true (by first | (with_reducible assumption) | assumption); omega)
                  have hx19 : ∀ h : 1 < a0.size, ((a0[1]'h).toNat : Int) = bt a0 1 := bt_at a0 1
                  clear p19
                  have qi19 : (1 < (a0.size : Int)) = True := eq_true (of_decide_eq_true (by first | (with_reducible assumption) | assumption))
                  replace q19 := eq_true q19
                  go_wp2_with (first | ((with_reducible refine gate_callee (f := 62) rfl ?_); refine goesL_ (some 35) rfl rfl Tryz.func62 (by kernel_rfl) rfl #[.string a0, .int .i64 2, .int .i64 10, .int .i64 7] rfl (by (try simp only [List.map_toArray, List.map_cons, List.map_nil]); first | done | rfl | (simp only [List.length_drop, List.length_take]; rfl)) ?_; (with_reducible refine (scriptoriumref02_number.calls kj6 a0 2 10 7 t175 t176 _ ?side1 A21.out).mono ?_); (case side1 => (first | (with_reducible first | exact HG.out | exact GW.drewN HG.out _ | exact GW.drewN (GW.drewN HG.out _) _) | exact GW.below HG.out (by repeat (first | (with_reducible first | exact HB.out | apply below_alloc | apply pw_below_drewN | apply below_drew1) | exact HB.out)))); rintro e w22 ⟨rfl, hb⟩; refine ⟨_, rfl, ?_⟩; have n0_ := Aside0.mk (below_step (by repeat (first | (with_reducible first | exact HB.out | apply below_alloc | apply pw_below_drewN | apply below_drew1) | exact HB.out)) hb); clear HB; have HB := n0_; clear n0_; (try clear hb); (try clear hb2); (try clear hk); (try clear hi)))
                  go_ret2
                  exact ⟨by first | rfl | (simp [errW_none, errW_some] <;> rfl) | (simp [*, errW_none, errW_some] <;> rfl), by repeat (first | (with_reducible first | exact HB.out | apply below_alloc | apply pw_below_drewN | apply below_drew1) | exact HB.out)⟩
                · rw [if_neg c20] at H
                  have c20b0 : ((bt a0 1) == 35) = false := beq_eq_false_iff_ne.mpr c20
                  have c20b1 : ((bt a0 1) != 35) = true := bne_iff_ne.mpr c20
                  have HC23 := Aside0.mk H
                  clear H
                  have p19 : 0 ≤ (1 : Int) := (by omega)
                  have q19 : 1 < a0.size := (by have : (1 : Int) < (a0.size : Int) := of_decide_eq_true (by first | (with_reducible assumption) | assumption); omega)
                  have hx19 : ∀ h : 1 < a0.size, ((a0[1]'h).toNat : Int) = bt a0 1 := bt_at a0 1
                  clear p19
                  have qi19 : (1 < (a0.size : Int)) = True := eq_true (of_decide_eq_true (by first | (with_reducible assumption) | assumption))
                  replace q19 := eq_true q19
                  go_upto_block 0 with (fail)
                  go_cut [4] (fun v4 wc => ∃ (kq : Nat) (x4_22 : Int), v4 = .int .i64 x4_22 ∧ Aside0 (scriptoriumref02_Entity.j3 kq a0 x4_22 = some (r1, r2)) ∧ Aside0 (kq ≤ kj6) ∧ Aside0 (Below w.heap.size w wc))
                  case first =>
                    have H := HC23.out
                    clear HC23
                    have H' := Aside0.mk H
                    clear H
                    go_wp2
                    go_loopg [4] kj6 (fun kq v4 w' => ∃ (x4_3 : Int), v4 = .int .i64 x4_3 ∧ Aside0 (scriptoriumref02_Entity.l0 kq a0 x4_3 = some (r1, r2)) ∧ Aside0 (kq ≤ kj6) ∧ Aside0 (Below w.heap.size w w'))
                    case atStart => exact ⟨(1), (by first | rfl | (simp; done) | (simp [*]; done)), H', ⟨Nat.le_refl _⟩, ⟨by repeat (first | (with_reducible first | exact HB.out | apply below_alloc | apply pw_below_drewN | apply below_drew1) | exact HB.out)⟩⟩
                    case round =>
                      clear H'
                      try clear c1
                      try clear p1
                      try clear q1
                      try clear hx1
                      try clear qi1
                      try clear c2
                      try clear p2
                      try clear c3
                      try clear c3b0
                      try clear c3b1
                      try clear c4
                      try clear c4b0
                      try clear c4b1
                      try clear p5
                      try clear q5
                      try clear hx5
                      try clear qi5
                      try clear c6
                      try clear c8
                      try clear c8b0
                      try clear c8b1
                      try clear p9
                      try clear q9
                      try clear hx9
                      try clear qi9
                      try clear c10
                      try clear c10b0
                      try clear c10b1
                      try clear c11
                      try clear c11b0
                      try clear c11b1
                      try clear p12
                      try clear q12
                      try clear hx12
                      try clear qi12
                      try clear c13
                      try clear c13b0
                      try clear c13b1
                      try clear p14
                      try clear q14
                      try clear hx14
                      try clear qi14
                      try clear c15
                      try clear c18
                      try clear c18b0
                      try clear c18b1
                      try clear p19
                      try clear q19
                      try clear hx19
                      try clear qi19
                      try clear c20
                      try clear c20b0
                      try clear c20b1
                      try clear p1
                      try clear p12
                      try clear p14
                      try clear p19
                      try clear p2
                      try clear p5
                      try clear p9
                      try clear q1
                      try clear q12
                      try clear q14
                      try clear q19
                      try clear q5
                      try clear q9
                      obtain ⟨x4_3, rfl, HA, HK3, HB⟩ := hrel
                      cases gk with
                      | zero => exact absurd HA.out (by simp [scriptoriumref02_Entity.l0])
                      | succ k3 =>
                        have H := HA.out
                        clear HA
                        simp only [scriptoriumref02_Entity.l0] at H
                        by_cases c24 : x4_3 < (a0.size : Int)
                        · rw [if_pos c24] at H
                          have c24b0 : decide (x4_3 < (a0.size : Int)) = true := decide_eq_true c24
                          clear c24
                          (first | rw [c24b0] | (simp only [i64_w, i32_w]; rw [c24b0]) | skip)
                          by_cases c25 : x4_3 < 20
                          · rw [if_pos c25] at H
                            have c25b0 : decide (x4_3 < 20) = true := decide_eq_true c25
                            clear c25
                            by_cases c26 : 0 ≤ x4_3
                            · rw [if_pos c26] at H
                              have c26b0 : decide (0 ≤ x4_3) = true := decide_eq_true c26
                              clear c26
                              by_cases c28 : (bt a0 x4_3) = 59
                              · rw [if_pos c28] at H
                                have c28b0 : ((bt a0 x4_3) == 59) = true := beq_iff_eq.mpr c28
                                have c28b1 : ((bt a0 x4_3) != 59) = false := bne_eq_false_iff_eq.mpr c28
                                clear c28
                                have H' := Aside0.mk H
                                clear H
                                have p27 : 0 ≤ (x4_3 : Int) := of_decide_eq_true (by first | (with_reducible assumption) | assumption)
                                have q27 : x4_3 < (a0.size : Int) := of_decide_eq_true (by first | (with_reducible assumption) | assumption)
                                have hx27 := bt_at a0 x4_3
                                replace p27 := eq_true p27
                                replace q27 := eq_true q27
                                go_wp2
                                go_meet
                                case rel => exact ⟨_, (x4_3), (by first | rfl | (simp; done) | (simp [*]; done)), H', ⟨by have := HJ1.out; have := HJ6.out; have := HK3.out; first | omega | exact Nat.le_refl _⟩, ⟨by repeat (first | (with_reducible first | exact HB.out | apply below_alloc | apply pw_below_drewN | apply below_drew1) | exact HB.out)⟩⟩
                              · rw [if_neg c28] at H
                                have c28b0 : ((bt a0 x4_3) == 59) = false := beq_eq_false_iff_ne.mpr c28
                                have c28b1 : ((bt a0 x4_3) != 59) = true := bne_iff_ne.mpr c28
                                have H' := Aside0.mk H
                                clear H
                                have p27 : 0 ≤ (x4_3 : Int) := of_decide_eq_true (by first | (with_reducible assumption) | assumption)
                                have q27 : x4_3 < (a0.size : Int) := of_decide_eq_true (by first | (with_reducible assumption) | assumption)
                                have hx27 := bt_at a0 x4_3
                                replace p27 := eq_true p27
                                replace q27 := eq_true q27
                                go_wp2
                                go_roundg k3
                                case measure => have := HJ1.out; have := HJ6.out; have := HK3.out; omega
                                case rel => exact ⟨(wrap64 (x4_3 + 1)), (by first | rfl | (simp; done) | (simp [*]; done)), H', ⟨by have := HJ1.out; have := HJ6.out; have := HK3.out; omega⟩, ⟨by repeat (first | (with_reducible first | exact HB.out | apply below_alloc | apply pw_below_drewN | apply below_drew1) | exact HB.out)⟩⟩
                            · rw [if_neg c26] at H
                              exact absurd H (by simp)
                          · rw [if_neg c25] at H
                            have c25b0 : decide (x4_3 < 20) = false := decide_eq_false c25
                            clear c25
                            have H' := Aside0.mk H
                            clear H
                            go_wp2
                            go_meet
                            case rel => exact ⟨_, (x4_3), (by first | rfl | (simp; done) | (simp [*]; done)), H', ⟨by have := HJ1.out; have := HJ6.out; have := HK3.out; first | omega | exact Nat.le_refl _⟩, ⟨by repeat (first | (with_reducible first | exact HB.out | apply below_alloc | apply pw_below_drewN | apply below_drew1) | exact HB.out)⟩⟩
                        · rw [if_neg c24] at H
                          have c24b0 : decide (x4_3 < (a0.size : Int)) = false := decide_eq_false c24
                          clear c24
                          (first | rw [c24b0] | (simp only [i64_w, i32_w]; rw [c24b0]) | skip)
                          have H' := Aside0.mk H
                          clear H
                          go_wp2
                          go_meet
                          case rel => exact ⟨_, (x4_3), (by first | rfl | (simp; done) | (simp [*]; done)), H', ⟨by have := HJ1.out; have := HJ6.out; have := HK3.out; first | omega | exact Nat.le_refl _⟩, ⟨by repeat (first | (with_reducible first | exact HB.out | apply below_alloc | apply pw_below_drewN | apply below_drew1) | exact HB.out)⟩⟩
                  case rest =>
                    clear HC23
                    try clear c1
                    try clear p1
                    try clear q1
                    try clear hx1
                    try clear qi1
                    try clear c2
                    try clear p2
                    try clear q2
                    try clear hx2
                    try clear c3
                    try clear c3b0
                    try clear c3b1
                    try clear c4
                    try clear c4b0
                    try clear c4b1
                    try clear p5
                    try clear q5
                    try clear hx5
                    try clear qi5
                    try clear c6
                    try clear p6
                    try clear c8
                    try clear c8b0
                    try clear c8b1
                    try clear p9
                    try clear q9
                    try clear hx9
                    try clear qi9
                    try clear c10
                    try clear c10b0
                    try clear c10b1
                    try clear c11
                    try clear c11b0
                    try clear c11b1
                    try clear p12
                    try clear q12
                    try clear hx12
                    try clear qi12
                    try clear c13
                    try clear c13b0
                    try clear c13b1
                    try clear p14
                    try clear q14
                    try clear hx14
                    try clear qi14
                    try clear c15
                    try clear c18
                    try clear c18b0
                    try clear c18b1
                    try clear p19
                    try clear q19
                    try clear hx19
                    try clear qi19
                    try clear c20
                    try clear c20b0
                    try clear c20b1
                    try clear c24
                    try clear c24b0
                    try clear c25
                    try clear c25b0
                    try clear c26
                    try clear c26b0
                    try clear p27
                    try clear q27
                    try clear hx27
                    try clear c28
                    try clear c28b0
                    try clear c28b1
                    try clear p1
                    try clear p12
                    try clear p14
                    try clear p19
                    try clear p2
                    try clear p27
                    try clear p5
                    try clear p9
                    try clear q1
                    try clear q12
                    try clear q14
                    try clear q19
                    try clear q27
                    try clear q5
                    try clear q9
                    obtain ⟨kq, x4_22, rfl, HA, HJ22, HB⟩ := hcut
                    cases kq with
                    | zero => exact absurd HA.out (by simp [scriptoriumref02_Entity.j3])
                    | succ kj22 =>
                      have H := HA.out
                      clear HA
                      simp only [scriptoriumref02_Entity.j3] at H
                      have HC29 := Aside0.mk H
                      clear H
                      go_upto_region 10 with (fail)
                      go_cut [63] (fun v63 wc => ∃ (kq : Nat) (x63_28 : Bool), v63 = .bool x63_28 ∧ Aside0 (scriptoriumref02_Entity.j4 kq a0 x4_22 x63_28 = some (r1, r2)) ∧ Aside0 (kq ≤ kj22) ∧ Aside0 (Below w.heap.size w wc))
                      case first =>
                        have H := HC29.out
                        clear HC29
                        by_cases c30 : x4_22 = (a0.size : Int)
                        · rw [if_pos c30] at H
                          have c30b0 : (x4_22 == (a0.size : Int)) = true := beq_iff_eq.mpr c30
                          have c30b1 : (x4_22 != (a0.size : Int)) = false := bne_eq_false_iff_eq.mpr c30
                          clear c30
                          (first | rw [c30b0] | (simp only [i64_w, i32_w]; rw [c30b0]) | skip)
                          have H' := Aside0.mk H
                          clear H
                          go_wp2
                          go_meet
                          case rel => exact ⟨_, (true), (by first | rfl | (simp; done) | (simp [*]; done)), H', ⟨by have := HJ1.out; have := HJ6.out; have := HJ22.out; first | omega | exact Nat.le_refl _⟩, ⟨by repeat (first | (with_reducible first | exact HB.out | apply below_alloc | apply pw_below_drewN | apply below_drew1) | exact HB.out)⟩⟩
                        · rw [if_neg c30] at H
                          have c30b0 : (x4_22 == (a0.size : Int)) = false := beq_eq_false_iff_ne.mpr c30
                          have c30b1 : (x4_22 != (a0.size : Int)) = true := bne_iff_ne.mpr c30
                          (first | rw [c30b0] | (simp only [i64_w, i32_w]; rw [c30b0]) | skip)
                          by_cases c31 : 0 ≤ x4_22
                          · rw [if_pos c31] at H
                            have c31b0 : decide (0 ≤ x4_22) = true := decide_eq_true c31
                            clear c31
                            by_cases c32 : x4_22 < (a0.size : Int)
                            · rw [if_pos c32] at H
                              have c32b0 : decide (x4_22 < (a0.size : Int)) = true := decide_eq_true c32
                              clear c32
                              have H' := Aside0.mk H
                              clear H
                              have p33 : 0 ≤ (x4_22 : Int) := of_decide_eq_true (by first | (with_reducible assumption) | assumption)
                              have q33 : x4_22 < (a0.size : Int) := of_decide_eq_true (by first | (with_reducible assumption) | assumption)
                              have hx33 := bt_at a0 x4_22
                              replace p33 := eq_true p33
                              replace q33 := eq_true q33
                              go_wp2
                              go_meet
                              case rel => exact ⟨_, (((bt a0 x4_22) != 59)), (by first | rfl | (simp; done) | (simp [*]; done)), H', ⟨by have := HJ1.out; have := HJ6.out; have := HJ22.out; first | omega | exact Nat.le_refl _⟩, ⟨by repeat (first | (with_reducible first | exact HB.out | apply below_alloc | apply pw_below_drewN | apply below_drew1) | exact HB.out)⟩⟩
                            · rw [if_neg c32] at H
                              exact absurd H (by simp)
                          · rw [if_neg c31] at H
                            exact absurd H (by simp)
                      case rest =>
                        clear HC29
                        try clear c1
                        try clear p1
                        try clear q1
                        try clear hx1
                        try clear qi1
                        try clear c2
                        try clear p2
                        try clear q2
                        try clear hx2
                        try clear c3
                        try clear c3b0
                        try clear c3b1
                        try clear p3
                        try clear q3
                        try clear hx3
                        try clear c4
                        try clear c4b0
                        try clear c4b1
                        try clear p5
                        try clear q5
                        try clear hx5
                        try clear qi5
                        try clear c6
                        try clear p6
                        try clear c8
                        try clear c8b0
                        try clear c8b1
                        try clear p9
                        try clear q9
                        try clear hx9
                        try clear qi9
                        try clear c10
                        try clear c10b0
                        try clear c10b1
                        try clear c11
                        try clear c11b0
                        try clear c11b1
                        try clear p12
                        try clear q12
                        try clear hx12
                        try clear qi12
                        try clear c13
                        try clear c13b0
                        try clear c13b1
                        try clear p14
                        try clear q14
                        try clear hx14
                        try clear qi14
                        try clear c15
                        try clear c18
                        try clear c18b0
                        try clear c18b1
                        try clear p19
                        try clear q19
                        try clear hx19
                        try clear qi19
                        try clear c20
                        try clear c20b0
                        try clear c20b1
                        try clear c24
                        try clear c24b0
                        try clear c25
                        try clear c25b0
                        try clear c26
                        try clear c26b0
                        try clear p27
                        try clear q27
                        try clear hx27
                        try clear c28
                        try clear c28b0
                        try clear c28b1
                        try clear c30
                        try clear c30b0
                        try clear c30b1
                        try clear c31
                        try clear c31b0
                        try clear c32
                        try clear c32b0
                        try clear p33
                        try clear q33
                        try clear hx33
                        try clear p1
                        try clear p12
                        try clear p14
                        try clear p19
                        try clear p2
                        try clear p27
                        try clear p33
                        try clear p5
                        try clear p6
                        try clear p9
                        try clear q1
                        try clear q12
                        try clear q14
                        try clear q19
                        try clear q2
                        try clear q27
                        try clear q33
                        try clear q5
                        try clear q9
                        obtain ⟨kq, x63_28, rfl, HA, HJ28, HB⟩ := hcut
                        cases kq with
                        | zero => exact absurd HA.out (by simp [scriptoriumref02_Entity.j4])
                        | succ kj28 =>
                          have H := HA.out
                          clear HA
                          simp only [scriptoriumref02_Entity.j4] at H
                          by_cases c34 : x63_28 = true
                          · subst c34
                            have H1 : (some ((⟨#[]⟩ : ByteArray), 0)) = some (r1, r2) := by rw [if_pos rfl] at H; exact H
                            clear H
                            have H := H1
                            clear H1
                            simp only [Option.some.injEq, Prod.mk.injEq] at H
                            obtain ⟨rfl, rfl⟩ := H
                            go_wp2
                            go_ret2
                            exact ⟨by first | rfl | (simp [errW_none, errW_some] <;> rfl) | (simp [*, errW_none, errW_some] <;> rfl), by repeat (first | (with_reducible first | exact HB.out | apply below_alloc | apply pw_below_drewN | apply below_drew1) | exact HB.out)⟩
                          · replace c34 := Bool.eq_false_iff.mpr c34
                            subst c34
                            have H1 : (if 1 ≤ x4_22 then (if x4_22 ≤ (a0.size : Int) then ((scriptoriumref02_named.f (a0.extract 1 (x4_22 : Int).toNat)).bind fun t177 => (if t177.toList = ([] : List UInt8) then (some ((⟨#[]⟩ : ByteArray), 0)) else (some (t177, wrap64 (x4_22 + 1))))) else (none)) else (none)) = some (r1, r2) := by rw [if_neg (show ¬ (false = true) by decide)] at H; exact H
                            clear H
                            have H := H1
                            clear H1
                            by_cases c35 : 1 ≤ x4_22
                            · rw [if_pos c35] at H
                              have c35b0 := eq_true c35
                              have c35b1 : decide (1 ≤ x4_22) = true := decide_eq_true c35
                              clear c35
                              by_cases c36 : x4_22 ≤ (a0.size : Int)
                              · rw [if_pos c36] at H
                                have c36b0 := eq_true c36
                                have c36b1 : decide (x4_22 ≤ (a0.size : Int)) = true := decide_eq_true c36
                                clear c36
                                replace H := Option.bind_eq_some_iff.mp H
                                obtain ⟨t177, A370, H⟩ := H
                                replace H : (if t177.toList = ([] : List UInt8) then (some ((⟨#[]⟩ : ByteArray), 0)) else (some (t177, wrap64 (x4_22 + 1)))) = some (r1, r2) := H
                                have A37 := Aside0.mk A370
                                clear A370
                                by_cases c38 : t177.toList = ([] : List UInt8)
                                · rw [if_pos c38] at H
                                  have c38b0 : (t177.toList == ([] : List UInt8)) = true := beq_iff_eq.mpr c38
                                  have c38b1 : (t177.toList != ([] : List UInt8)) = false := bne_eq_false_iff_eq.mpr c38
                                  clear c38
                                  simp only [Option.some.injEq, Prod.mk.injEq] at H
                                  obtain ⟨rfl, rfl⟩ := H
                                  go_wp2_with (first | ((with_reducible refine gate_callee (f := 63) rfl ?_); refine goesL_ (some 67) rfl rfl Tryz.func63 (by kernel_rfl) rfl #[.string (a0.extract 1 (x4_22 : Int).toNat)] rfl (by (try simp only [List.map_toArray, List.map_cons, List.map_nil]); first | done | rfl | (simp only [List.length_drop, List.length_take]; rfl)) ?_; (with_reducible refine (scriptoriumref02_named.calls (a0.extract 1 (x4_22 : Int).toNat) t177 _ ?side1 A37.out).mono ?_); (case side1 => (first | (with_reducible first | exact HG.out | exact GW.drewN HG.out _ | exact GW.drewN (GW.drewN HG.out _) _) | exact GW.below HG.out (by repeat (first | (with_reducible first | exact HB.out | apply below_alloc | apply pw_below_drewN | apply below_drew1) | exact HB.out)))); rintro e w39 ⟨rfl, hb⟩; refine ⟨_, rfl, ?_⟩; have n0_ := Aside0.mk (below_step (by repeat (first | (with_reducible first | exact HB.out | apply below_alloc | apply pw_below_drewN | apply below_drew1) | exact HB.out)) hb); clear HB; have HB := n0_; clear n0_; (try clear hb); (try clear hb2); (try clear hk); (try clear hi)))
                                  go_ret2
                                  exact ⟨by first | rfl | (simp [errW_none, errW_some] <;> rfl) | (simp [*, errW_none, errW_some] <;> rfl), by repeat (first | (with_reducible first | exact HB.out | apply below_alloc | apply pw_below_drewN | apply below_drew1) | exact HB.out)⟩
                                · rw [if_neg c38] at H
                                  have c38b0 : (t177.toList == ([] : List UInt8)) = false := beq_eq_false_iff_ne.mpr c38
                                  have c38b1 : (t177.toList != ([] : List UInt8)) = true := bne_iff_ne.mpr c38
                                  simp only [Option.some.injEq, Prod.mk.injEq] at H
                                  obtain ⟨rfl, rfl⟩ := H
                                  go_wp2_with (first | ((with_reducible refine gate_callee (f := 63) rfl ?_); refine goesL_ (some 67) rfl rfl Tryz.func63 (by kernel_rfl) rfl #[.string (a0.extract 1 (x4_22 : Int).toNat)] rfl (by (try simp only [List.map_toArray, List.map_cons, List.map_nil]); first | done | rfl | (simp only [List.length_drop, List.length_take]; rfl)) ?_; (with_reducible refine (scriptoriumref02_named.calls (a0.extract 1 (x4_22 : Int).toNat) t177 _ ?side1 A37.out).mono ?_); (case side1 => (first | (with_reducible first | exact HG.out | exact GW.drewN HG.out _ | exact GW.drewN (GW.drewN HG.out _) _) | exact GW.below HG.out (by repeat (first | (with_reducible first | exact HB.out | apply below_alloc | apply pw_below_drewN | apply below_drew1) | exact HB.out)))); rintro e w40 ⟨rfl, hb⟩; refine ⟨_, rfl, ?_⟩; have n0_ := Aside0.mk (below_step (by repeat (first | (with_reducible first | exact HB.out | apply below_alloc | apply pw_below_drewN | apply below_drew1) | exact HB.out)) hb); clear HB; have HB := n0_; clear n0_; (try clear hb); (try clear hb2); (try clear hk); (try clear hi)))
                                  go_ret2
                                  exact ⟨by first | rfl | (simp [errW_none, errW_some] <;> rfl) | (simp [*, errW_none, errW_some] <;> rfl), by repeat (first | (with_reducible first | exact HB.out | apply below_alloc | apply pw_below_drewN | apply below_drew1) | exact HB.out)⟩
                              · rw [if_neg c36] at H
                                exact absurd H (by simp)
                            · rw [if_neg c35] at H
                              exact absurd H (by simp)
              · rw [if_neg c18] at H
                exact absurd H (by simp)

/-! ### scriptoriumref01_Mark: function 64 -/
def scriptoriumref01_Mark.f (a0 : Int) : Option (Bool) := if a0 ≥ 33 then (if a0 ≤ 47 then (some true) else (if a0 ≥ 58 then (if a0 ≤ 64 then (some true) else (if a0 ≥ 91 then (if a0 ≤ 96 then (some true) else (if a0 ≥ 123 then (some (decide (a0 ≤ 126))) else (some false))) else (if a0 ≥ 123 then (some (decide (a0 ≤ 126))) else (some false)))) else (if a0 ≥ 91 then (if a0 ≤ 96 then (some true) else (if a0 ≥ 123 then (some (decide (a0 ≤ 126))) else (some false))) else (if a0 ≥ 123 then (some (decide (a0 ≤ 126))) else (some false))))) else (if a0 ≥ 58 then (if a0 ≤ 64 then (some true) else (if a0 ≥ 91 then (if a0 ≤ 96 then (some true) else (if a0 ≥ 123 then (some (decide (a0 ≤ 126))) else (some false))) else (if a0 ≥ 123 then (some (decide (a0 ≤ 126))) else (some false)))) else (if a0 ≥ 91 then (if a0 ≤ 96 then (some true) else (if a0 ≥ 123 then (some (decide (a0 ≤ 126))) else (some false))) else (if a0 ≥ 123 then (some (decide (a0 ≤ 126))) else (some false))))
set_option maxHeartbeats 8000000 in
set_option maxRecDepth 100000 in
theorem scriptoriumref01_Mark.calls (a0 : Int) (r : Bool) (w : World) (hG : GW w) (h : scriptoriumref01_Mark.f a0 = some r) :
    Calls Tryz.prog 64 #[.int .i64 a0] w fun e w' => e = .returned (.bool r) ∧ Drawn0 w w' := by
  have HG := Aside0.mk hG
  clear hG
  have H : (if a0 ≥ 33 then (if a0 ≤ 47 then (some true) else (if a0 ≥ 58 then (if a0 ≤ 64 then (some true) else (if a0 ≥ 91 then (if a0 ≤ 96 then (some true) else (if a0 ≥ 123 then (some (decide (a0 ≤ 126))) else (some false))) else (if a0 ≥ 123 then (some (decide (a0 ≤ 126))) else (some false)))) else (if a0 ≥ 91 then (if a0 ≤ 96 then (some true) else (if a0 ≥ 123 then (some (decide (a0 ≤ 126))) else (some false))) else (if a0 ≥ 123 then (some (decide (a0 ≤ 126))) else (some false))))) else (if a0 ≥ 58 then (if a0 ≤ 64 then (some true) else (if a0 ≥ 91 then (if a0 ≤ 96 then (some true) else (if a0 ≥ 123 then (some (decide (a0 ≤ 126))) else (some false))) else (if a0 ≥ 123 then (some (decide (a0 ≤ 126))) else (some false)))) else (if a0 ≥ 91 then (if a0 ≤ 96 then (some true) else (if a0 ≥ 123 then (some (decide (a0 ≤ 126))) else (some false))) else (if a0 ≥ 123 then (some (decide (a0 ≤ 126))) else (some false))))) = some r := h
  clear h
  by_cases c2 : a0 ≥ 33
  · rw [if_pos c2] at H
    have c2b0 : decide (33 ≤ a0) = true := decide_eq_true c2
    clear c2
    by_cases c3 : a0 ≤ 47
    · rw [if_pos c3] at H
      have c3b0 : decide (a0 ≤ 47) = true := decide_eq_true c3
      clear c3
      obtain rfl := Option.some.inj H
      go_enter Tryz.func64, Tryz.ntmps64
      go_wp2
      go_ret
      exact ⟨by first | rfl | (simp; done) | (simp [*]; done), by repeat (first | exact Drawn0.refl _ | apply Drawn0.step)⟩
    · rw [if_neg c3] at H
      have c3b0 : decide (a0 ≤ 47) = false := decide_eq_false c3
      clear c3
      by_cases c4 : a0 ≥ 58
      · rw [if_pos c4] at H
        have c4b0 : decide (58 ≤ a0) = true := decide_eq_true c4
        clear c4
        by_cases c5 : a0 ≤ 64
        · rw [if_pos c5] at H
          have c5b0 : decide (a0 ≤ 64) = true := decide_eq_true c5
          clear c5
          obtain rfl := Option.some.inj H
          go_enter Tryz.func64, Tryz.ntmps64
          go_wp2
          go_ret
          exact ⟨by first | rfl | (simp; done) | (simp [*]; done), by repeat (first | exact Drawn0.refl _ | apply Drawn0.step)⟩
        · rw [if_neg c5] at H
          have c5b0 : decide (a0 ≤ 64) = false := decide_eq_false c5
          clear c5
          by_cases c6 : a0 ≥ 91
          · rw [if_pos c6] at H
            have c6b0 : decide (91 ≤ a0) = true := decide_eq_true c6
            clear c6
            by_cases c7 : a0 ≤ 96
            · rw [if_pos c7] at H
              have c7b0 : decide (a0 ≤ 96) = true := decide_eq_true c7
              clear c7
              obtain rfl := Option.some.inj H
              go_enter Tryz.func64, Tryz.ntmps64
              go_wp2
              go_ret
              exact ⟨by first | rfl | (simp; done) | (simp [*]; done), by repeat (first | exact Drawn0.refl _ | apply Drawn0.step)⟩
            · rw [if_neg c7] at H
              have c7b0 : decide (a0 ≤ 96) = false := decide_eq_false c7
              clear c7
              by_cases c8 : a0 ≥ 123
              · rw [if_pos c8] at H
                have c8b0 : decide (123 ≤ a0) = true := decide_eq_true c8
                clear c8
                obtain rfl := Option.some.inj H
                go_enter Tryz.func64, Tryz.ntmps64
                go_wp2
                go_ret
                exact ⟨by first | rfl | (simp; done) | (simp [*]; done), by repeat (first | exact Drawn0.refl _ | apply Drawn0.step)⟩
              · rw [if_neg c8] at H
                have c8b0 : decide (123 ≤ a0) = false := decide_eq_false c8
                clear c8
                obtain rfl := Option.some.inj H
                go_enter Tryz.func64, Tryz.ntmps64
                go_wp2
                go_ret
                exact ⟨by first | rfl | (simp; done) | (simp [*]; done), by repeat (first | exact Drawn0.refl _ | apply Drawn0.step)⟩
          · rw [if_neg c6] at H
            have c6b0 : decide (91 ≤ a0) = false := decide_eq_false c6
            clear c6
            by_cases c9 : a0 ≥ 123
            · rw [if_pos c9] at H
              have c9b0 : decide (123 ≤ a0) = true := decide_eq_true c9
              clear c9
              obtain rfl := Option.some.inj H
              go_enter Tryz.func64, Tryz.ntmps64
              go_wp2
              go_ret
              exact ⟨by first | rfl | (simp; done) | (simp [*]; done), by repeat (first | exact Drawn0.refl _ | apply Drawn0.step)⟩
            · rw [if_neg c9] at H
              have c9b0 : decide (123 ≤ a0) = false := decide_eq_false c9
              clear c9
              obtain rfl := Option.some.inj H
              go_enter Tryz.func64, Tryz.ntmps64
              go_wp2
              go_ret
              exact ⟨by first | rfl | (simp; done) | (simp [*]; done), by repeat (first | exact Drawn0.refl _ | apply Drawn0.step)⟩
      · rw [if_neg c4] at H
        have c4b0 : decide (58 ≤ a0) = false := decide_eq_false c4
        clear c4
        by_cases c10 : a0 ≥ 91
        · rw [if_pos c10] at H
          have c10b0 : decide (91 ≤ a0) = true := decide_eq_true c10
          clear c10
          by_cases c11 : a0 ≤ 96
          · rw [if_pos c11] at H
            have c11b0 : decide (a0 ≤ 96) = true := decide_eq_true c11
            clear c11
            obtain rfl := Option.some.inj H
            go_enter Tryz.func64, Tryz.ntmps64
            go_wp2
            go_ret
            exact ⟨by first | rfl | (simp; done) | (simp [*]; done), by repeat (first | exact Drawn0.refl _ | apply Drawn0.step)⟩
          · rw [if_neg c11] at H
            have c11b0 : decide (a0 ≤ 96) = false := decide_eq_false c11
            clear c11
            by_cases c12 : a0 ≥ 123
            · rw [if_pos c12] at H
              have c12b0 : decide (123 ≤ a0) = true := decide_eq_true c12
              clear c12
              obtain rfl := Option.some.inj H
              go_enter Tryz.func64, Tryz.ntmps64
              go_wp2
              go_ret
              exact ⟨by first | rfl | (simp; done) | (simp [*]; done), by repeat (first | exact Drawn0.refl _ | apply Drawn0.step)⟩
            · rw [if_neg c12] at H
              have c12b0 : decide (123 ≤ a0) = false := decide_eq_false c12
              clear c12
              obtain rfl := Option.some.inj H
              go_enter Tryz.func64, Tryz.ntmps64
              go_wp2
              go_ret
              exact ⟨by first | rfl | (simp; done) | (simp [*]; done), by repeat (first | exact Drawn0.refl _ | apply Drawn0.step)⟩
        · rw [if_neg c10] at H
          have c10b0 : decide (91 ≤ a0) = false := decide_eq_false c10
          clear c10
          by_cases c13 : a0 ≥ 123
          · rw [if_pos c13] at H
            have c13b0 : decide (123 ≤ a0) = true := decide_eq_true c13
            clear c13
            obtain rfl := Option.some.inj H
            go_enter Tryz.func64, Tryz.ntmps64
            go_wp2
            go_ret
            exact ⟨by first | rfl | (simp; done) | (simp [*]; done), by repeat (first | exact Drawn0.refl _ | apply Drawn0.step)⟩
          · rw [if_neg c13] at H
            have c13b0 : decide (123 ≤ a0) = false := decide_eq_false c13
            clear c13
            obtain rfl := Option.some.inj H
            go_enter Tryz.func64, Tryz.ntmps64
            go_wp2
            go_ret
            exact ⟨by first | rfl | (simp; done) | (simp [*]; done), by repeat (first | exact Drawn0.refl _ | apply Drawn0.step)⟩
  · rw [if_neg c2] at H
    have c2b0 : decide (33 ≤ a0) = false := decide_eq_false c2
    clear c2
    by_cases c14 : a0 ≥ 58
    · rw [if_pos c14] at H
      have c14b0 : decide (58 ≤ a0) = true := decide_eq_true c14
      clear c14
      by_cases c15 : a0 ≤ 64
      · rw [if_pos c15] at H
        have c15b0 : decide (a0 ≤ 64) = true := decide_eq_true c15
        clear c15
        obtain rfl := Option.some.inj H
        go_enter Tryz.func64, Tryz.ntmps64
        go_wp2
        go_ret
        exact ⟨by first | rfl | (simp; done) | (simp [*]; done), by repeat (first | exact Drawn0.refl _ | apply Drawn0.step)⟩
      · rw [if_neg c15] at H
        have c15b0 : decide (a0 ≤ 64) = false := decide_eq_false c15
        clear c15
        by_cases c16 : a0 ≥ 91
        · rw [if_pos c16] at H
          have c16b0 : decide (91 ≤ a0) = true := decide_eq_true c16
          clear c16
          by_cases c17 : a0 ≤ 96
          · rw [if_pos c17] at H
            have c17b0 : decide (a0 ≤ 96) = true := decide_eq_true c17
            clear c17
            obtain rfl := Option.some.inj H
            go_enter Tryz.func64, Tryz.ntmps64
            go_wp2
            go_ret
            exact ⟨by first | rfl | (simp; done) | (simp [*]; done), by repeat (first | exact Drawn0.refl _ | apply Drawn0.step)⟩
          · rw [if_neg c17] at H
            have c17b0 : decide (a0 ≤ 96) = false := decide_eq_false c17
            clear c17
            by_cases c18 : a0 ≥ 123
            · rw [if_pos c18] at H
              have c18b0 : decide (123 ≤ a0) = true := decide_eq_true c18
              clear c18
              obtain rfl := Option.some.inj H
              go_enter Tryz.func64, Tryz.ntmps64
              go_wp2
              go_ret
              exact ⟨by first | rfl | (simp; done) | (simp [*]; done), by repeat (first | exact Drawn0.refl _ | apply Drawn0.step)⟩
            · rw [if_neg c18] at H
              have c18b0 : decide (123 ≤ a0) = false := decide_eq_false c18
              clear c18
              obtain rfl := Option.some.inj H
              go_enter Tryz.func64, Tryz.ntmps64
              go_wp2
              go_ret
              exact ⟨by first | rfl | (simp; done) | (simp [*]; done), by repeat (first | exact Drawn0.refl _ | apply Drawn0.step)⟩
        · rw [if_neg c16] at H
          have c16b0 : decide (91 ≤ a0) = false := decide_eq_false c16
          clear c16
          by_cases c19 : a0 ≥ 123
          · rw [if_pos c19] at H
            have c19b0 : decide (123 ≤ a0) = true := decide_eq_true c19
            clear c19
            obtain rfl := Option.some.inj H
            go_enter Tryz.func64, Tryz.ntmps64
            go_wp2
            go_ret
            exact ⟨by first | rfl | (simp; done) | (simp [*]; done), by repeat (first | exact Drawn0.refl _ | apply Drawn0.step)⟩
          · rw [if_neg c19] at H
            have c19b0 : decide (123 ≤ a0) = false := decide_eq_false c19
            clear c19
            obtain rfl := Option.some.inj H
            go_enter Tryz.func64, Tryz.ntmps64
            go_wp2
            go_ret
            exact ⟨by first | rfl | (simp; done) | (simp [*]; done), by repeat (first | exact Drawn0.refl _ | apply Drawn0.step)⟩
    · rw [if_neg c14] at H
      have c14b0 : decide (58 ≤ a0) = false := decide_eq_false c14
      clear c14
      by_cases c20 : a0 ≥ 91
      · rw [if_pos c20] at H
        have c20b0 : decide (91 ≤ a0) = true := decide_eq_true c20
        clear c20
        by_cases c21 : a0 ≤ 96
        · rw [if_pos c21] at H
          have c21b0 : decide (a0 ≤ 96) = true := decide_eq_true c21
          clear c21
          obtain rfl := Option.some.inj H
          go_enter Tryz.func64, Tryz.ntmps64
          go_wp2
          go_ret
          exact ⟨by first | rfl | (simp; done) | (simp [*]; done), by repeat (first | exact Drawn0.refl _ | apply Drawn0.step)⟩
        · rw [if_neg c21] at H
          have c21b0 : decide (a0 ≤ 96) = false := decide_eq_false c21
          clear c21
          by_cases c22 : a0 ≥ 123
          · rw [if_pos c22] at H
            have c22b0 : decide (123 ≤ a0) = true := decide_eq_true c22
            clear c22
            obtain rfl := Option.some.inj H
            go_enter Tryz.func64, Tryz.ntmps64
            go_wp2
            go_ret
            exact ⟨by first | rfl | (simp; done) | (simp [*]; done), by repeat (first | exact Drawn0.refl _ | apply Drawn0.step)⟩
          · rw [if_neg c22] at H
            have c22b0 : decide (123 ≤ a0) = false := decide_eq_false c22
            clear c22
            obtain rfl := Option.some.inj H
            go_enter Tryz.func64, Tryz.ntmps64
            go_wp2
            go_ret
            exact ⟨by first | rfl | (simp; done) | (simp [*]; done), by repeat (first | exact Drawn0.refl _ | apply Drawn0.step)⟩
      · rw [if_neg c20] at H
        have c20b0 : decide (91 ≤ a0) = false := decide_eq_false c20
        clear c20
        by_cases c23 : a0 ≥ 123
        · rw [if_pos c23] at H
          have c23b0 : decide (123 ≤ a0) = true := decide_eq_true c23
          clear c23
          obtain rfl := Option.some.inj H
          go_enter Tryz.func64, Tryz.ntmps64
          go_wp2
          go_ret
          exact ⟨by first | rfl | (simp; done) | (simp [*]; done), by repeat (first | exact Drawn0.refl _ | apply Drawn0.step)⟩
        · rw [if_neg c23] at H
          have c23b0 : decide (123 ≤ a0) = false := decide_eq_false c23
          clear c23
          obtain rfl := Option.some.inj H
          go_enter Tryz.func64, Tryz.ntmps64
          go_wp2
          go_ret
          exact ⟨by first | rfl | (simp; done) | (simp [*]; done), by repeat (first | exact Drawn0.refl _ | apply Drawn0.step)⟩

end Go.Proofs.YthdlibgiejpjeaaGreatDoor.GR
