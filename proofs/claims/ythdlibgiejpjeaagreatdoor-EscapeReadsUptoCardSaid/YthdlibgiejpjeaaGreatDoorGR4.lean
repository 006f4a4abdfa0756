-- PRINTED by print.py (a twelfth state) out of the translation. Not trusted: Lean checks it.
import Derived.Test.YthdlibgiejpjeaaGreatDoorGR0
import Derived.Test.YthdlibgiejpjeaaGreatDoorGR1
import Derived.Test.YthdlibgiejpjeaaGreatDoorGR3
namespace Go.Proofs.YthdlibgiejpjeaaGreatDoor.GR
open Go.RowKit Go.Proofs.YthdlibgiejpjeaaGreatDoor Go.Proofs.YthdlibgiejpjeaaGreatDoor.Given Go.Proofs.YthdlibgiejpjeaaGreatDoorW.PrintWords Go.Proofs.YthdlibgiejpjeaaGreatDoorW.PrintLast Go.Proofs.YthdlibgiejpjeaaGreatDoorW.PrintMore
attribute [local go_sem] max2_int min2_int max_two min_two max_three min_three max_four min_four   -- for this text's walks alone
set_option linter.unusedVariables false
set_option linter.unusedSimpArgs false

/-! ### scriptoriumref02_Unescape: function 28 -/
mutual
def scriptoriumref02_Unescape.l0 : Nat → ByteArray → List Int → Int → Option (ByteArray)
  | 0, _, _, _ => none
  | k + 1, x0, x3, x4 => if x4 < (x0.size : Int) then (if 0 ≤ x4 then (if (bt x0 x4) = 92 then (scriptoriumref02_Unescape.j1 k x0 x3 x4 (decide ((wrap64 (x4 + 1)) < (x0.size : Int)))) else (scriptoriumref02_Unescape.j1 k x0 x3 x4 false)) else (none)) else (some (strOfNums x3))
def scriptoriumref02_Unescape.j1 : Nat → ByteArray → List Int → Int → Bool → Option (ByteArray)
  | 0, _, _, _, _ => none
  | k + 1, x0, x3, x4, x22 => if x22 = true then (if 0 ≤ (wrap64 (x4 + 1)) then (if (wrap64 (x4 + 1)) < (x0.size : Int) then ((scriptoriumref01_Mark.f (wrap64 (bt x0 (wrap64 (x4 + 1))))).bind fun t178 => (if t178 = true then (if x3.length < 140737488355328 then (scriptoriumref02_Unescape.l0 k x0 (x3 ++ [bt x0 (wrap64 (x4 + 1))]) (wrap64 (x4 + 2))) else (none)) else (if 0 ≤ x4 then (if x4 ≤ (x0.size : Int) then ((scriptoriumref02_Entity.f k (x0.extract (x4 : Int).toNat x0.size)).bind fun bt182 => (if bt182.2 > 0 then (if x3.length + bt182.1.size < 140737488355328 then (scriptoriumref02_Unescape.l0 k x0 (x3 ++ bytesOf bt182.1) (wrap64 (x4 + bt182.2))) else (none)) else (if x4 < (x0.size : Int) then (if x3.length < 140737488355328 then (scriptoriumref02_Unescape.l0 k x0 (x3 ++ [bt x0 x4]) (wrap64 (x4 + 1))) else (none)) else (none)))) else (none)) else (none)))) else (none)) else (none)) else (if 0 ≤ x4 then (if x4 ≤ (x0.size : Int) then ((scriptoriumref02_Entity.f k (x0.extract (x4 : Int).toNat x0.size)).bind fun bt190 => (if bt190.2 > 0 then (if x3.length + bt190.1.size < 140737488355328 then (scriptoriumref02_Unescape.l0 k x0 (x3 ++ bytesOf bt190.1) (wrap64 (x4 + bt190.2))) else (none)) else (if x4 < (x0.size : Int) then (if x3.length < 140737488355328 then (scriptoriumref02_Unescape.l0 k x0 (x3 ++ [bt x0 x4]) (wrap64 (x4 + 1))) else (none)) else (none)))) else (none)) else (none))
end
def scriptoriumref02_Unescape.f (k : Nat) (a0 : ByteArray) : Option (ByteArray) := scriptoriumref02_Unescape.l0 k a0 ([] : List Int) 0
theorem scriptoriumref02_Unescape.mono_l : ∀ k, (∀ y0 y1 y2, LeO (scriptoriumref02_Unescape.l0 k y0 y1 y2) (scriptoriumref02_Unescape.l0 (k + 1) y0 y1 y2)) ∧ (∀ y0 y1 y2 y3, LeO (scriptoriumref02_Unescape.j1 k y0 y1 y2 y3) (scriptoriumref02_Unescape.j1 (k + 1) y0 y1 y2 y3))
  | 0 => ⟨fun _ _ _ r h => by simp [scriptoriumref02_Unescape.l0] at h, fun _ _ _ _ r h => by simp [scriptoriumref02_Unescape.j1] at h⟩
  | k + 1 => by
    obtain ⟨ih0, ih1⟩ := scriptoriumref02_Unescape.mono_l k
    refine ⟨?_, ?_⟩
    · intro y0 y1 y2
      unfold scriptoriumref02_Unescape.l0
      repeat' first
      | (with_reducible exact ih0 _ _ _)
      | (with_reducible exact ih1 _ _ _ _)
      | (with_reducible exact scriptoriumref02_Entity.mono _ _)
      | (with_reducible exact LeO.refl _)
      | (with_reducible exact LeO.none _)
      | (with_reducible refine LeO.ite ?_ ?_)
      | (with_reducible refine LeO.bind ?_ (fun _ => ?_))
      | exact ih0 _ _ _
      | exact ih1 _ _ _ _
      | exact scriptoriumref02_Entity.mono _ _
      | exact LeO.none _
      | refine LeO.ite ?_ ?_
      | refine LeO.bind ?_ (fun _ => ?_)
    · intro y0 y1 y2 y3
      unfold scriptoriumref02_Unescape.j1
      repeat' first
      | (with_reducible exact ih0 _ _ _)
      | (with_reducible exact ih1 _ _ _ _)
      | (with_reducible exact scriptoriumref02_Entity.mono _ _)
      | (with_reducible exact LeO.refl _)
      | (with_reducible exact LeO.none _)
      | (with_reducible refine LeO.ite ?_ ?_)
      | (with_reducible refine LeO.bind ?_ (fun _ => ?_))
      | exact ih0 _ _ _
      | exact ih1 _ _ _ _
      | exact scriptoriumref02_Entity.mono _ _
      | exact LeO.none _
      | refine LeO.ite ?_ ?_
      | refine LeO.bind ?_ (fun _ => ?_)
theorem scriptoriumref02_Unescape.mono : ∀ a0 k, LeO (scriptoriumref02_Unescape.f k a0) (scriptoriumref02_Unescape.f (k + 1) a0) := by
  intro a0 k
  obtain ⟨ih0, ih1⟩ := scriptoriumref02_Unescape.mono_l k
  unfold scriptoriumref02_Unescape.f
  repeat' first
      | (with_reducible exact ih0 _ _ _)
      | (with_reducible exact ih1 _ _ _ _)
      | (with_reducible exact scriptoriumref02_Entity.mono _ _)
      | (with_reducible exact LeO.refl _)
      | (with_reducible exact LeO.none _)
      | (with_reducible refine LeO.ite ?_ ?_)
      | (with_reducible refine LeO.bind ?_ (fun _ => ?_))
      | exact ih0 _ _ _
      | exact ih1 _ _ _ _
      | exact scriptoriumref02_Entity.mono _ _
      | exact LeO.none _
      | refine LeO.ite ?_ ?_
      | refine LeO.bind ?_ (fun _ => ?_)
set_option maxHeartbeats 8000000 in
set_option maxRecDepth 100000 in
theorem scriptoriumref02_Unescape.calls (k : Nat) (a0 : ByteArray) (r : ByteArray) (w : World) (hG : GW w) (h : scriptoriumref02_Unescape.f k a0 = some r) :
    Calls Tryz.prog 28 #[.string a0] w fun e w' => e = .returned (.string r) ∧ Below w.heap.size w w' := by
  have HB := Aside0.mk (Below.refl w.heap.size w)
  have HG := Aside0.mk hG
  clear hG
  have H : (scriptoriumref02_Unescape.l0 k a0 ([] : List Int) 0) = some r := h
  clear h
  have H' := Aside0.mk H
  clear H
  go_enter Tryz.func28, Tryz.ntmps28
  go_wp2
  go_loopg [3, 4] k (fun kq v3 v4 w' => ∃ (x3_1 : List Int) (x4_1 : Int), v4 = .int .i64 x4_1 ∧ Aside0 (scriptoriumref02_Unescape.l0 kq a0 x3_1 x4_1 = some r) ∧ Aside0 (kq ≤ k) ∧ Aside0 (Kd.R (Kd.int .u8) 5 w' w.heap.size (fun _ => True) v3 x3_1) ∧ Aside0 (Below w.heap.size w w'))
  case atStart => exact ⟨(([] : List Int)), (0), (by first | rfl | (simp; done) | (simp [*]; done)), H', ⟨Nat.le_refl _⟩, ⟨by first | exact Kd.R_nil _ _ _ _ _ | exact Kd.N_nil _ _ _ _ _ | exact Kd.V_nil _ _ _ _ _ | exact Kd.Q_nil _ _ _ _ _ | exact Kd.S_nil _ _ _ _ _⟩, ⟨by repeat (first | (with_reducible first | exact HB.out | apply below_alloc | apply pw_below_drewN | apply below_drew1) | exact HB.out)⟩⟩
  case round =>
    clear H'
    obtain ⟨x3_1, x4_1, rfl, HA, HK1, HO_3, HB⟩ := hrel
    cases gk with
    | zero => exact absurd HA.out (by simp [scriptoriumref02_Unescape.l0])
    | succ k1 =>
      have H := HA.out
      clear HA
      simp only [scriptoriumref02_Unescape.l0] at H
      by_cases c2 : x4_1 < (a0.size : Int)
      · rw [if_pos c2] at H
        have c2b0 : decide (x4_1 < (a0.size : Int)) = true := decide_eq_true c2
        clear c2
        have HC3 := Aside0.mk H
        clear H
        go_upto_region 4 with (fail)
        go_cut [22] (fun v22 wc => ∃ (kq : Nat) (x22_2 : Bool), v22 = .bool x22_2 ∧ Aside0 (scriptoriumref02_Unescape.j1 kq a0 x3_1 x4_1 x22_2 = some r) ∧ Aside0 (kq ≤ k1) ∧ Aside0 (Kd.R (Kd.int .u8) 5 wc w.heap.size (fun _ => True) u3 x3_1) ∧ Aside0 (Below w.heap.size w wc))
        case first =>
          have H := HC3.out
          clear HC3
          by_cases c4 : 0 ≤ x4_1
          · rw [if_pos c4] at H
            have c4b0 : decide (0 ≤ x4_1) = true := decide_eq_true c4
            clear c4
            (first | rw [c4b0] | (simp only [i64_w, i32_w]; rw [c4b0]) | skip)
            by_cases c6 : (bt a0 x4_1) = 92
            · rw [if_pos c6] at H
              have c6b0 : ((bt a0 x4_1) == 92) = true := beq_iff_eq.mpr c6
              have c6b1 : ((bt a0 x4_1) != 92) = false := bne_eq_false_iff_eq.mpr c6
              clear c6
              have H' := Aside0.mk H
              clear H
              have p5 : 0 ≤ (x4_1 : Int) := of_decide_eq_true (by first | (with_reducible assumption) | assumption)
              have q5 : x4_1 < (a0.size : Int) := of_decide_eq_true (by first | (with_reducible assumption) | assumption)
              have hx5 := bt_at a0 x4_1
              replace p5 := eq_true p5
              replace q5 := eq_true q5
              go_wp2
              go_meet
              case rel => exact ⟨_, (decide ((wrap64 (x4_1 + 1)) < (a0.size : Int))), (by first | rfl | (simp; done) | (simp [*]; done)), H', ⟨by have := HK1.out; first | omega | exact Nat.le_refl _⟩, ⟨by (with_reducible repeat (first | apply Kd.R_alloc | apply Kd.R_drewN | apply Kd.R_drew)); exact HO_3.out⟩, ⟨by repeat (first | (with_reducible first | exact HB.out | apply below_alloc | apply pw_below_drewN | apply below_drew1) | exact HB.out)⟩⟩
            · rw [if_neg c6] at H
              have c6b0 : ((bt a0 x4_1) == 92) = false := beq_eq_false_iff_ne.mpr c6
              have c6b1 : ((bt a0 x4_1) != 92) = true := bne_iff_ne.mpr c6
              have H' := Aside0.mk H
              clear H
              have p5 : 0 ≤ (x4_1 : Int) := of_decide_eq_true (by first | (with_reducible assumption) | assumption)
              have q5 : x4_1 < (a0.size : Int) := of_decide_eq_true (by first | (with_reducible assumption) | assumption)
              have hx5 := bt_at a0 x4_1
              replace p5 := eq_true p5
              replace q5 := eq_true q5
              go_wp2
              go_meet
              case rel => exact ⟨_, (false), (by first | rfl | (simp; done) | (simp [*]; done)), H', ⟨by have := HK1.out; first | omega | exact Nat.le_refl _⟩, ⟨by (with_reducible repeat (first | apply Kd.R_alloc | apply Kd.R_drewN | apply Kd.R_drew)); exact HO_3.out⟩, ⟨by repeat (first | (with_reducible first | exact HB.out | apply below_alloc | apply pw_below_drewN | apply below_drew1) | exact HB.out)⟩⟩
          · rw [if_neg c4] at H
            exact absurd H (by simp)
        case rest =>
          clear HC3
          try clear c2
          try clear c2b0
          try clear p2
          try clear c4
          try clear c4b0
          try clear p5
          try clear q5
          try clear hx5
          try clear c6
          try clear c6b0
          try clear c6b1
          try clear p6
          try clear p5
          try clear q5
          obtain ⟨kq, x22_2, rfl, HA, HJ2, HO_3, HB⟩ := hcut
          cases kq with
          | zero => exact absurd HA.out (by simp [scriptoriumref02_Unescape.j1])
          | succ kj2 =>
            have H := HA.out
            clear HA
            simp only [scriptoriumref02_Unescape.j1] at H
            by_cases c7 : x22_2 = true
            · subst c7
              have H1 : (if 0 ≤ (wrap64 (x4_1 + 1)) then (if (wrap64 (x4_1 + 1)) < (a0.size : Int) then ((scriptoriumref01_Mark.f (wrap64 (bt a0 (wrap64 (x4_1 + 1))))).bind fun t178 => (if t178 = true then (if x3_1.length < 140737488355328 then (scriptoriumref02_Unescape.l0 kj2 a0 (x3_1 ++ [bt a0 (wrap64 (x4_1 + 1))]) (wrap64 (x4_1 + 2))) else (none)) else (if 0 ≤ x4_1 then (if x4_1 ≤ (a0.size : Int) then ((scriptoriumref02_Entity.f kj2 (a0.extract (x4_1 : Int).toNat a0.size)).bind fun bt182 => (if bt182.2 > 0 then (if x3_1.length + bt182.1.size < 140737488355328 then (scriptoriumref02_Unescape.l0 kj2 a0 (x3_1 ++ bytesOf bt182.1) (wrap64 (x4_1 + bt182.2))) else (none)) else (if x4_1 < (a0.size : Int) then (if x3_1.length < 140737488355328 then (scriptoriumref02_Unescape.l0 kj2 a0 (x3_1 ++ [bt a0 x4_1]) (wrap64 (x4_1 + 1))) else (none)) else (none)))) else (none)) else (none)))) else (none)) else (none)) = some r := by rw [if_pos rfl] at H; exact H
              clear H
              have H := H1
              clear H1
              obtain ⟨ji8, hji8⟩ : ∃ j_ : Int, (wrap64 (x4_1 + 1)) = j_ := ⟨_, rfl⟩
              replace H : (if 0 ≤ (ji8) then (if (ji8) < (a0.size : Int) then ((scriptoriumref01_Mark.f (wrap64 (bt a0 (ji8)))).bind fun t178 => (if t178 = true then (if x3_1.length < 140737488355328 then (scriptoriumref02_Unescape.l0 kj2 a0 (x3_1 ++ [bt a0 (ji8)]) (wrap64 (x4_1 + 2))) else (none)) else (if 0 ≤ x4_1 then (if x4_1 ≤ (a0.size : Int) then ((scriptoriumref02_Entity.f kj2 (a0.extract (x4_1 : Int).toNat a0.size)).bind fun bt182 => (if bt182.2 > 0 then (if x3_1.length + bt182.1.size < 140737488355328 then (scriptoriumref02_Unescape.l0 kj2 a0 (x3_1 ++ bytesOf bt182.1) (wrap64 (x4_1 + bt182.2))) else (none)) else (if x4_1 < (a0.size : Int) then (if x3_1.length < 140737488355328 then (scriptoriumref02_Unescape.l0 kj2 a0 (x3_1 ++ [bt a0 x4_1]) ji8) else (none)) else (none)))) else (none)) else (none)))) else (none)) else (none)) = some r := by first | (rw [hji8] at H; exact H) | (simp only [hji8] at H ⊢; exact H)
              have hji8w : (IntKind.i64.wrap (x4_1 + 1)) = ji8 := (i64_w _).trans hji8
              by_cases c9 : 0 ≤ (ji8)
              · rw [if_pos c9] at H
                have c9b0 : decide (0 ≤ (ji8)) = true := decide_eq_true c9
                clear c9
                by_cases c10 : (ji8) < (a0.size : Int)
                · rw [if_pos c10] at H
                  have c10b0 : decide ((ji8) < (a0.size : Int)) = true := decide_eq_true c10
                  clear c10
                  replace H := Option.bind_eq_some_iff.mp H
                  obtain ⟨t178, A120, H⟩ := H
                  replace H : (if t178 = true then (if x3_1.length < 140737488355328 then (scriptoriumref02_Unescape.l0 kj2 a0 (x3_1 ++ [bt a0 (ji8)]) (wrap64 (x4_1 + 2))) else (none)) else (if 0 ≤ x4_1 then (if x4_1 ≤ (a0.size : Int) then ((scriptoriumref02_Entity.f kj2 (a0.extract (x4_1 : Int).toNat a0.size)).bind fun bt182 => (if bt182.2 > 0 then (if x3_1.length + bt182.1.size < 140737488355328 then (scriptoriumref02_Unescape.l0 kj2 a0 (x3_1 ++ bytesOf bt182.1) (wrap64 (x4_1 + bt182.2))) else (none)) else (if x4_1 < (a0.size : Int) then (if x3_1.length < 140737488355328 then (scriptoriumref02_Unescape.l0 kj2 a0 (x3_1 ++ [bt a0 x4_1]) ji8) else (none)) else (none)))) else (none)) else (none))) = some r := H
                  have A12 := Aside0.mk A120
                  clear A120
                  by_cases c13 : t178 = true
                  · subst c13
                    have H1 : (if x3_1.length < 140737488355328 then (scriptoriumref02_Unescape.l0 kj2 a0 (x3_1 ++ [bt a0 (ji8)]) (wrap64 (x4_1 + 2))) else (none)) = some r := by rw [if_pos rfl] at H; exact H
                    clear H
                    have H := H1
                    clear H1
                    by_cases c15 : x3_1.length < 140737488355328
                    · rw [if_pos c15] at H
                      have LMc15 := Aside0.mk c15
                      clear c15
                      obtain ⟨y179, hy179⟩ : ∃ y_ : List Int, y_ = (x3_1 ++ [bt a0 (ji8)]) := ⟨_, rfl⟩
                      replace H : (scriptoriumref02_Unescape.l0 kj2 a0 y179 (wrap64 (x4_1 + 2))) = some r := by first | (rw [hy179]; with_reducible exact H) | (have H2_ := (Option.bind_some _ _).symm.trans H; rw [hy179]; with_reducible exact H2_) | (have H2_ := (Option.bind_some _ _).symm.trans H; with_reducible exact H2_) | with_reducible exact H | (rw [hy179]; exact H) | exact H
                      have Ny179 := Aside0.mk hy179
                      clear hy179
                      have H' := Aside0.mk H
                      clear H
                      have p11 : 0 ≤ ((ji8) : Int) := of_decide_eq_true (by first | (with_reducible assumption) | assumption)
                      have q11 : (ji8) < (a0.size : Int) := of_decide_eq_true (by first | (with_reducible assumption) | assumption)
                      have hx11 := bt_at a0 (ji8)
                      replace p11 := eq_true p11
                      replace q11 := eq_true q11
                      go_wp2_with (first | ((with_reducible refine gate_callee (f := 64) rfl ?_); refine goesL_ (some 28) rfl rfl Tryz.func64 (by kernel_rfl) rfl #[.int .i64 (wrap64 (bt a0 (ji8)))] rfl (by (try simp only [List.map_toArray, List.map_cons, List.map_nil]); first | done | (simp only [hji8]; rfl) | rfl | (simp only [List.length_drop, List.length_take]; rfl)) ?_; (with_reducible refine (scriptoriumref01_Mark.calls (wrap64 (bt a0 (ji8))) true _ ?side1 A12.out).mono ?_); (case side1 => (first | (with_reducible first | exact HG.out | exact GW.drewN HG.out _ | exact GW.drewN (GW.drewN HG.out _) _) | exact GW.below HG.out (by repeat (first | (with_reducible first | exact HB.out | apply below_alloc | apply pw_below_drewN | apply below_drew1) | exact HB.out)))); rintro e w' ⟨rfl, ⟨nd, rfl⟩⟩; refine ⟨_, rfl, ?_⟩; have p14 : 0 ≤ ((ji8) : Int) := of_decide_eq_true (by first | (with_reducible assumption) | assumption); have q14 : (ji8) < (a0.size : Int) := of_decide_eq_true (by first | (with_reducible assumption) | assumption); have hx14 := bt_at a0 (ji8); replace p14 := eq_true p14; replace q14 := eq_true q14) | ((with_reducible refine gate_builtin (b := .append) (xs := #[.tmp 30, .tmp 35]) rfl ?_); (try (refine gate_guard (by rfl) ?_; dsimp only)); at_builtin; refine Kd.R_append (Kd.int .u8) (w0 := w) w.heap.size rfl (.tmp 30) (.tmp 35) 28 5 (.int .u8 0) 1 rfl Tryz.underlying28 info5 rfl (by decide) (by omega) u3 x3_1 (bt a0 (ji8)) [.int .u8 (bt a0 (ji8))] (fun _ => True) (fun _ => False) rfl rfl ?aP (fun _ hk => hk.elim) ?aF ?aO ?aB ?aS ?aL ?_; (case aP => exact rfl); (case aB => exact (by repeat (first | (with_reducible first | exact HB.out | apply below_alloc | apply pw_below_drewN | apply below_drew1) | exact HB.out))); (case aF => exact (fun _ _ => trivial)); (case aO => exact (by (with_reducible repeat (first | apply Kd.R_alloc | apply Kd.R_drewN | apply Kd.R_drew)); exact HO_3.out)); (case aS => exact (below_size (by repeat (first | (with_reducible first | exact HB.out | apply below_alloc | apply pw_below_drewN | apply below_drew1) | exact HB.out)))); (case aL => have := LMc15.out; first | omega | exact Nat.le_of_lt this); intro v180 w16 ho hb hg hat; rw [← Ny179.out] at ho; have n0_ := Aside0.mk (hb); have n1_ := Aside0.mk (ho); clear HB; clear HO_3; have HB := n0_; have HO181 := n1_; clear n0_ n1_; clear ho hb hg hat))
                      go_roundg kj2
                      case measure => have := HK1.out; have := HJ2.out; omega
                      case rel => exact ⟨(y179), (wrap64 (x4_1 + 2)), (by first | rfl | (simp; done) | (simp [*]; done)), H', ⟨by have := HK1.out; have := HJ2.out; omega⟩, ⟨by (with_reducible repeat (first | apply Kd.R_alloc | apply Kd.R_drewN | apply Kd.R_drew)); exact HO181.out⟩, ⟨by repeat (first | (with_reducible first | exact HB.out | apply below_alloc | apply pw_below_drewN | apply below_drew1) | exact HB.out)⟩⟩
                    · rw [if_neg c15] at H
                      exact absurd H (by simp)
                  · replace c13 := Bool.eq_false_iff.mpr c13
                    subst c13
                    have H1 : (if 0 ≤ x4_1 then (if x4_1 ≤ (a0.size : Int) then ((scriptoriumref02_Entity.f kj2 (a0.extract (x4_1 : Int).toNat a0.size)).bind fun bt182 => (if bt182.2 > 0 then (if x3_1.length + bt182.1.size < 140737488355328 then (scriptoriumref02_Unescape.l0 kj2 a0 (x3_1 ++ bytesOf bt182.1) (wrap64 (x4_1 + bt182.2))) else (none)) else (if x4_1 < (a0.size : Int) then (if x3_1.length < 140737488355328 then (scriptoriumref02_Unescape.l0 kj2 a0 (x3_1 ++ [bt a0 x4_1]) ji8) else (none)) else (none)))) else (none)) else (none)) = some r := by rw [if_neg (show ¬ (false = true) by decide)] at H; exact H
                    clear H
                    have H := H1
                    clear H1
                    by_cases c17 : 0 ≤ x4_1
                    · rw [if_pos c17] at H
                      have c17b0 := eq_true c17
                      have c17b1 : decide (0 ≤ x4_1) = true := decide_eq_true c17
                      clear c17
                      by_cases c18 : x4_1 ≤ (a0.size : Int)
                      · rw [if_pos c18] at H
                        have c18b0 := eq_true c18
                        have c18b1 : decide (x4_1 ≤ (a0.size : Int)) = true := decide_eq_true c18
                        clear c18
                        replace H := Option.bind_eq_some_iff.mp H
                        obtain ⟨⟨t182, t183⟩, A190, H⟩ := H
                        replace H : (if t183 > 0 then (if x3_1.length + t182.size < 140737488355328 then (scriptoriumref02_Unescape.l0 kj2 a0 (x3_1 ++ bytesOf t182) (wrap64 (x4_1 + t183))) else (none)) else (if x4_1 < (a0.size : Int) then (if x3_1.length < 140737488355328 then (scriptoriumref02_Unescape.l0 kj2 a0 (x3_1 ++ [bt a0 x4_1]) ji8) else (none)) else (none))) = some r := H
                        have A19 := Aside0.mk A190
                        clear A190
                        by_cases c20 : t183 > 0
                        · rw [if_pos c20] at H
                          have c20b0 : decide (0 < t183) = true := decide_eq_true c20
                          clear c20
                          by_cases c21 : x3_1.length + t182.size < 140737488355328
                          · rw [if_pos c21] at H
                            have LMc21 := Aside0.mk c21
                            clear c21
                            obtain ⟨y184, hy184⟩ : ∃ y_ : List Int, y_ = (x3_1 ++ bytesOf t182) := ⟨_, rfl⟩
                            replace H : (scriptoriumref02_Unescape.l0 kj2 a0 y184 (wrap64 (x4_1 + t183))) = some r := by first | (rw [hy184]; with_reducible exact H) | (have H2_ := (Option.bind_some _ _).symm.trans H; rw [hy184]; with_reducible exact H2_) | (have H2_ := (Option.bind_some _ _).symm.trans H; with_reducible exact H2_) | with_reducible exact H | (rw [hy184]; exact H) | exact H
                            have Ny184 := Aside0.mk hy184
                            clear hy184
                            have H' := Aside0.mk H
                            clear H
                            have p11 : 0 ≤ ((ji8) : Int) := of_decide_eq_true (by first | (with_reducible assumption) | assumption)
                            have q11 : (ji8) < (a0.size : Int) := of_decide_eq_true (by first | (with_reducible assumption) | assumption)
                            have hx11 := bt_at a0 (ji8)
                            replace p11 := eq_true p11
                            replace q11 := eq_true q11
                            go_wp2_with (first | ((with_reducible refine gate_callee (f := 64) rfl ?_); refine goesL_ (some 28) rfl rfl Tryz.func64 (by kernel_rfl) rfl #[.int .i64 (wrap64 (bt a0 (ji8)))] rfl (by (try simp only [List.map_toArray, List.map_cons, List.map_nil]); first | done | (simp only [hji8]; rfl) | rfl | (simp only [List.length_drop, List.length_take]; rfl)) ?_; (with_reducible refine (scriptoriumref01_Mark.calls (wrap64 (bt a0 (ji8))) false _ ?side1 A12.out).mono ?_); (case side1 => (first | (with_reducible first | exact HG.out | exact GW.drewN HG.out _ | exact GW.drewN (GW.drewN HG.out _) _) | exact GW.below HG.out (by repeat (first | (with_reducible first | exact HB.out | apply below_alloc | apply pw_below_drewN | apply below_drew1) | exact HB.out)))); rintro e w' ⟨rfl, ⟨nd, rfl⟩⟩; refine ⟨_, rfl, ?_⟩) | ((with_reducible refine gate_callee (f := 26) rfl ?_); refine goesL_ (some 43) rfl rfl Tryz.func26 (by kernel_rfl) rfl #[.string (a0.extract (x4_1 : Int).toNat a0.size)] rfl (by (try simp only [List.map_toArray, List.map_cons, List.map_nil]); first | done | rfl | (simp only [List.length_drop, List.length_take]; rfl)) ?_; (with_reducible refine (scriptoriumref02_Entity.calls kj2 (a0.extract (x4_1 : Int).toNat a0.size) t182 t183 _ ?side1 A19.out).mono ?_); (case side1 => (first | (with_reducible first | exact HG.out | exact GW.drewN HG.out _ | exact GW.drewN (GW.drewN HG.out _) _) | exact GW.below HG.out (by repeat (first | (with_reducible first | exact HB.out | apply below_alloc | apply pw_below_drewN | apply below_drew1) | exact HB.out)))); rintro e w22 ⟨rfl, hb⟩; refine ⟨_, rfl, ?_⟩; have n0_ := Aside0.mk (Kd.R_below (by (with_reducible repeat (first | apply Kd.R_alloc | apply Kd.R_drewN | apply Kd.R_drew)); exact HO_3.out) hb); have n1_ := Aside0.mk (below_step (by repeat (first | (with_reducible first | exact HB.out | apply below_alloc | apply pw_below_drewN | apply below_drew1) | exact HB.out)) hb); clear HO_3; clear HB; have HO_3 := n0_; have HB := n1_; clear n0_ n1_; (try clear hb); (try clear hb2); (try clear hk); (try clear hi)) | (at_builtin; refine print_append_str (w0 := w) w.heap.size rfl (.tmp 48) _ 28 9 5 rfl Tryz.underlying28 Tryz.underlying9 info5 u3 x3_1 t182 rfl rfl ?aO ?aB ?aS ?aL ?_; (case aB => exact (by repeat (first | (with_reducible first | exact HB.out | apply below_alloc | apply pw_below_drewN | apply below_drew1) | exact HB.out))); (case aO => exact (Kd.own_of_R (by (with_reducible repeat (first | apply Kd.R_alloc | apply Kd.R_drewN | apply Kd.R_drew)); exact HO_3.out))); (case aS => exact (below_size (by repeat (first | (with_reducible first | exact HB.out | apply below_alloc | apply pw_below_drewN | apply below_drew1) | exact HB.out)))); (case aL => have := LMc21.out; first | omega | exact Nat.le_of_lt this); intro v185 w23 ho0 hb hg; have ho := Kd.R_of_own (h1 := fun _ => rfl) (ok := fun _ => True) ho0 (fun _ _ => trivial); clear ho0; have hat := True.intro; rw [← Ny184.out] at ho; change Kd.R (Kd.int .u8) 5 w23 w.heap.size (fun _ => True) v185 y184 at ho; have n0_ := Aside0.mk (hb); have n1_ := Aside0.mk (ho); clear HB; clear HO_3; have HB := n0_; have HO186 := n1_; clear n0_ n1_; clear ho hb hg hat))
                            go_roundg kj2
                            case measure => have := HK1.out; have := HJ2.out; omega
                            case rel => exact ⟨(y184), (wrap64 (x4_1 + t183)), (by first | rfl | (simp; done) | (simp [*]; done)), H', ⟨by have := HK1.out; have := HJ2.out; omega⟩, ⟨by (with_reducible repeat (first | apply Kd.R_alloc | apply Kd.R_drewN | apply Kd.R_drew)); exact HO186.out⟩, ⟨by repeat (first | (with_reducible first | exact HB.out | apply below_alloc | apply pw_below_drewN | apply below_drew1) | exact HB.out)⟩⟩
                          · rw [if_neg c21] at H
                            exact absurd H (by simp)
                        · rw [if_neg c20] at H
                          have c20b0 : decide (0 < t183) = false := decide_eq_false c20
                          clear c20
                          by_cases c24 : x4_1 < (a0.size : Int)
                          · rw [if_pos c24] at H
                            have c24b0 : decide (x4_1 < (a0.size : Int)) = true := decide_eq_true c24
                            clear c24
                            by_cases c26 : x3_1.length < 140737488355328
                            · rw [if_pos c26] at H
                              have LMc26 := Aside0.mk c26
                              clear c26
                              obtain ⟨y187, hy187⟩ : ∃ y_ : List Int, y_ = (x3_1 ++ [bt a0 x4_1]) := ⟨_, rfl⟩
                              replace H : (scriptoriumref02_Unescape.l0 kj2 a0 y187 ji8) = some r := by first | (rw [hy187]; with_reducible exact H) | (have H2_ := (Option.bind_some _ _).symm.trans H; rw [hy187]; with_reducible exact H2_) | (have H2_ := (Option.bind_some _ _).symm.trans H; with_reducible exact H2_) | with_reducible exact H | (rw [hy187]; exact H) | exact H
                              have Ny187 := Aside0.mk hy187
                              clear hy187
                              have H' := Aside0.mk H
                              clear H
                              have p11 : 0 ≤ ((ji8) : Int) := of_decide_eq_true (by first | (with_reducible assumption) | assumption)
                              have q11 : (ji8) < (a0.size : Int) := of_decide_eq_true (by first | (with_reducible assumption) | assumption)
                              have hx11 := bt_at a0 (ji8)
                              replace p11 := eq_true p11
                              replace q11 := eq_true q11
                              go_wp2_with (first | ((with_reducible refine gate_callee (f := 64) rfl ?_); refine goesL_ (some 28) rfl rfl Tryz.func64 (by kernel_rfl) rfl #[.int .i64 (wrap64 (bt a0 (ji8)))] rfl (by (try simp only [List.map_toArray, List.map_cons, List.map_nil]); first | done | (simp only [hji8]; rfl) | rfl | (simp only [List.length_drop, List.length_take]; rfl)) ?_; (with_reducible refine (scriptoriumref01_Mark.calls (wrap64 (bt a0 (ji8))) false _ ?side1 A12.out).mono ?_); (case side1 => (first | (with_reducible first | exact HG.out | exact GW.drewN HG.out _ | exact GW.drewN (GW.drewN HG.out _) _) | exact GW.below HG.out (by repeat (first | (with_reducible first | exact HB.out | apply below_alloc | apply pw_below_drewN | apply below_drew1) | exact HB.out)))); rintro e w' ⟨rfl, ⟨nd, rfl⟩⟩; refine ⟨_, rfl, ?_⟩) | ((with_reducible refine gate_callee (f := 26) rfl ?_); refine goesL_ (some 43) rfl rfl Tryz.func26 (by kernel_rfl) rfl #[.string (a0.extract (x4_1 : Int).toNat a0.size)] rfl (by (try simp only [List.map_toArray, List.map_cons, List.map_nil]); first | done | rfl | (simp only [List.length_drop, List.length_take]; rfl)) ?_; (with_reducible refine (scriptoriumref02_Entity.calls kj2 (a0.extract (x4_1 : Int).toNat a0.size) t182 t183 _ ?side1 A19.out).mono ?_); (case side1 => (first | (with_reducible first | exact HG.out | exact GW.drewN HG.out _ | exact GW.drewN (GW.drewN HG.out _) _) | exact GW.below HG.out (by repeat (first | (with_reducible first | exact HB.out | apply below_alloc | apply pw_below_drewN | apply below_drew1) | exact HB.out)))); rintro e w27 ⟨rfl, hb⟩; refine ⟨_, rfl, ?_⟩; have n0_ := Aside0.mk (Kd.R_below (by (with_reducible repeat (first | apply Kd.R_alloc | apply Kd.R_drewN | apply Kd.R_drew)); exact HO_3.out) hb); have n1_ := Aside0.mk (below_step (by repeat (first | (with_reducible first | exact HB.out | apply below_alloc | apply pw_below_drewN | apply below_drew1) | exact HB.out)) hb); clear HO_3; clear HB; have HO_3 := n0_; have HB := n1_; clear n0_ n1_; (try clear hb); (try clear hb2); (try clear hk); (try clear hi); have p25 : 0 ≤ (x4_1 : Int) := of_decide_eq_true (by first | (with_reducible assumption) | assumption); have q25 : x4_1 < (a0.size : Int) := of_decide_eq_true (by first | (with_reducible assumption) | assumption); have hx25 := bt_at a0 x4_1; replace p25 := eq_true p25; replace q25 := eq_true q25) | ((with_reducible refine gate_builtin (b := .append) (xs := #[.tmp 54, .tmp 58]) rfl ?_); (try (refine gate_guard (by rfl) ?_; dsimp only)); at_builtin; refine Kd.R_append (Kd.int .u8) (w0 := w) w.heap.size rfl (.tmp 54) (.tmp 58) 28 5 (.int .u8 0) 1 rfl Tryz.underlying28 info5 rfl (by decide) (by omega) u3 x3_1 (bt a0 x4_1) [.int .u8 (bt a0 x4_1)] (fun _ => True) (fun _ => False) rfl rfl ?aP (fun _ hk => hk.elim) ?aF ?aO ?aB ?aS ?aL ?_; (case aP => exact rfl); (case aB => exact (by repeat (first | (with_reducible first | exact HB.out | apply below_alloc | apply pw_below_drewN | apply below_drew1) | exact HB.out))); (case aF => exact (fun _ _ => trivial)); (case aO => exact (by (with_reducible repeat (first | apply Kd.R_alloc | apply Kd.R_drewN | apply Kd.R_drew)); exact HO_3.out)); (case aS => exact (below_size (by repeat (first | (with_reducible first | exact HB.out | apply below_alloc | apply pw_below_drewN | apply below_drew1) | exact HB.out)))); (case aL => have := LMc26.out; first | omega | exact Nat.le_of_lt this); intro v188 w28 ho hb hg hat; rw [← Ny187.out] at ho; have n0_ := Aside0.mk (hb); have n1_ := Aside0.mk (ho); clear HB; clear HO_3; have HB := n0_; have HO189 := n1_; clear n0_ n1_; clear ho hb hg hat))
                              go_roundg kj2
                              case measure => have := HK1.out; have := HJ2.out; omega
                              case rel => exact ⟨(y187), (ji8), (by first | rfl | (simp; done) | (simp only [← hji8] <;> (first | rfl | simp)) | (simp [*]; done)), H', ⟨by have := HK1.out; have := HJ2.out; omega⟩, ⟨by (with_reducible repeat (first | apply Kd.R_alloc | apply Kd.R_drewN | apply Kd.R_drew)); exact HO189.out⟩, ⟨by repeat (first | (with_reducible first | exact HB.out | apply below_alloc | apply pw_below_drewN | apply below_drew1) | exact HB.out)⟩⟩
                            · rw [if_neg c26] at H
                              exact absurd H (by simp)
                          · rw [if_neg c24] at H
                            exact absurd H (by simp)
                      · rw [if_neg c18] at H
                        exact absurd H (by simp)
                    · rw [if_neg c17] at H
                      exact absurd H (by simp)
                · rw [if_neg c10] at H
                  exact absurd H (by simp)
              · rw [if_neg c9] at H
                exact absurd H (by simp)
            · replace c7 := Bool.eq_false_iff.mpr c7
              subst c7
              have H1 : (if 0 ≤ x4_1 then (if x4_1 ≤ (a0.size : Int) then ((scriptoriumref02_Entity.f kj2 (a0.extract (x4_1 : Int).toNat a0.size)).bind fun bt190 => (if bt190.2 > 0 then (if x3_1.length + bt190.1.size < 140737488355328 then (scriptoriumref02_Unescape.l0 kj2 a0 (x3_1 ++ bytesOf bt190.1) (wrap64 (x4_1 + bt190.2))) else (none)) else (if x4_1 < (a0.size : Int) then (if x3_1.length < 140737488355328 then (scriptoriumref02_Unescape.l0 kj2 a0 (x3_1 ++ [bt a0 x4_1]) (wrap64 (x4_1 + 1))) else (none)) else (none)))) else (none)) else (none)) = some r := by rw [if_neg (show ¬ (false = true) by decide)] at H; exact H
              clear H
              have H := H1
              clear H1
              by_cases c29 : 0 ≤ x4_1
              · rw [if_pos c29] at H
                have c29b0 := eq_true c29
                have c29b1 : decide (0 ≤ x4_1) = true := decide_eq_true c29
                clear c29
                by_cases c30 : x4_1 ≤ (a0.size : Int)
                · rw [if_pos c30] at H
                  have c30b0 := eq_true c30
                  have c30b1 : decide (x4_1 ≤ (a0.size : Int)) = true := decide_eq_true c30
                  clear c30
                  replace H := Option.bind_eq_some_iff.mp H
                  obtain ⟨⟨t190, t191⟩, A310, H⟩ := H
                  replace H : (if t191 > 0 then (if x3_1.length + t190.size < 140737488355328 then (scriptoriumref02_Unescape.l0 kj2 a0 (x3_1 ++ bytesOf t190) (wrap64 (x4_1 + t191))) else (none)) else (if x4_1 < (a0.size : Int) then (if x3_1.length < 140737488355328 then (scriptoriumref02_Unescape.l0 kj2 a0 (x3_1 ++ [bt a0 x4_1]) (wrap64 (x4_1 + 1))) else (none)) else (none))) = some r := H
                  have A31 := Aside0.mk A310
                  clear A310
                  by_cases c32 : t191 > 0
                  · rw [if_pos c32] at H
                    have c32b0 : decide (0 < t191) = true := decide_eq_true c32
                    clear c32
                    by_cases c33 : x3_1.length + t190.size < 140737488355328
                    · rw [if_pos c33] at H
                      have LMc33 := Aside0.mk c33
                      clear c33
                      obtain ⟨y192, hy192⟩ : ∃ y_ : List Int, y_ = (x3_1 ++ bytesOf t190) := ⟨_, rfl⟩
                      replace H : (scriptoriumref02_Unescape.l0 kj2 a0 y192 (wrap64 (x4_1 + t191))) = some r := by first | (rw [hy192]; with_reducible exact H) | (have H2_ := (Option.bind_some _ _).symm.trans H; rw [hy192]; with_reducible exact H2_) | (have H2_ := (Option.bind_some _ _).symm.trans H; with_reducible exact H2_) | with_reducible exact H | (rw [hy192]; exact H) | exact H
                      have Ny192 := Aside0.mk hy192
                      clear hy192
                      have H' := Aside0.mk H
                      clear H
                      go_wp2_with (first | ((with_reducible refine gate_callee (f := 26) rfl ?_); refine goesL_ (some 43) rfl rfl Tryz.func26 (by kernel_rfl) rfl #[.string (a0.extract (x4_1 : Int).toNat a0.size)] rfl (by (try simp only [List.map_toArray, List.map_cons, List.map_nil]); first | done | rfl | (simp only [List.length_drop, List.length_take]; rfl)) ?_; (with_reducible refine (scriptoriumref02_Entity.calls kj2 (a0.extract (x4_1 : Int).toNat a0.size) t190 t191 _ ?side1 A31.out).mono ?_); (case side1 => (first | (with_reducible first | exact HG.out | exact GW.drewN HG.out _ | exact GW.drewN (GW.drewN HG.out _) _) | exact GW.below HG.out (by repeat (first | (with_reducible first | exact HB.out | apply below_alloc | apply pw_below_drewN | apply below_drew1) | exact HB.out)))); rintro e w34 ⟨rfl, hb⟩; refine ⟨_, rfl, ?_⟩; have n0_ := Aside0.mk (Kd.R_below (by (with_reducible repeat (first | apply Kd.R_alloc | apply Kd.R_drewN | apply Kd.R_drew)); exact HO_3.out) hb); have n1_ := Aside0.mk (below_step (by repeat (first | (with_reducible first | exact HB.out | apply below_alloc | apply pw_below_drewN | apply below_drew1) | exact HB.out)) hb); clear HO_3; clear HB; have HO_3 := n0_; have HB := n1_; clear n0_ n1_; (try clear hb); (try clear hb2); (try clear hk); (try clear hi)) | (at_builtin; refine print_append_str (w0 := w) w.heap.size rfl (.tmp 48) _ 28 9 5 rfl Tryz.underlying28 Tryz.underlying9 info5 u3 x3_1 t190 rfl rfl ?aO ?aB ?aS ?aL ?_; (case aB => exact (by repeat (first | (with_reducible first | exact HB.out | apply below_alloc | apply pw_below_drewN | apply below_drew1) | exact HB.out))); (case aO => exact (Kd.own_of_R (by (with_reducible repeat (first | apply Kd.R_alloc | apply Kd.R_drewN | apply Kd.R_drew)); exact HO_3.out))); (case aS => exact (below_size (by repeat (first | (with_reducible first | exact HB.out | apply below_alloc | apply pw_below_drewN | apply below_drew1) | exact HB.out)))); (case aL => have := LMc33.out; first | omega | exact Nat.le_of_lt this); intro v193 w35 ho0 hb hg; have ho := Kd.R_of_own (h1 := fun _ => rfl) (ok := fun _ => True) ho0 (fun _ _ => trivial); clear ho0; have hat := True.intro; rw [← Ny192.out] at ho; change Kd.R (Kd.int .u8) 5 w35 w.heap.size (fun _ => True) v193 y192 at ho; have n0_ := Aside0.mk (hb); have n1_ := Aside0.mk (ho); clear HB; clear HO_3; have HB := n0_; have HO194 := n1_; clear n0_ n1_; clear ho hb hg hat))
                      go_roundg kj2
                      case measure => have := HK1.out; have := HJ2.out; omega
                      case rel => exact ⟨(y192), (wrap64 (x4_1 + t191)), (by first | rfl | (simp; done) | (simp [*]; done)), H', ⟨by have := HK1.out; have := HJ2.out; omega⟩, ⟨by (with_reducible repeat (first | apply Kd.R_alloc | apply Kd.R_drewN | apply Kd.R_drew)); exact HO194.out⟩, ⟨by repeat (first | (with_reducible first | exact HB.out | apply below_alloc | apply pw_below_drewN | apply below_drew1) | exact HB.out)⟩⟩
                    · rw [if_neg c33] at H
                      exact absurd H (by simp)
                  · rw [if_neg c32] at H
                    have c32b0 : decide (0 < t191) = false := decide_eq_false c32
                    clear c32
                    by_cases c36 : x4_1 < (a0.size : Int)
                    · rw [if_pos c36] at H
                      have c36b0 : decide (x4_1 < (a0.size : Int)) = true := decide_eq_true c36
                      clear c36
                      by_cases c38 : x3_1.length < 140737488355328
                      · rw [if_pos c38] at H
                        have LMc38 := Aside0.mk c38
                        clear c38
                        obtain ⟨y195, hy195⟩ : ∃ y_ : List Int, y_ = (x3_1 ++ [bt a0 x4_1]) := ⟨_, rfl⟩
                        replace H : (scriptoriumref02_Unescape.l0 kj2 a0 y195 (wrap64 (x4_1 + 1))) = some r := by first | (rw [hy195]; with_reducible exact H) | (have H2_ := (Option.bind_some _ _).symm.trans H; rw [hy195]; with_reducible exact H2_) | (have H2_ := (Option.bind_some _ _).symm.trans H; with_reducible exact H2_) | with_reducible exact H | (rw [hy195]; exact H) | exact H
                        have Ny195 := Aside0.mk hy195
                        clear hy195
                        have H' := Aside0.mk H
                        clear H
                        go_wp2_with (first | ((with_reducible refine gate_callee (f := 26) rfl ?_); refine goesL_ (some 43) rfl rfl Tryz.func26 (by kernel_rfl) rfl #[.string (a0.extract (x4_1 : Int).toNat a0.size)] rfl (by (try simp only [List.map_toArray, List.map_cons, List.map_nil]); first | done | rfl | (simp only [List.length_drop, List.length_take]; rfl)) ?_; (with_reducible refine (scriptoriumref02_Entity.calls kj2 (a0.extract (x4_1 : Int).toNat a0.size) t190 t191 _ ?side1 A31.out).mono ?_); (case side1 => (first | (with_reducible first | exact HG.out | exact GW.drewN HG.out _ | exact GW.drewN (GW.drewN HG.out _) _) | exact GW.below HG.out (by repeat (first | (with_reducible first | exact HB.out | apply below_alloc | apply pw_below_drewN | apply below_drew1) | exact HB.out)))); rintro e w39 ⟨rfl, hb⟩; refine ⟨_, rfl, ?_⟩; have n0_ := Aside0.mk (Kd.R_below (by (with_reducible repeat (first | apply Kd.R_alloc | apply Kd.R_drewN | apply Kd.R_drew)); exact HO_3.out) hb); have n1_ := Aside0.mk (below_step (by repeat (first | (with_reducible first | exact HB.out | apply below_alloc | apply pw_below_drewN | apply below_drew1) | exact HB.out)) hb); clear HO_3; clear HB; have HO_3 := n0_; have HB := n1_; clear n0_ n1_; (try clear hb); (try clear hb2); (try clear hk); (try clear hi); have p37 : 0 ≤ (x4_1 : Int) := of_decide_eq_true (by first | (with_reducible assumption) | assumption); have q37 : x4_1 < (a0.size : Int) := of_decide_eq_true (by first | (with_reducible assumption) | assumption); have hx37 := bt_at a0 x4_1; replace p37 := eq_true p37; replace q37 := eq_true q37) | ((with_reducible refine gate_builtin (b := .append) (xs := #[.tmp 54, .tmp 58]) rfl ?_); (try (refine gate_guard (by rfl) ?_; dsimp only)); at_builtin; refine Kd.R_append (Kd.int .u8) (w0 := w) w.heap.size rfl (.tmp 54) (.tmp 58) 28 5 (.int .u8 0) 1 rfl Tryz.underlying28 info5 rfl (by decide) (by omega) u3 x3_1 (bt a0 x4_1) [.int .u8 (bt a0 x4_1)] (fun _ => True) (fun _ => False) rfl rfl ?aP (fun _ hk => hk.elim) ?aF ?aO ?aB ?aS ?aL ?_; (case aP => exact rfl); (case aB => exact (by repeat (first | (with_reducible first | exact HB.out | apply below_alloc | apply pw_below_drewN | apply below_drew1) | exact HB.out))); (case aF => exact (fun _ _ => trivial)); (case aO => exact (by (with_reducible repeat (first | apply Kd.R_alloc | apply Kd.R_drewN | apply Kd.R_drew)); exact HO_3.out)); (case aS => exact (below_size (by repeat (first | (with_reducible first | exact HB.out | apply below_alloc | apply pw_below_drewN | apply below_drew1) | exact HB.out)))); (case aL => have := LMc38.out; first | omega | exact Nat.le_of_lt this); intro v196 w40 ho hb hg hat; rw [← Ny195.out] at ho; have n0_ := Aside0.mk (hb); have n1_ := Aside0.mk (ho); clear HB; clear HO_3; have HB := n0_; have HO197 := n1_; clear n0_ n1_; clear ho hb hg hat))
                        go_roundg kj2
                        case measure => have := HK1.out; have := HJ2.out; omega
                        case rel => exact ⟨(y195), (wrap64 (x4_1 + 1)), (by first | rfl | (simp; done) | (simp [*]; done)), H', ⟨by have := HK1.out; have := HJ2.out; omega⟩, ⟨by (with_reducible repeat (first | apply Kd.R_alloc | apply Kd.R_drewN | apply Kd.R_drew)); exact HO197.out⟩, ⟨by repeat (first | (with_reducible first | exact HB.out | apply below_alloc | apply pw_below_drewN | apply below_drew1) | exact HB.out)⟩⟩
                      · rw [if_neg c38] at H
                        exact absurd H (by simp)
                    · rw [if_neg c36] at H
                      exact absurd H (by simp)
                · rw [if_neg c30] at H
                  exact absurd H (by simp)
              · rw [if_neg c29] at H
                exact absurd H (by simp)
      · rw [if_neg c2] at H
        have c2b0 : decide (x4_1 < (a0.size : Int)) = false := decide_eq_false c2
        clear c2
        obtain rfl := Option.some.inj H
        have hcv41 := own_string (P := Tryz.prog) Tryz.underlying28 Tryz.underlying5 Tryz.underlying9 (Kd.own_of_R HO_3.out)
        go_wp2
        go_ret
        exact ⟨by first | rfl | (simp [errW_none, errW_some] <;> rfl) | (simp [*, errW_none, errW_some] <;> rfl), by repeat (first | (with_reducible first | exact HB.out | apply below_alloc | apply pw_below_drewN | apply below_drew1) | exact HB.out)⟩

/-! ### scriptoriumlaw02_EscapeReads: function 4 -/
def scriptoriumlaw02_EscapeReads.f (k : Nat) (a0 : ByteArray) : Option (Bool) := (scriptoriumlaw02_shown.f).bind fun t198 => ((escape_Entity.f a0).bind fun bt199 => ((scriptoriumref02_Entity.f k a0).bind fun bt201 => (if t198 = true then (if bt199.1.toList = bt201.1.toList then (if bt199.2 = bt201.2 then ((escape_Unescape.f a0).bind fun t203 => ((scriptoriumref02_Unescape.f k a0).bind fun t204 => (some (t203.toList == t204.toList)))) else (some false)) else (some false)) else (some false))))
theorem scriptoriumlaw02_EscapeReads.mono : ∀ a0 k, LeO (scriptoriumlaw02_EscapeReads.f k a0) (scriptoriumlaw02_EscapeReads.f (k + 1) a0) := by
  intro a0 k
  unfold scriptoriumlaw02_EscapeReads.f
  repeat' first
      | (with_reducible exact scriptoriumref02_Entity.mono _ _)
      | (with_reducible exact scriptoriumref02_Unescape.mono _ _)
      | (with_reducible exact LeO.refl _)
      | (with_reducible exact LeO.none _)
      | (with_reducible refine LeO.ite ?_ ?_)
      | (with_reducible refine LeO.bind ?_ (fun _ => ?_))
      | exact scriptoriumref02_Entity.mono _ _
      | exact scriptoriumref02_Unescape.mono _ _
      | exact LeO.none _
      | refine LeO.ite ?_ ?_
      | refine LeO.bind ?_ (fun _ => ?_)
set_option maxHeartbeats 8000000 in
set_option maxRecDepth 100000 in
theorem scriptoriumlaw02_EscapeReads.calls (k : Nat) (a0 : ByteArray) (r : Bool) (w : World) (hG : GW w) (h : scriptoriumlaw02_EscapeReads.f k a0 = some r) :
    Calls Tryz.prog 4 #[.string a0] w fun e w' => e = .returned (.bool r) ∧ Below w.heap.size w w' := by
  have HB := Aside0.mk (Below.refl w.heap.size w)
  have HG := Aside0.mk hG
  clear hG
  have H : ((scriptoriumlaw02_shown.f).bind fun t198 => ((escape_Entity.f a0).bind fun bt199 => ((scriptoriumref02_Entity.f k a0).bind fun bt201 => (if t198 = true then (if bt199.1.toList = bt201.1.toList then (if bt199.2 = bt201.2 then ((escape_Unescape.f a0).bind fun t203 => ((scriptoriumref02_Unescape.f k a0).bind fun t204 => (some (t203.toList == t204.toList)))) else (some false)) else (some false)) else (some false))))) = some r := h
  clear h
  replace H := Option.bind_eq_some_iff.mp H
  obtain ⟨t198, A20, H⟩ := H
  replace H : ((escape_Entity.f a0).bind fun bt199 => ((scriptoriumref02_Entity.f k a0).bind fun bt201 => (if t198 = true then (if bt199.1.toList = bt201.1.toList then (if bt199.2 = bt201.2 then ((escape_Unescape.f a0).bind fun t203 => ((scriptoriumref02_Unescape.f k a0).bind fun t204 => (some (t203.toList == t204.toList)))) else (some false)) else (some false)) else (some false)))) = some r := H
  have A2 := Aside0.mk A20
  clear A20
  replace H := Option.bind_eq_some_iff.mp H
  obtain ⟨⟨t199, t200⟩, A30, H⟩ := H
  replace H : ((scriptoriumref02_Entity.f k a0).bind fun bt201 => (if t198 = true then (if t199.toList = bt201.1.toList then (if t200 = bt201.2 then ((escape_Unescape.f a0).bind fun t203 => ((scriptoriumref02_Unescape.f k a0).bind fun t204 => (some (t203.toList == t204.toList)))) else (some false)) else (some false)) else (some false))) = some r := H
  have A3 := Aside0.mk A30
  clear A30
  replace H := Option.bind_eq_some_iff.mp H
  obtain ⟨⟨t201, t202⟩, A40, H⟩ := H
  replace H : (if t198 = true then (if t199.toList = t201.toList then (if t200 = t202 then ((escape_Unescape.f a0).bind fun t203 => ((scriptoriumref02_Unescape.f k a0).bind fun t204 => (some (t203.toList == t204.toList)))) else (some false)) else (some false)) else (some false)) = some r := H
  have A4 := Aside0.mk A40
  clear A40
  by_cases c5 : t198 = true
  · subst c5
    have H1 : (if t199.toList = t201.toList then (if t200 = t202 then ((escape_Unescape.f a0).bind fun t203 => ((scriptoriumref02_Unescape.f k a0).bind fun t204 => (some (t203.toList == t204.toList)))) else (some false)) else (some false)) = some r := by rw [if_pos rfl] at H; exact H
    clear H
    have H := H1
    clear H1
    by_cases c6 : t199.toList = t201.toList
    · rw [if_pos c6] at H
      have c6b0 : (t199.toList == t201.toList) = true := beq_iff_eq.mpr c6
      have c6b1 : (t199.toList != t201.toList) = false := bne_eq_false_iff_eq.mpr c6
      clear c6
      by_cases c7 : t200 = t202
      · rw [if_pos c7] at H
        have c7b0 : (t200 == t202) = true := beq_iff_eq.mpr c7
        have c7b1 : (t200 != t202) = false := bne_eq_false_iff_eq.mpr c7
        clear c7
        replace H := Option.bind_eq_some_iff.mp H
        obtain ⟨t203, A80, H⟩ := H
        replace H : ((scriptoriumref02_Unescape.f k a0).bind fun t204 => (some (t203.toList == t204.toList))) = some r := H
        have A8 := Aside0.mk A80
        clear A80
        replace H := Option.bind_eq_some_iff.mp H
        obtain ⟨t204, A90, H⟩ := H
        replace H : (some (t203.toList == t204.toList)) = some r := H
        have A9 := Aside0.mk A90
        clear A90
        obtain rfl := Option.some.inj H
        go_enter Tryz.func4, Tryz.ntmps4
        go_wp2_with (first | ((with_reducible refine gate_callee (f := 20) rfl ?_); refine goesL_ (some 8) rfl rfl Tryz.func20 (by kernel_rfl) rfl #[] rfl (by (try simp only [List.map_toArray, List.map_cons, List.map_nil]); first | done | rfl | (simp only [List.length_drop, List.length_take]; rfl)) ?_; (with_reducible refine (scriptoriumlaw02_shown.calls  true _ ?side1 A2.out).mono ?_); (case side1 => (first | (with_reducible first | exact HG.out | exact GW.drewN HG.out _ | exact GW.drewN (GW.drewN HG.out _) _) | exact GW.below HG.out (by repeat (first | (with_reducible first | exact HB.out | apply below_alloc | apply pw_below_drewN | apply below_drew1) | exact HB.out)))); rintro e w10 ⟨rfl, hb⟩; refine ⟨_, rfl, ?_⟩; have n0_ := Aside0.mk (below_step (by repeat (first | (with_reducible first | exact HB.out | apply below_alloc | apply pw_below_drewN | apply below_drew1) | exact HB.out)) hb); clear HB; have HB := n0_; clear n0_; (try clear hb); (try clear hb2); (try clear hk); (try clear hi)) | ((with_reducible refine gate_callee (f := 25) rfl ?_); refine goesL_ (some 11) rfl rfl Tryz.func25 (by kernel_rfl) rfl #[.string a0] rfl (by (try simp only [List.map_toArray, List.map_cons, List.map_nil]); first | done | rfl | (simp only [List.length_drop, List.length_take]; rfl)) ?_; (with_reducible refine (escape_Entity.calls a0 t199 t200 _ ?side1 A3.out).mono ?_); (case side1 => (first | (with_reducible first | exact HG.out | exact GW.drewN HG.out _ | exact GW.drewN (GW.drewN HG.out _) _) | exact GW.below HG.out (by repeat (first | (with_reducible first | exact HB.out | apply below_alloc | apply pw_below_drewN | apply below_drew1) | exact HB.out)))); rintro e w11 ⟨rfl, hb⟩; refine ⟨_, rfl, ?_⟩; have n0_ := Aside0.mk (below_step (by repeat (first | (with_reducible first | exact HB.out | apply below_alloc | apply pw_below_drewN | apply below_drew1) | exact HB.out)) hb); clear HB; have HB := n0_; clear n0_; (try clear hb); (try clear hb2); (try clear hk); (try clear hi)) | ((with_reducible refine gate_callee (f := 26) rfl ?_); refine goesL_ (some 16) rfl rfl Tryz.func26 (by kernel_rfl) rfl #[.string a0] rfl (by (try simp only [List.map_toArray, List.map_cons, List.map_nil]); first | done | rfl | (simp only [List.length_drop, List.length_take]; rfl)) ?_; (with_reducible refine (scriptoriumref02_Entity.calls k a0 t201 t202 _ ?side1 A4.out).mono ?_); (case side1 => (first | (with_reducible first | exact HG.out | exact GW.drewN HG.out _ | exact GW.drewN (GW.drewN HG.out _) _) | exact GW.below HG.out (by repeat (first | (with_reducible first | exact HB.out | apply below_alloc | apply pw_below_drewN | apply below_drew1) | exact HB.out)))); rintro e w12 ⟨rfl, hb⟩; refine ⟨_, rfl, ?_⟩; have n0_ := Aside0.mk (below_step (by repeat (first | (with_reducible first | exact HB.out | apply below_alloc | apply pw_below_drewN | apply below_drew1) | exact HB.out)) hb); clear HB; have HB := n0_; clear n0_; (try clear hb); (try clear hb2); (try clear hk); (try clear hi)) | (go_at_call 27; (with_reducible refine (escape_Unescape.calls a0 t203 _ ?side1 A8.out).mono ?_); (case side1 => (first | (with_reducible first | exact HG.out | exact GW.drewN HG.out _ | exact GW.drewN (GW.drewN HG.out _) _) | exact GW.below HG.out (by repeat (first | (with_reducible first | exact HB.out | apply below_alloc | apply pw_below_drewN | apply below_drew1) | exact HB.out)))); rintro e w13 ⟨rfl, hb⟩; have n0_ := Aside0.mk (below_step (by repeat (first | (with_reducible first | exact HB.out | apply below_alloc | apply pw_below_drewN | apply below_drew1) | exact HB.out)) hb); clear HB; have HB := n0_; clear n0_; (try clear hb); (try clear hb2); (try clear hk); (try clear hi)) | (go_at_call 28; (with_reducible refine (scriptoriumref02_Unescape.calls k a0 t204 _ ?side1 A9.out).mono ?_); (case side1 => (first | (with_reducible first | exact HG.out | exact GW.drewN HG.out _ | exact GW.drewN (GW.drewN HG.out _) _) | exact GW.below HG.out (by repeat (first | (with_reducible first | exact HB.out | apply below_alloc | apply pw_below_drewN | apply below_drew1) | exact HB.out)))); rintro e w14 ⟨rfl, hb⟩; have n0_ := Aside0.mk (below_step (by repeat (first | (with_reducible first | exact HB.out | apply below_alloc | apply pw_below_drewN | apply below_drew1) | exact HB.out)) hb); clear HB; have HB := n0_; clear n0_; (try clear hb); (try clear hb2); (try clear hk); (try clear hi)))
        go_ret
        exact ⟨by first | rfl | (simp [errW_none, errW_some] <;> rfl) | (simp [*, errW_none, errW_some] <;> rfl), by repeat (first | (with_reducible first | exact HB.out | apply below_alloc | apply pw_below_drewN | apply below_drew1) | exact HB.out)⟩
      · rw [if_neg c7] at H
        have c7b0 : (t200 == t202) = false := beq_eq_false_iff_ne.mpr c7
        have c7b1 : (t200 != t202) = true := bne_iff_ne.mpr c7
        obtain rfl := Option.some.inj H
        go_enter Tryz.func4, Tryz.ntmps4
        go_wp2_with (first | ((with_reducible refine gate_callee (f := 20) rfl ?_); refine goesL_ (some 8) rfl rfl Tryz.func20 (by kernel_rfl) rfl #[] rfl (by (try simp only [List.map_toArray, List.map_cons, List.map_nil]); first | done | rfl | (simp only [List.length_drop, List.length_take]; rfl)) ?_; (with_reducible refine (scriptoriumlaw02_shown.calls  true _ ?side1 A2.out).mono ?_); (case side1 => (first | (with_reducible first | exact HG.out | exact GW.drewN HG.out _ | exact GW.drewN (GW.drewN HG.out _) _) | exact GW.below HG.out (by repeat (first | (with_reducible first | exact HB.out | apply below_alloc | apply pw_below_drewN | apply below_drew1) | exact HB.out)))); rintro e w15 ⟨rfl, hb⟩; refine ⟨_, rfl, ?_⟩; have n0_ := Aside0.mk (below_step (by repeat (first | (with_reducible first | exact HB.out | apply below_alloc | apply pw_below_drewN | apply below_drew1) | exact HB.out)) hb); clear HB; have HB := n0_; clear n0_; (try clear hb); (try clear hb2); (try clear hk); (try clear hi)) | ((with_reducible refine gate_callee (f := 25) rfl ?_); refine goesL_ (some 11) rfl rfl Tryz.func25 (by kernel_rfl) rfl #[.string a0] rfl (by (try simp only [List.map_toArray, List.map_cons, List.map_nil]); first | done | rfl | (simp only [List.length_drop, List.length_take]; rfl)) ?_; (with_reducible refine (escape_Entity.calls a0 t199 t200 _ ?side1 A3.out).mono ?_); (case side1 => (first | (with_reducible first | exact HG.out | exact GW.drewN HG.out _ | exact GW.drewN (GW.drewN HG.out _) _) | exact GW.below HG.out (by repeat (first | (with_reducible first | exact HB.out | apply below_alloc | apply pw_below_drewN | apply below_drew1) | exact HB.out)))); rintro e w16 ⟨rfl, hb⟩; refine ⟨_, rfl, ?_⟩; have n0_ := Aside0.mk (below_step (by repeat (first | (with_reducible first | exact HB.out | apply below_alloc | apply pw_below_drewN | apply below_drew1) | exact HB.out)) hb); clear HB; have HB := n0_; clear n0_; (try clear hb); (try clear hb2); (try clear hk); (try clear hi)) | ((with_reducible refine gate_callee (f := 26) rfl ?_); refine goesL_ (some 16) rfl rfl Tryz.func26 (by kernel_rfl) rfl #[.string a0] rfl (by (try simp only [List.map_toArray, List.map_cons, List.map_nil]); first | done | rfl | (simp only [List.length_drop, List.length_take]; rfl)) ?_; (with_reducible refine (scriptoriumref02_Entity.calls k a0 t201 t202 _ ?side1 A4.out).mono ?_); (case side1 => (first | (with_reducible first | exact HG.out | exact GW.drewN HG.out _ | exact GW.drewN (GW.drewN HG.out _) _) | exact GW.below HG.out (by repeat (first | (with_reducible first | exact HB.out | apply below_alloc | apply pw_below_drewN | apply below_drew1) | exact HB.out)))); rintro e w17 ⟨rfl, hb⟩; refine ⟨_, rfl, ?_⟩; have n0_ := Aside0.mk (below_step (by repeat (first | (with_reducible first | exact HB.out | apply below_alloc | apply pw_below_drewN | apply below_drew1) | exact HB.out)) hb); clear HB; have HB := n0_; clear n0_; (try clear hb); (try clear hb2); (try clear hk); (try clear hi)))
        go_ret
        exact ⟨by first | rfl | (simp [errW_none, errW_some] <;> rfl) | (simp [*, errW_none, errW_some] <;> rfl), by repeat (first | (with_reducible first | exact HB.out | apply below_alloc | apply pw_below_drewN | apply below_drew1) | exact HB.out)⟩
    · rw [if_neg c6] at H
      have c6b0 : (t199.toList == t201.toList) = false := beq_eq_false_iff_ne.mpr c6
      have c6b1 : (t199.toList != t201.toList) = true := bne_iff_ne.mpr c6
      obtain rfl := Option.some.inj H
      go_enter Tryz.func4, Tryz.ntmps4
      go_wp2_with (first | ((with_reducible refine gate_callee (f := 20) rfl ?_); refine goesL_ (some 8) rfl rfl Tryz.func20 (by kernel_rfl) rfl #[] rfl (by (try simp only [List.map_toArray, List.map_cons, List.map_nil]); first | done | rfl | (simp only [List.length_drop, List.length_take]; rfl)) ?_; (with_reducible refine (scriptoriumlaw02_shown.calls  true _ ?side1 A2.out).mono ?_); (case side1 => (first | (with_reducible first | exact HG.out | exact GW.drewN HG.out _ | exact GW.drewN (GW.drewN HG.out _) _) | exact GW.below HG.out (by repeat (first | (with_reducible first | exact HB.out | apply below_alloc | apply pw_below_drewN | apply below_drew1) | exact HB.out)))); rintro e w18 ⟨rfl, hb⟩; refine ⟨_, rfl, ?_⟩; have n0_ := Aside0.mk (below_step (by repeat (first | (with_reducible first | exact HB.out | apply below_alloc | apply pw_below_drewN | apply below_drew1) | exact HB.out)) hb); clear HB; have HB := n0_; clear n0_; (try clear hb); (try clear hb2); (try clear hk); (try clear hi)) | ((with_reducible refine gate_callee (f := 25) rfl ?_); refine goesL_ (some 11) rfl rfl Tryz.func25 (by kernel_rfl) rfl #[.string a0] rfl (by (try simp only [List.map_toArray, List.map_cons, List.map_nil]); first | done | rfl | (simp only [List.length_drop, List.length_take]; rfl)) ?_; (with_reducible refine (escape_Entity.calls a0 t199 t200 _ ?side1 A3.out).mono ?_); (case side1 => (first | (with_reducible first | exact HG.out | exact GW.drewN HG.out _ | exact GW.drewN (GW.drewN HG.out _) _) | exact GW.below HG.out (by repeat (first | (with_reducible first | exact HB.out | apply below_alloc | apply pw_below_drewN | apply below_drew1) | exact HB.out)))); rintro e w19 ⟨rfl, hb⟩; refine ⟨_, rfl, ?_⟩; have n0_ := Aside0.mk (below_step (by repeat (first | (with_reducible first | exact HB.out | apply below_alloc | apply pw_below_drewN | apply below_drew1) | exact HB.out)) hb); clear HB; have HB := n0_; clear n0_; (try clear hb); (try clear hb2); (try clear hk); (try clear hi)) | ((with_reducible refine gate_callee (f := 26) rfl ?_); refine goesL_ (some 16) rfl rfl Tryz.func26 (by kernel_rfl) rfl #[.string a0] rfl (by (try simp only [List.map_toArray, List.map_cons, List.map_nil]); first | done | rfl | (simp only [List.length_drop, List.length_take]; rfl)) ?_; (with_reducible refine (scriptoriumref02_Entity.calls k a0 t201 t202 _ ?side1 A4.out).mono ?_); (case side1 => (first | (with_reducible first | exact HG.out | exact GW.drewN HG.out _ | exact GW.drewN (GW.drewN HG.out _) _) | exact GW.below HG.out (by repeat (first | (with_reducible first | exact HB.out | apply below_alloc | apply pw_below_drewN | apply below_drew1) | exact HB.out)))); rintro e w20 ⟨rfl, hb⟩; refine ⟨_, rfl, ?_⟩; have n0_ := Aside0.mk (below_step (by repeat (first | (with_reducible first | exact HB.out | apply below_alloc | apply pw_below_drewN | apply below_drew1) | exact HB.out)) hb); clear HB; have HB := n0_; clear n0_; (try clear hb); (try clear hb2); (try clear hk); (try clear hi)))
      go_ret
      exact ⟨by first | rfl | (simp [errW_none, errW_some] <;> rfl) | (simp [*, errW_none, errW_some] <;> rfl), by repeat (first | (with_reducible first | exact HB.out | apply below_alloc | apply pw_below_drewN | apply below_drew1) | exact HB.out)⟩
  · replace c5 := Bool.eq_false_iff.mpr c5
    subst c5
    have H1 : (some false) = some r := by rw [if_neg (show ¬ (false = true) by decide)] at H; exact H
    clear H
    have H := H1
    clear H1
    obtain rfl := Option.some.inj H
    go_enter Tryz.func4, Tryz.ntmps4
    go_wp2_with (first | ((with_reducible refine gate_callee (f := 20) rfl ?_); refine goesL_ (some 8) rfl rfl Tryz.func20 (by kernel_rfl) rfl #[] rfl (by (try simp only [List.map_toArray, List.map_cons, List.map_nil]); first | done | rfl | (simp only [List.length_drop, List.length_take]; rfl)) ?_; (with_reducible refine (scriptoriumlaw02_shown.calls  false _ ?side1 A2.out).mono ?_); (case side1 => (first | (with_reducible first | exact HG.out | exact GW.drewN HG.out _ | exact GW.drewN (GW.drewN HG.out _) _) | exact GW.below HG.out (by repeat (first | (with_reducible first | exact HB.out | apply below_alloc | apply pw_below_drewN | apply below_drew1) | exact HB.out)))); rintro e w21 ⟨rfl, hb⟩; refine ⟨_, rfl, ?_⟩; have n0_ := Aside0.mk (below_step (by repeat (first | (with_reducible first | exact HB.out | apply below_alloc | apply pw_below_drewN | apply below_drew1) | exact HB.out)) hb); clear HB; have HB := n0_; clear n0_; (try clear hb); (try clear hb2); (try clear hk); (try clear hi)) | ((with_reducible refine gate_callee (f := 25) rfl ?_); refine goesL_ (some 11) rfl rfl Tryz.func25 (by kernel_rfl) rfl #[.string a0] rfl (by (try simp only [List.map_toArray, List.map_cons, List.map_nil]); first | done | rfl | (simp only [List.length_drop, List.length_take]; rfl)) ?_; (with_reducible refine (escape_Entity.calls a0 t199 t200 _ ?side1 A3.out).mono ?_); (case side1 => (first | (with_reducible first | exact HG.out | exact GW.drewN HG.out _ | exact GW.drewN (GW.drewN HG.out _) _) | exact GW.below HG.out (by repeat (first | (with_reducible first | exact HB.out | apply below_alloc | apply pw_below_drewN | apply below_drew1) | exact HB.out)))); rintro e w22 ⟨rfl, hb⟩; refine ⟨_, rfl, ?_⟩; have n0_ := Aside0.mk (below_step (by repeat (first | (with_reducible first | exact HB.out | apply below_alloc | apply pw_below_drewN | apply below_drew1) | exact HB.out)) hb); clear HB; have HB := n0_; clear n0_; (try clear hb); (try clear hb2); (try clear hk); (try clear hi)) | ((with_reducible refine gate_callee (f := 26) rfl ?_); refine goesL_ (some 16) rfl rfl Tryz.func26 (by kernel_rfl) rfl #[.string a0] rfl (by (try simp only [List.map_toArray, List.map_cons, List.map_nil]); first | done | rfl | (simp only [List.length_drop, List.length_take]; rfl)) ?_; (with_reducible refine (scriptoriumref02_Entity.calls k a0 t201 t202 _ ?side1 A4.out).mono ?_); (case side1 => (first | (with_reducible first | exact HG.out | exact GW.drewN HG.out _ | exact GW.drewN (GW.drewN HG.out _) _) | exact GW.below HG.out (by repeat (first | (with_reducible first | exact HB.out | apply below_alloc | apply pw_below_drewN | apply below_drew1) | exact HB.out)))); rintro e w23 ⟨rfl, hb⟩; refine ⟨_, rfl, ?_⟩; have n0_ := Aside0.mk (below_step (by repeat (first | (with_reducible first | exact HB.out | apply below_alloc | apply pw_below_drewN | apply below_drew1) | exact HB.out)) hb); clear HB; have HB := n0_; clear n0_; (try clear hb); (try clear hb2); (try clear hk); (try clear hi)))
    go_ret
    exact ⟨by first | rfl | (simp [errW_none, errW_some] <;> rfl) | (simp [*, errW_none, errW_some] <;> rfl), by repeat (first | (with_reducible first | exact HB.out | apply below_alloc | apply pw_below_drewN | apply below_drew1) | exact HB.out)⟩

/-- THE ONE PURE STATEMENT of scriptoriumlaw02_EscapeReads: yours. -/
def scriptoriumlaw02_EscapeReads.Pure : Prop := ∀ (a0 : ByteArray), a0.size ≤ 140737488351232 → ∃ k, scriptoriumlaw02_EscapeReads.f k a0 = some true
theorem scriptoriumlaw02_EscapeReads.walk (P : scriptoriumlaw02_EscapeReads.Pure) (a0 : ByteArray) (w : World) (hG : GW w) (w0 : a0.size ≤ 140737488351232) :
    Calls Tryz.prog 4 #[.string a0] w fun e w' => e = .returned (.bool true) ∧ Below w.heap.size w w' := by
  obtain ⟨k, h⟩ := P a0 w0
  refine (scriptoriumlaw02_EscapeReads.calls k a0 true w  hG h).mono ?_
  rintro e w' ⟨rfl, hd⟩
  exact ⟨rfl, hd⟩

end Go.Proofs.YthdlibgiejpjeaaGreatDoor.GR
