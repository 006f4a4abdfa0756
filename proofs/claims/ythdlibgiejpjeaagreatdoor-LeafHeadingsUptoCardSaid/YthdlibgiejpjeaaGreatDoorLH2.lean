-- PRINTED by print.py (a twelfth state) out of the translation. Not trusted: Lean checks it.
import Derived.Test.YthdlibgiejpjeaaGreatDoorLH0
import Derived.Test.YthdlibgiejpjeaaGreatDoorLH1
namespace Go.Proofs.YthdlibgiejpjeaaGreatDoor.LH
open Go.RowKit Go.Proofs.YthdlibgiejpjeaaGreatDoor Go.Proofs.YthdlibgiejpjeaaGreatDoor.Given Go.Proofs.YthdlibgiejpjeaaGreatDoorW.PrintWords Go.Proofs.YthdlibgiejpjeaaGreatDoorW.PrintLast Go.Proofs.YthdlibgiejpjeaaGreatDoorW.PrintMore
attribute [local go_sem] max2_int min2_int max_two min_two max_three min_three max_four min_four   -- for this text's walks alone
set_option linter.unusedVariables false
set_option linter.unusedSimpArgs false

/-! ### scriptoriumlaw05_letters: function 37 -/
mutual
def scriptoriumlaw05_letters.l0 : Nat → ByteArray → Int → List Int → Int → Option (ByteArray)
  | 0, _, _, _, _ => none
  | k + 1, x0, x1, x5, x6 => if x6 < (x0.size : Int) then (scriptoriumlaw05_letters.j1 k x0 x1 x5 x6 (decide ((x5.length : Int) < x1))) else (scriptoriumlaw05_letters.j1 k x0 x1 x5 x6 false)
def scriptoriumlaw05_letters.j1 : Nat → ByteArray → Int → List Int → Int → Bool → Option (ByteArray)
  | 0, _, _, _, _, _ => none
  | k + 1, x0, x1, x5, x6, x16 => if x16 = true then (if 0 ≤ x6 then (if x6 < (x0.size : Int) then (if (bt x0 x6) ≥ 97 then (if (bt x0 x6) ≤ 122 then (if x5.length < 140737488355328 then (scriptoriumlaw05_letters.l0 k x0 x1 (x5 ++ [bt x0 x6]) (wrap64 (x6 + 1))) else (none)) else (if (bt x0 x6) = 32 then (if (x5.length : Int) > 0 then (if 0 ≤ (wrap64 ((x5.length : Int) - 1)) then (if (wrap64 ((x5.length : Int) - 1)) < (x5.length : Int) then (if (rd x5 (wrap64 ((x5.length : Int) - 1))) = 32 then (scriptoriumlaw05_letters.l0 k x0 x1 x5 (wrap64 (x6 + 1))) else (if x5.length < 140737488355328 then (scriptoriumlaw05_letters.l0 k x0 x1 (x5 ++ [bt x0 x6]) (wrap64 (x6 + 1))) else (none))) else (none)) else (none)) else (scriptoriumlaw05_letters.l0 k x0 x1 x5 (wrap64 (x6 + 1)))) else (scriptoriumlaw05_letters.l0 k x0 x1 x5 (wrap64 (x6 + 1))))) else (if (bt x0 x6) = 32 then (if (x5.length : Int) > 0 then (if 0 ≤ (wrap64 ((x5.length : Int) - 1)) then (if (wrap64 ((x5.length : Int) - 1)) < (x5.length : Int) then (if (rd x5 (wrap64 ((x5.length : Int) - 1))) = 32 then (scriptoriumlaw05_letters.l0 k x0 x1 x5 (wrap64 (x6 + 1))) else (if x5.length < 140737488355328 then (scriptoriumlaw05_letters.l0 k x0 x1 (x5 ++ [bt x0 x6]) (wrap64 (x6 + 1))) else (none))) else (none)) else (none)) else (scriptoriumlaw05_letters.l0 k x0 x1 x5 (wrap64 (x6 + 1)))) else (scriptoriumlaw05_letters.l0 k x0 x1 x5 (wrap64 (x6 + 1))))) else (none)) else (none)) else (scriptoriumlaw05_letters.l1 k x5)
def scriptoriumlaw05_letters.l1 : Nat → List Int → Option (ByteArray)
  | 0, _ => none
  | k + 1, x5 => if (x5.length : Int) > 0 then (if 0 ≤ (wrap64 ((x5.length : Int) - 1)) then (if (wrap64 ((x5.length : Int) - 1)) < (x5.length : Int) then (if (rd x5 (wrap64 ((x5.length : Int) - 1))) = 32 then (if (wrap64 ((x5.length : Int) - 1)) ≤ (x5.length : Int) then (scriptoriumlaw05_letters.l1 k (x5.take ((wrap64 ((x5.length : Int) - 1)) : Int).toNat)) else (none)) else (some (strOfNums x5))) else (none)) else (none)) else (some (strOfNums x5))
end
def scriptoriumlaw05_letters.f (k : Nat) (a0 : ByteArray) (a1 : Int) : Option (ByteArray) := scriptoriumlaw05_letters.l0 k a0 a1 ([] : List Int) 0
theorem scriptoriumlaw05_letters.mono_l : ∀ k, (∀ y0 y1 y2 y3, LeO (scriptoriumlaw05_letters.l0 k y0 y1 y2 y3) (scriptoriumlaw05_letters.l0 (k + 1) y0 y1 y2 y3)) ∧ (∀ y0 y1 y2 y3 y4, LeO (scriptoriumlaw05_letters.j1 k y0 y1 y2 y3 y4) (scriptoriumlaw05_letters.j1 (k + 1) y0 y1 y2 y3 y4)) ∧ (∀ y0, LeO (scriptoriumlaw05_letters.l1 k y0) (scriptoriumlaw05_letters.l1 (k + 1) y0))
  | 0 => ⟨fun _ _ _ _ r h => by simp [scriptoriumlaw05_letters.l0] at h, fun _ _ _ _ _ r h => by simp [scriptoriumlaw05_letters.j1] at h, fun _ r h => by simp [scriptoriumlaw05_letters.l1] at h⟩
  | k + 1 => by
    obtain ⟨ih0, ih1, ih2⟩ := scriptoriumlaw05_letters.mono_l k
    refine ⟨?_, ?_, ?_⟩
    · intro y0 y1 y2 y3
      unfold scriptoriumlaw05_letters.l0
      repeat' first
      | (with_reducible exact ih0 _ _ _ _)
      | (with_reducible exact ih1 _ _ _ _ _)
      | (with_reducible exact ih2 _)
      | (with_reducible exact LeO.refl _)
      | (with_reducible exact LeO.none _)
      | (with_reducible refine LeO.ite ?_ ?_)
      | (with_reducible refine LeO.bind ?_ (fun _ => ?_))
      | exact ih0 _ _ _ _
      | exact ih1 _ _ _ _ _
      | exact ih2 _
      | exact LeO.none _
      | refine LeO.ite ?_ ?_
      | refine LeO.bind ?_ (fun _ => ?_)
    · intro y0 y1 y2 y3 y4
      unfold scriptoriumlaw05_letters.j1
      repeat' first
      | (with_reducible exact ih0 _ _ _ _)
      | (with_reducible exact ih1 _ _ _ _ _)
      | (with_reducible exact ih2 _)
      | (with_reducible exact LeO.refl _)
      | (with_reducible exact LeO.none _)
      | (with_reducible refine LeO.ite ?_ ?_)
      | (with_reducible refine LeO.bind ?_ (fun _ => ?_))
      | exact ih0 _ _ _ _
      | exact ih1 _ _ _ _ _
      | exact ih2 _
      | exact LeO.none _
      | refine LeO.ite ?_ ?_
      | refine LeO.bind ?_ (fun _ => ?_)
    · intro y0
      unfold scriptoriumlaw05_letters.l1
      repeat' first
      | (with_reducible exact ih0 _ _ _ _)
      | (with_reducible exact ih1 _ _ _ _ _)
      | (with_reducible exact ih2 _)
      | (with_reducible exact LeO.refl _)
      | (with_reducible exact LeO.none _)
      | (with_reducible refine LeO.ite ?_ ?_)
      | (with_reducible refine LeO.bind ?_ (fun _ => ?_))
      | exact ih0 _ _ _ _
      | exact ih1 _ _ _ _ _
      | exact ih2 _
      | exact LeO.none _
      | refine LeO.ite ?_ ?_
      | refine LeO.bind ?_ (fun _ => ?_)
theorem scriptoriumlaw05_letters.mono : ∀ a0 a1 k, LeO (scriptoriumlaw05_letters.f k a0 a1) (scriptoriumlaw05_letters.f (k + 1) a0 a1) := by
  intro a0 a1 k
  obtain ⟨ih0, ih1, ih2⟩ := scriptoriumlaw05_letters.mono_l k
  unfold scriptoriumlaw05_letters.f
  repeat' first
      | (with_reducible exact ih0 _ _ _ _)
      | (with_reducible exact ih1 _ _ _ _ _)
      | (with_reducible exact ih2 _)
      | (with_reducible exact LeO.refl _)
      | (with_reducible exact LeO.none _)
      | (with_reducible refine LeO.ite ?_ ?_)
      | (with_reducible refine LeO.bind ?_ (fun _ => ?_))
      | exact ih0 _ _ _ _
      | exact ih1 _ _ _ _ _
      | exact ih2 _
      | exact LeO.none _
      | refine LeO.ite ?_ ?_
      | refine LeO.bind ?_ (fun _ => ?_)
set_option maxHeartbeats 8000000 in
set_option maxRecDepth 100000 in
theorem scriptoriumlaw05_letters.calls (k : Nat) (a0 : ByteArray) (a1 : Int) (r : ByteArray) (w : World) (hG : GW w) (h : scriptoriumlaw05_letters.f k a0 a1 = some r) :
    Calls Tryz.prog 37 #[.string a0, .int .i64 a1] w fun e w' => e = .returned (.string r) ∧ Below w.heap.size w w' := by
  have HB := Aside0.mk (Below.refl w.heap.size w)
  have HG := Aside0.mk hG
  clear hG
  have H : (scriptoriumlaw05_letters.l0 k a0 a1 ([] : List Int) 0) = some r := h
  clear h
  have H' := Aside0.mk H
  clear H
  go_enter Tryz.func37, Tryz.ntmps37
  go_wp2
  go_loopg [5, 6] k (fun kq v5 v6 w' => ∃ (x5_1 : List Int) (x6_1 : Int), v6 = .int .i64 x6_1 ∧ Aside0 (scriptoriumlaw05_letters.l0 kq a0 a1 x5_1 x6_1 = some r) ∧ Aside0 (kq ≤ k) ∧ Aside0 (Kd.R (Kd.int .u8) 5 w' w.heap.size (fun _ => True) v5 x5_1) ∧ Aside0 (Below w.heap.size w w'))
  case atStart => exact ⟨(([] : List Int)), (0), (by first | rfl | (simp; done) | (simp [*]; done)), H', ⟨Nat.le_refl _⟩, ⟨by first | exact Kd.R_nil _ _ _ _ _ | exact Kd.N_nil _ _ _ _ _ | exact Kd.V_nil _ _ _ _ _ | exact Kd.Q_nil _ _ _ _ _ | exact Kd.S_nil _ _ _ _ _⟩, ⟨by repeat (first | (with_reducible first | exact HB.out | apply below_alloc | apply pw_below_drewN | apply below_drew1) | exact HB.out)⟩⟩
  case round =>
    clear H'
    try clear p2
    obtain ⟨x5_1, x6_1, rfl, HA, HK1, HO_5, HB⟩ := hrel
    cases gk with
    | zero => exact absurd HA.out (by simp [scriptoriumlaw05_letters.l0])
    | succ k1 =>
      have H := HA.out
      clear HA
      simp only [scriptoriumlaw05_letters.l0] at H
      have HC3 := Aside0.mk H
      clear H
      go_upto_region 3 with (fail)
      go_cut [16] (fun v16 wc => ∃ (kq : Nat) (x16_2 : Bool), v16 = .bool x16_2 ∧ Aside0 (scriptoriumlaw05_letters.j1 kq a0 a1 x5_1 x6_1 x16_2 = some r) ∧ Aside0 (kq ≤ k1) ∧ Aside0 (Kd.R (Kd.int .u8) 5 wc w.heap.size (fun _ => True) u5 x5_1) ∧ Aside0 (Below w.heap.size w wc))
      case first =>
        have H := HC3.out
        clear HC3
        by_cases c4 : x6_1 < (a0.size : Int)
        · rw [if_pos c4] at H
          have c4b0 : decide (x6_1 < (a0.size : Int)) = true := decide_eq_true c4
          clear c4
          (first | rw [c4b0] | (simp only [i64_w, i32_w]; rw [c4b0]) | skip)
          have H' := Aside0.mk H
          clear H
          obtain ⟨Ao5, co5, eo5⟩ := Kd.R_slice HO_5.out
          subst eo5
          go_wp2
          go_meet
          case rel => exact ⟨_, (decide ((x5_1.length : Int) < a1)), (by first | rfl | (simp; done) | (simp [*]; done)), H', ⟨by have := HK1.out; first | omega | exact Nat.le_refl _⟩, ⟨by (with_reducible repeat (first | apply Kd.R_alloc | apply Kd.R_drewN | apply Kd.R_drew)); exact HO_5.out⟩, ⟨by repeat (first | (with_reducible first | exact HB.out | apply below_alloc | apply pw_below_drewN | apply below_drew1) | exact HB.out)⟩⟩
        · rw [if_neg c4] at H
          have c4b0 : decide (x6_1 < (a0.size : Int)) = false := decide_eq_false c4
          clear c4
          (first | rw [c4b0] | (simp only [i64_w, i32_w]; rw [c4b0]) | skip)
          have H' := Aside0.mk H
          clear H
          go_wp2
          go_meet
          case rel => exact ⟨_, (false), (by first | rfl | (simp; done) | (simp [*]; done)), H', ⟨by have := HK1.out; first | omega | exact Nat.le_refl _⟩, ⟨by (with_reducible repeat (first | apply Kd.R_alloc | apply Kd.R_drewN | apply Kd.R_drew)); exact HO_5.out⟩, ⟨by repeat (first | (with_reducible first | exact HB.out | apply below_alloc | apply pw_below_drewN | apply below_drew1) | exact HB.out)⟩⟩
      case rest =>
        clear HC3
        try clear p2
        try clear c3
        try clear c4
        try clear c4b0
        try clear p2
        obtain ⟨kq, x16_2, rfl, HA, HJ2, HO_5, HB⟩ := hcut
        cases kq with
        | zero => exact absurd HA.out (by simp [scriptoriumlaw05_letters.j1])
        | succ kj2 =>
          have H := HA.out
          clear HA
          simp only [scriptoriumlaw05_letters.j1] at H
          by_cases c6 : x16_2 = true
          · subst c6
            have H1 : (if 0 ≤ x6_1 then (if x6_1 < (a0.size : Int) then (if (bt a0 x6_1) ≥ 97 then (if (bt a0 x6_1) ≤ 122 then (if x5_1.length < 140737488355328 then (scriptoriumlaw05_letters.l0 kj2 a0 a1 (x5_1 ++ [bt a0 x6_1]) (wrap64 (x6_1 + 1))) else (none)) else (if (bt a0 x6_1) = 32 then (if (x5_1.length : Int) > 0 then (if 0 ≤ (wrap64 ((x5_1.length : Int) - 1)) then (if (wrap64 ((x5_1.length : Int) - 1)) < (x5_1.length : Int) then (if (rd x5_1 (wrap64 ((x5_1.length : Int) - 1))) = 32 then (scriptoriumlaw05_letters.l0 kj2 a0 a1 x5_1 (wrap64 (x6_1 + 1))) else (if x5_1.length < 140737488355328 then (scriptoriumlaw05_letters.l0 kj2 a0 a1 (x5_1 ++ [bt a0 x6_1]) (wrap64 (x6_1 + 1))) else (none))) else (none)) else (none)) else (scriptoriumlaw05_letters.l0 kj2 a0 a1 x5_1 (wrap64 (x6_1 + 1)))) else (scriptoriumlaw05_letters.l0 kj2 a0 a1 x5_1 (wrap64 (x6_1 + 1))))) else (if (bt a0 x6_1) = 32 then (if (x5_1.length : Int) > 0 then (if 0 ≤ (wrap64 ((x5_1.length : Int) - 1)) then (if (wrap64 ((x5_1.length : Int) - 1)) < (x5_1.length : Int) then (if (rd x5_1 (wrap64 ((x5_1.length : Int) - 1))) = 32 then (scriptoriumlaw05_letters.l0 kj2 a0 a1 x5_1 (wrap64 (x6_1 + 1))) else (if x5_1.length < 140737488355328 then (scriptoriumlaw05_letters.l0 kj2 a0 a1 (x5_1 ++ [bt a0 x6_1]) (wrap64 (x6_1 + 1))) else (none))) else (none)) else (none)) else (scriptoriumlaw05_letters.l0 kj2 a0 a1 x5_1 (wrap64 (x6_1 + 1)))) else (scriptoriumlaw05_letters.l0 kj2 a0 a1 x5_1 (wrap64 (x6_1 + 1))))) else (none)) else (none)) = some r := by rw [if_pos rfl] at H; exact H
            clear H
            have H := H1
            clear H1
            by_cases c7 : 0 ≤ x6_1
            · rw [if_pos c7] at H
              have c7b0 : decide (0 ≤ x6_1) = true := decide_eq_true c7
              clear c7
              by_cases c8 : x6_1 < (a0.size : Int)
              · rw [if_pos c8] at H
                have c8b0 : decide (x6_1 < (a0.size : Int)) = true := decide_eq_true c8
                clear c8
                by_cases c10 : (bt a0 x6_1) ≥ 97
                · rw [if_pos c10] at H
                  have c10b0 : decide (97 ≤ (bt a0 x6_1)) = true := decide_eq_true c10
                  clear c10
                  by_cases c12 : (bt a0 x6_1) ≤ 122
                  · rw [if_pos c12] at H
                    have c12b0 : decide ((bt a0 x6_1) ≤ 122) = true := decide_eq_true c12
                    clear c12
                    by_cases c14 : x5_1.length < 140737488355328
                    · rw [if_pos c14] at H
                      have LMc14 := Aside0.mk c14
                      clear c14
                      obtain ⟨y126, hy126⟩ : ∃ y_ : List Int, y_ = (x5_1 ++ [bt a0 x6_1]) := ⟨_, rfl⟩
                      replace H : (scriptoriumlaw05_letters.l0 kj2 a0 a1 y126 (wrap64 (x6_1 + 1))) = some r := by first | (rw [hy126]; with_reducible exact H) | (have H2_ := (Option.bind_some _ _).symm.trans H; rw [hy126]; with_reducible exact H2_) | (have H2_ := (Option.bind_some _ _).symm.trans H; with_reducible exact H2_) | with_reducible exact H | (rw [hy126]; exact H) | exact H
                      have Ny126 := Aside0.mk hy126
                      clear hy126
                      have H' := Aside0.mk H
                      clear H
                      have p9 : 0 ≤ (x6_1 : Int) := of_decide_eq_true (by first | (with_reducible assumption) | assumption)
                      have q9 : x6_1 < (a0.size : Int) := of_decide_eq_true (by first | (with_reducible assumption) | assumption)
                      have hx9 := bt_at a0 x6_1
                      replace p9 := eq_true p9
                      replace q9 := eq_true q9
                      have p11 : 0 ≤ (x6_1 : Int) := of_decide_eq_true (by first | (with_reducible assumption) | assumption)
                      have q11 : x6_1 < (a0.size : Int) := of_decide_eq_true (by first | (with_reducible assumption) | assumption)
                      have hx11 := bt_at a0 x6_1
                      replace p11 := eq_true p11
                      replace q11 := eq_true q11
                      have p13 : 0 ≤ (x6_1 : Int) := of_decide_eq_true (by first | (with_reducible assumption) | assumption)
                      have q13 : x6_1 < (a0.size : Int) := of_decide_eq_true (by first | (with_reducible assumption) | assumption)
                      have hx13 := bt_at a0 x6_1
                      replace p13 := eq_true p13
                      replace q13 := eq_true q13
                      go_wp2_with (first | ((with_reducible refine gate_builtin (b := .append) (xs := #[.tmp 49, .tmp 53]) rfl ?_); (try (refine gate_guard (by rfl) ?_; dsimp only)); at_builtin; refine Kd.R_append (Kd.int .u8) (w0 := w) w.heap.size rfl (.tmp 49) (.tmp 53) 28 5 (.int .u8 0) 1 rfl Tryz.underlying28 info5 rfl (by decide) (by omega) u5 x5_1 (bt a0 x6_1) [.int .u8 (bt a0 x6_1)] (fun _ => True) (fun _ => False) rfl rfl ?aP (fun _ hk => hk.elim) ?aF ?aO ?aB ?aS ?aL ?_; (case aP => exact rfl); (case aB => exact (by repeat (first | (with_reducible first | exact HB.out | apply below_alloc | apply pw_below_drewN | apply below_drew1) | exact HB.out))); (case aF => exact (fun _ _ => trivial)); (case aO => exact (by (with_reducible repeat (first | apply Kd.R_alloc | apply Kd.R_drewN | apply Kd.R_drew)); exact HO_5.out)); (case aS => exact (below_size (by repeat (first | (with_reducible first | exact HB.out | apply below_alloc | apply pw_below_drewN | apply below_drew1) | exact HB.out)))); (case aL => have := LMc14.out; first | omega | exact Nat.le_of_lt this); intro v127 w15 ho hb hg hat; rw [← Ny126.out] at ho; have n0_ := Aside0.mk (hb); have n1_ := Aside0.mk (ho); clear HB; clear HO_5; have HB := n0_; have HO128 := n1_; clear n0_ n1_; clear ho hb hg hat))
                      go_roundg kj2
                      case measure => have := HK1.out; have := HJ2.out; omega
                      case rel => exact ⟨(y126), (wrap64 (x6_1 + 1)), (by first | rfl | (simp; done) | (simp [*]; done)), H', ⟨by have := HK1.out; have := HJ2.out; omega⟩, ⟨by (with_reducible repeat (first | apply Kd.R_alloc | apply Kd.R_drewN | apply Kd.R_drew)); exact HO128.out⟩, ⟨by repeat (first | (with_reducible first | exact HB.out | apply below_alloc | apply pw_below_drewN | apply below_drew1) | exact HB.out)⟩⟩
                    · rw [if_neg c14] at H
                      exact absurd H (by simp)
                  · rw [if_neg c12] at H
                    have c12b0 : decide ((bt a0 x6_1) ≤ 122) = false := decide_eq_false c12
                    clear c12
                    by_cases c17 : (bt a0 x6_1) = 32
                    · rw [if_pos c17] at H
                      have c17b0 : ((bt a0 x6_1) == 32) = true := beq_iff_eq.mpr c17
                      have c17b1 : ((bt a0 x6_1) != 32) = false := bne_eq_false_iff_eq.mpr c17
                      clear c17
                      by_cases c18 : (x5_1.length : Int) > 0
                      · rw [if_pos c18] at H
                        have c18b0 : decide (0 < (x5_1.length : Int)) = true := decide_eq_true c18
                        have c18b1 : decide (0 < x5_1.length) = true := decide_eq_true (by omega)
                        clear c18
                        obtain ⟨ji19, hji19⟩ : ∃ j_ : Int, (wrap64 ((x5_1.length : Int) - 1)) = j_ := ⟨_, rfl⟩
                        replace H : (if 0 ≤ (ji19) then (if (ji19) < (x5_1.length : Int) then (if (rd x5_1 (ji19)) = 32 then (scriptoriumlaw05_letters.l0 kj2 a0 a1 x5_1 (wrap64 (x6_1 + 1))) else (if x5_1.length < 140737488355328 then (scriptoriumlaw05_letters.l0 kj2 a0 a1 (x5_1 ++ [bt a0 x6_1]) (wrap64 (x6_1 + 1))) else (none))) else (none)) else (none)) = some r := by first | (rw [hji19] at H; exact H) | (simp only [hji19] at H ⊢; exact H)
                        have hji19w : (IntKind.i64.wrap ((x5_1.length : Int) - 1)) = ji19 := (i64_w _).trans hji19
                        by_cases c20 : 0 ≤ (ji19)
                        · rw [if_pos c20] at H
                          have c20b0 : decide (0 ≤ (ji19)) = true := decide_eq_true c20
                          clear c20
                          by_cases c21 : (ji19) < (x5_1.length : Int)
                          · rw [if_pos c21] at H
                            have c21b0 : decide ((ji19) < (x5_1.length : Int)) = true := decide_eq_true c21
                            clear c21
                            by_cases c22 : (rd x5_1 (ji19)) = 32
                            · rw [if_pos c22] at H
                              have c22b0 : ((rd x5_1 (ji19)) == 32) = true := beq_iff_eq.mpr c22
                              have c22b1 : ((rd x5_1 (ji19)) != 32) = false := bne_eq_false_iff_eq.mpr c22
                              clear c22
                              have H' := Aside0.mk H
                              clear H
                              have p9 : 0 ≤ (x6_1 : Int) := of_decide_eq_true (by first | (with_reducible assumption) | assumption)
                              have q9 : x6_1 < (a0.size : Int) := of_decide_eq_true (by first | (with_reducible assumption) | assumption)
                              have hx9 := bt_at a0 x6_1
                              replace p9 := eq_true p9
                              replace q9 := eq_true q9
                              have p11 : 0 ≤ (x6_1 : Int) := of_decide_eq_true (by first | (with_reducible assumption) | assumption)
                              have q11 : x6_1 < (a0.size : Int) := of_decide_eq_true (by first | (with_reducible assumption) | assumption)
                              have hx11 := bt_at a0 x6_1
                              replace p11 := eq_true p11
                              replace q11 := eq_true q11
                              have p16 : 0 ≤ (x6_1 : Int) := of_decide_eq_true (by first | (with_reducible assumption) | assumption)
                              have q16 : x6_1 < (a0.size : Int) := of_decide_eq_true (by first | (with_reducible assumption) | assumption)
                              have hx16 := bt_at a0 x6_1
                              replace p16 := eq_true p16
                              replace q16 := eq_true q16
                              obtain ⟨Ao23, co23, eo23⟩ := Kd.R_slice HO_5.out
                              subst eo23
                              have p129 : 0 ≤ ((ji19) : Int) := of_decide_eq_true (by first | (with_reducible assumption) | assumption)
                              have q129 : (ji19) < (x5_1.length : Int) := of_decide_eq_true (by first | (with_reducible assumption) | assumption)
                              obtain ⟨ad129, e129, hx129_0⟩ := Kd.at_int (Kd.R_reads' HO_5.out).2.2 (ji19) p129 q129
                              cases e129
                              replace p129 := eq_true p129
                              replace q129 := eq_true q129
                              go_wp2
                              go_roundg kj2
                              case measure => have := HK1.out; have := HJ2.out; omega
                              case rel => exact ⟨(x5_1), (wrap64 (x6_1 + 1)), (by first | rfl | (simp; done) | (simp [*]; done)), H', ⟨by have := HK1.out; have := HJ2.out; omega⟩, ⟨by (with_reducible repeat (first | apply Kd.R_alloc | apply Kd.R_drewN | apply Kd.R_drew)); exact HO_5.out⟩, ⟨by repeat (first | (with_reducible first | exact HB.out | apply below_alloc | apply pw_below_drewN | apply below_drew1) | exact HB.out)⟩⟩
                            · rw [if_neg c22] at H
                              have c22b0 : ((rd x5_1 (ji19)) == 32) = false := beq_eq_false_iff_ne.mpr c22
                              have c22b1 : ((rd x5_1 (ji19)) != 32) = true := bne_iff_ne.mpr c22
                              by_cases c25 : x5_1.length < 140737488355328
                              · rw [if_pos c25] at H
                                have LMc25 := Aside0.mk c25
                                clear c25
                                obtain ⟨y130, hy130⟩ : ∃ y_ : List Int, y_ = (x5_1 ++ [bt a0 x6_1]) := ⟨_, rfl⟩
                                replace H : (scriptoriumlaw05_letters.l0 kj2 a0 a1 y130 (wrap64 (x6_1 + 1))) = some r := by first | (rw [hy130]; with_reducible exact H) | (have H2_ := (Option.bind_some _ _).symm.trans H; rw [hy130]; with_reducible exact H2_) | (have H2_ := (Option.bind_some _ _).symm.trans H; with_reducible exact H2_) | with_reducible exact H | (rw [hy130]; exact H) | exact H
                                have Ny130 := Aside0.mk hy130
                                clear hy130
                                have H' := Aside0.mk H
                                clear H
                                have p9 : 0 ≤ (x6_1 : Int) := of_decide_eq_true (by first | (with_reducible assumption) | assumption)
                                have q9 : x6_1 < (a0.size : Int) := of_decide_eq_true (by first | (with_reducible assumption) | assumption)
                                have hx9 := bt_at a0 x6_1
                                replace p9 := eq_true p9
                                replace q9 := eq_true q9
                                have p11 : 0 ≤ (x6_1 : Int) := of_decide_eq_true (by first | (with_reducible assumption) | assumption)
                                have q11 : x6_1 < (a0.size : Int) := of_decide_eq_true (by first | (with_reducible assumption) | assumption)
                                have hx11 := bt_at a0 x6_1
                                replace p11 := eq_true p11
                                replace q11 := eq_true q11
                                have p16 : 0 ≤ (x6_1 : Int) := of_decide_eq_true (by first | (with_reducible assumption) | assumption)
                                have q16 : x6_1 < (a0.size : Int) := of_decide_eq_true (by first | (with_reducible assumption) | assumption)
                                have hx16 := bt_at a0 x6_1
                                replace p16 := eq_true p16
                                replace q16 := eq_true q16
                                obtain ⟨Ao26, co26, eo26⟩ := Kd.R_slice HO_5.out
                                subst eo26
                                have p129 : 0 ≤ ((ji19) : Int) := of_decide_eq_true (by first | (with_reducible assumption) | assumption)
                                have q129 : (ji19) < (x5_1.length : Int) := of_decide_eq_true (by first | (with_reducible assumption) | assumption)
                                obtain ⟨ad129, e129, hx129_0⟩ := Kd.at_int (Kd.R_reads' HO_5.out).2.2 (ji19) p129 q129
                                cases e129
                                replace p129 := eq_true p129
                                replace q129 := eq_true q129
                                have p24 : 0 ≤ (x6_1 : Int) := of_decide_eq_true (by first | (with_reducible assumption) | assumption)
                                have q24 : x6_1 < (a0.size : Int) := of_decide_eq_true (by first | (with_reducible assumption) | assumption)
                                have hx24 := bt_at a0 x6_1
                                replace p24 := eq_true p24
                                replace q24 := eq_true q24
                                go_wp2_with (first | ((with_reducible refine gate_builtin (b := .append) (xs := #[.tmp 49, .tmp 53]) rfl ?_); (try (refine gate_guard (by rfl) ?_; dsimp only)); at_builtin; refine Kd.R_append (Kd.int .u8) (w0 := w) w.heap.size rfl (.tmp 49) (.tmp 53) 28 5 (.int .u8 0) 1 rfl Tryz.underlying28 info5 rfl (by decide) (by omega) (.slice (some ad129) x5_1.length co26) x5_1 (bt a0 x6_1) [.int .u8 (bt a0 x6_1)] (fun _ => True) (fun _ => False) rfl rfl ?aP (fun _ hk => hk.elim) ?aF ?aO ?aB ?aS ?aL ?_; (case aP => exact rfl); (case aB => exact (by repeat (first | (with_reducible first | exact HB.out | apply below_alloc | apply pw_below_drewN | apply below_drew1) | exact HB.out))); (case aF => exact (fun _ _ => trivial)); (case aO => exact (by (with_reducible repeat (first | apply Kd.R_alloc | apply Kd.R_drewN | apply Kd.R_drew)); exact HO_5.out)); (case aS => exact (below_size (by repeat (first | (with_reducible first | exact HB.out | apply below_alloc | apply pw_below_drewN | apply below_drew1) | exact HB.out)))); (case aL => have := LMc25.out; first | omega | exact Nat.le_of_lt this); intro v131 w27 ho hb hg hat; rw [← Ny130.out] at ho; have n0_ := Aside0.mk (hb); have n1_ := Aside0.mk (ho); clear HB; clear HO_5; have HB := n0_; have HO132 := n1_; clear n0_ n1_; clear ho hb hg hat))
                                go_roundg kj2
                                case measure => have := HK1.out; have := HJ2.out; omega
                                case rel => exact ⟨(y130), (wrap64 (x6_1 + 1)), (by first | rfl | (simp; done) | (simp [*]; done)), H', ⟨by have := HK1.out; have := HJ2.out; omega⟩, ⟨by (with_reducible repeat (first | apply Kd.R_alloc | apply Kd.R_drewN | apply Kd.R_drew)); exact HO132.out⟩, ⟨by repeat (first | (with_reducible first | exact HB.out | apply below_alloc | apply pw_below_drewN | apply below_drew1) | exact HB.out)⟩⟩
                              · rw [if_neg c25] at H
                                exact absurd H (by simp)
                          · rw [if_neg c21] at H
                            exact absurd H (by simp)
                        · rw [if_neg c20] at H
                          exact absurd H (by simp)
                      · rw [if_neg c18] at H
                        have c18b0 : decide (0 < (x5_1.length : Int)) = false := decide_eq_false c18
                        have c18b1 : decide (0 < x5_1.length) = false := decide_eq_false (by omega)
                        clear c18
                        have H' := Aside0.mk H
                        clear H
                        have p9 : 0 ≤ (x6_1 : Int) := of_decide_eq_true (by first | (with_reducible assumption) | assumption)
                        have q9 : x6_1 < (a0.size : Int) := of_decide_eq_true (by first | (with_reducible assumption) | assumption)
                        have hx9 := bt_at a0 x6_1
                        replace p9 := eq_true p9
                        replace q9 := eq_true q9
                        have p11 : 0 ≤ (x6_1 : Int) := of_decide_eq_true (by first | (with_reducible assumption) | assumption)
                        have q11 : x6_1 < (a0.size : Int) := of_decide_eq_true (by first | (with_reducible assumption) | assumption)
                        have hx11 := bt_at a0 x6_1
                        replace p11 := eq_true p11
                        replace q11 := eq_true q11
                        have p16 : 0 ≤ (x6_1 : Int) := of_decide_eq_true (by first | (with_reducible assumption) | assumption)
                        have q16 : x6_1 < (a0.size : Int) := of_decide_eq_true (by first | (with_reducible assumption) | assumption)
                        have hx16 := bt_at a0 x6_1
                        replace p16 := eq_true p16
                        replace q16 := eq_true q16
                        obtain ⟨Ao28, co28, eo28⟩ := Kd.R_slice HO_5.out
                        subst eo28
                        go_wp2
                        go_roundg kj2
                        case measure => have := HK1.out; have := HJ2.out; omega
                        case rel => exact ⟨(x5_1), (wrap64 (x6_1 + 1)), (by first | rfl | (simp; done) | (simp [*]; done)), H', ⟨by have := HK1.out; have := HJ2.out; omega⟩, ⟨by (with_reducible repeat (first | apply Kd.R_alloc | apply Kd.R_drewN | apply Kd.R_drew)); exact HO_5.out⟩, ⟨by repeat (first | (with_reducible first | exact HB.out | apply below_alloc | apply pw_below_drewN | apply below_drew1) | exact HB.out)⟩⟩
                    · rw [if_neg c17] at H
                      have c17b0 : ((bt a0 x6_1) == 32) = false := beq_eq_false_iff_ne.mpr c17
                      have c17b1 : ((bt a0 x6_1) != 32) = true := bne_iff_ne.mpr c17
                      have H' := Aside0.mk H
                      clear H
                      have p9 : 0 ≤ (x6_1 : Int) := of_decide_eq_true (by first | (with_reducible assumption) | assumption)
                      have q9 : x6_1 < (a0.size : Int) := of_decide_eq_true (by first | (with_reducible assumption) | assumption)
                      have hx9 := bt_at a0 x6_1
                      replace p9 := eq_true p9
                      replace q9 := eq_true q9
                      have p11 : 0 ≤ (x6_1 : Int) := of_decide_eq_true (by first | (with_reducible assumption) | assumption)
                      have q11 : x6_1 < (a0.size : Int) := of_decide_eq_true (by first | (with_reducible assumption) | assumption)
                      have hx11 := bt_at a0 x6_1
                      replace p11 := eq_true p11
                      replace q11 := eq_true q11
                      have p16 : 0 ≤ (x6_1 : Int) := of_decide_eq_true (by first | (with_reducible assumption) | assumption)
                      have q16 : x6_1 < (a0.size : Int) := of_decide_eq_true (by first | (with_reducible assumption) | assumption)
                      have hx16 := bt_at a0 x6_1
                      replace p16 := eq_true p16
                      replace q16 := eq_true q16
                      go_wp2
                      go_roundg kj2
                      case measure => have := HK1.out; have := HJ2.out; omega
                      case rel => exact ⟨(x5_1), (wrap64 (x6_1 + 1)), (by first | rfl | (simp; done) | (simp [*]; done)), H', ⟨by have := HK1.out; have := HJ2.out; omega⟩, ⟨by (with_reducible repeat (first | apply Kd.R_alloc | apply Kd.R_drewN | apply Kd.R_drew)); exact HO_5.out⟩, ⟨by repeat (first | (with_reducible first | exact HB.out | apply below_alloc | apply pw_below_drewN | apply below_drew1) | exact HB.out)⟩⟩
                · rw [if_neg c10] at H
                  have c10b0 : decide (97 ≤ (bt a0 x6_1)) = false := decide_eq_false c10
                  clear c10
                  by_cases c30 : (bt a0 x6_1) = 32
                  · rw [if_pos c30] at H
                    have c30b0 : ((bt a0 x6_1) == 32) = true := beq_iff_eq.mpr c30
                    have c30b1 : ((bt a0 x6_1) != 32) = false := bne_eq_false_iff_eq.mpr c30
                    clear c30
                    by_cases c31 : (x5_1.length : Int) > 0
                    · rw [if_pos c31] at H
                      have c31b0 : decide (0 < (x5_1.length : Int)) = true := decide_eq_true c31
                      have c31b1 : decide (0 < x5_1.length) = true := decide_eq_true (by omega)
                      clear c31
                      obtain ⟨ji32, hji32⟩ : ∃ j_ : Int, (wrap64 ((x5_1.length : Int) - 1)) = j_ := ⟨_, rfl⟩
                      replace H : (if 0 ≤ (ji32) then (if (ji32) < (x5_1.length : Int) then (if (rd x5_1 (ji32)) = 32 then (scriptoriumlaw05_letters.l0 kj2 a0 a1 x5_1 (wrap64 (x6_1 + 1))) else (if x5_1.length < 140737488355328 then (scriptoriumlaw05_letters.l0 kj2 a0 a1 (x5_1 ++ [bt a0 x6_1]) (wrap64 (x6_1 + 1))) else (none))) else (none)) else (none)) = some r := by first | (rw [hji32] at H; exact H) | (simp only [hji32] at H ⊢; exact H)
                      have hji32w : (IntKind.i64.wrap ((x5_1.length : Int) - 1)) = ji32 := (i64_w _).trans hji32
                      by_cases c33 : 0 ≤ (ji32)
                      · rw [if_pos c33] at H
                        have c33b0 : decide (0 ≤ (ji32)) = true := decide_eq_true c33
                        clear c33
                        by_cases c34 : (ji32) < (x5_1.length : Int)
                        · rw [if_pos c34] at H
                          have c34b0 : decide ((ji32) < (x5_1.length : Int)) = true := decide_eq_true c34
                          clear c34
                          by_cases c35 : (rd x5_1 (ji32)) = 32
                          · rw [if_pos c35] at H
                            have c35b0 : ((rd x5_1 (ji32)) == 32) = true := beq_iff_eq.mpr c35
                            have c35b1 : ((rd x5_1 (ji32)) != 32) = false := bne_eq_false_iff_eq.mpr c35
                            clear c35
                            have H' := Aside0.mk H
                            clear H
                            have p9 : 0 ≤ (x6_1 : Int) := of_decide_eq_true (by first | (with_reducible assumption) | assumption)
                            have q9 : x6_1 < (a0.size : Int) := of_decide_eq_true (by first | (with_reducible assumption) | assumption)
                            have hx9 := bt_at a0 x6_1
                            replace p9 := eq_true p9
                            replace q9 := eq_true q9
                            have p29 : 0 ≤ (x6_1 : Int) := of_decide_eq_true (by first | (with_reducible assumption) | assumption)
                            have q29 : x6_1 < (a0.size : Int) := of_decide_eq_true (by first | (with_reducible assumption) | assumption)
                            have hx29 := bt_at a0 x6_1
                            replace p29 := eq_true p29
                            replace q29 := eq_true q29
                            obtain ⟨Ao36, co36, eo36⟩ := Kd.R_slice HO_5.out
                            subst eo36
                            have p133 : 0 ≤ ((ji32) : Int) := of_decide_eq_true (by first | (with_reducible assumption) | assumption)
                            have q133 : (ji32) < (x5_1.length : Int) := of_decide_eq_true (by first | (with_reducible assumption) | assumption)
                            obtain ⟨ad133, e133, hx133_0⟩ := Kd.at_int (Kd.R_reads' HO_5.out).2.2 (ji32) p133 q133
                            cases e133
                            replace p133 := eq_true p133
                            replace q133 := eq_true q133
                            go_wp2
                            go_roundg kj2
                            case measure => have := HK1.out; have := HJ2.out; omega
                            case rel => exact ⟨(x5_1), (wrap64 (x6_1 + 1)), (by first | rfl | (simp; done) | (simp [*]; done)), H', ⟨by have := HK1.out; have := HJ2.out; omega⟩, ⟨by (with_reducible repeat (first | apply Kd.R_alloc | apply Kd.R_drewN | apply Kd.R_drew)); exact HO_5.out⟩, ⟨by repeat (first | (with_reducible first | exact HB.out | apply below_alloc | apply pw_below_drewN | apply below_drew1) | exact HB.out)⟩⟩
                          · rw [if_neg c35] at H
                            have c35b0 : ((rd x5_1 (ji32)) == 32) = false := beq_eq_false_iff_ne.mpr c35
                            have c35b1 : ((rd x5_1 (ji32)) != 32) = true := bne_iff_ne.mpr c35
                            by_cases c38 : x5_1.length < 140737488355328
                            · rw [if_pos c38] at H
                              have LMc38 := Aside0.mk c38
                              clear c38
                              obtain ⟨y134, hy134⟩ : ∃ y_ : List Int, y_ = (x5_1 ++ [bt a0 x6_1]) := ⟨_, rfl⟩
                              replace H : (scriptoriumlaw05_letters.l0 kj2 a0 a1 y134 (wrap64 (x6_1 + 1))) = some r := by first | (rw [hy134]; with_reducible exact H) | (have H2_ := (Option.bind_some _ _).symm.trans H; rw [hy134]; with_reducible exact H2_) | (have H2_ := (Option.bind_some _ _).symm.trans H; with_reducible exact H2_) | with_reducible exact H | (rw [hy134]; exact H) | exact H
                              have Ny134 := Aside0.mk hy134
                              clear hy134
                              have H' := Aside0.mk H
                              clear H
                              have p9 : 0 ≤ (x6_1 : Int) := of_decide_eq_true (by first | (with_reducible assumption) | assumption)
                              have q9 : x6_1 < (a0.size : Int) := of_decide_eq_true (by first | (with_reducible assumption) | assumption)
                              have hx9 := bt_at a0 x6_1
                              replace p9 := eq_true p9
                              replace q9 := eq_true q9
                              have p29 : 0 ≤ (x6_1 : Int) := of_decide_eq_true (by first | (with_reducible assumption) | assumption)
                              have q29 : x6_1 < (a0.size : Int) := of_decide_eq_true (by first | (with_reducible assumption) | assumption)
                              have hx29 := bt_at a0 x6_1
                              replace p29 := eq_true p29
                              replace q29 := eq_true q29
                              obtain ⟨Ao39, co39, eo39⟩ := Kd.R_slice HO_5.out
                              subst eo39
                              have p133 : 0 ≤ ((ji32) : Int) := of_decide_eq_true (by first | (with_reducible assumption) | assumption)
                              have q133 : (ji32) < (x5_1.length : Int) := of_decide_eq_true (by first | (with_reducible assumption) | assumption)
                              obtain ⟨ad133, e133, hx133_0⟩ := Kd.at_int (Kd.R_reads' HO_5.out).2.2 (ji32) p133 q133
                              cases e133
                              replace p133 := eq_true p133
                              replace q133 := eq_true q133
                              have p37 : 0 ≤ (x6_1 : Int) := of_decide_eq_true (by first | (with_reducible assumption) | assumption)
                              have q37 : x6_1 < (a0.size : Int) := of_decide_eq_true (by first | (with_reducible assumption) | assumption)
                              have hx37 := bt_at a0 x6_1
                              replace p37 := eq_true p37
                              replace q37 := eq_true q37
                              go_wp2_with (first | ((with_reducible refine gate_builtin (b := .append) (xs := #[.tmp 49, .tmp 53]) rfl ?_); (try (refine gate_guard (by rfl) ?_; dsimp only)); at_builtin; refine Kd.R_append (Kd.int .u8) (w0 := w) w.heap.size rfl (.tmp 49) (.tmp 53) 28 5 (.int .u8 0) 1 rfl Tryz.underlying28 info5 rfl (by decide) (by omega) (.slice (some ad133) x5_1.length co39) x5_1 (bt a0 x6_1) [.int .u8 (bt a0 x6_1)] (fun _ => True) (fun _ => False) rfl rfl ?aP (fun _ hk => hk.elim) ?aF ?aO ?aB ?aS ?aL ?_; (case aP => exact rfl); (case aB => exact (by repeat (first | (with_reducible first | exact HB.out | apply below_alloc | apply pw_below_drewN | apply below_drew1) | exact HB.out))); (case aF => exact (fun _ _ => trivial)); (case aO => exact (by (with_reducible repeat (first | apply Kd.R_alloc | apply Kd.R_drewN | apply Kd.R_drew)); exact HO_5.out)); (case aS => exact (below_size (by repeat (first | (with_reducible first | exact HB.out | apply below_alloc | apply pw_below_drewN | apply below_drew1) | exact HB.out)))); (case aL => have := LMc38.out; first | omega | exact Nat.le_of_lt this); intro v135 w40 ho hb hg hat; rw [← Ny134.out] at ho; have n0_ := Aside0.mk (hb); have n1_ := Aside0.mk (ho); clear HB; clear HO_5; have HB := n0_; have HO136 := n1_; clear n0_ n1_; clear ho hb hg hat))
                              go_roundg kj2
                              case measure => have := HK1.out; have := HJ2.out; omega
                              case rel => exact ⟨(y134), (wrap64 (x6_1 + 1)), (by first | rfl | (simp; done) | (simp [*]; done)), H', ⟨by have := HK1.out; have := HJ2.out; omega⟩, ⟨by (with_reducible repeat (first | apply Kd.R_alloc | apply Kd.R_drewN | apply Kd.R_drew)); exact HO136.out⟩, ⟨by repeat (first | (with_reducible first | exact HB.out | apply below_alloc | apply pw_below_drewN | apply below_drew1) | exact HB.out)⟩⟩
                            · rw [if_neg c38] at H
                              exact absurd H (by simp)
                        · rw [if_neg c34] at H
                          exact absurd H (by simp)
                      · rw [if_neg c33] at H
                        exact absurd H (by simp)
                    · rw [if_neg c31] at H
                      have c31b0 : decide (0 < (x5_1.length : Int)) = false := decide_eq_false c31
                      have c31b1 : decide (0 < x5_1.length) = false := decide_eq_false (by omega)
                      clear c31
                      have H' := Aside0.mk H
                      clear H
                      have p9 : 0 ≤ (x6_1 : Int) := of_decide_eq_true (by first | (with_reducible assumption) | assumption)
                      have q9 : x6_1 < (a0.size : Int) := of_decide_eq_true (by first | (with_reducible assumption) | assumption)
                      have hx9 := bt_at a0 x6_1
                      replace p9 := eq_true p9
                      replace q9 := eq_true q9
                      have p29 : 0 ≤ (x6_1 : Int) := of_decide_eq_true (by first | (with_reducible assumption) | assumption)
                      have q29 : x6_1 < (a0.size : Int) := of_decide_eq_true (by first | (with_reducible assumption) | assumption)
                      have hx29 := bt_at a0 x6_1
                      replace p29 := eq_true p29
                      replace q29 := eq_true q29
                      obtain ⟨Ao41, co41, eo41⟩ := Kd.R_slice HO_5.out
                      subst eo41
                      go_wp2
                      go_roundg kj2
                      case measure => have := HK1.out; have := HJ2.out; omega
                      case rel => exact ⟨(x5_1), (wrap64 (x6_1 + 1)), (by first | rfl | (simp; done) | (simp [*]; done)), H', ⟨by have := HK1.out; have := HJ2.out; omega⟩, ⟨by (with_reducible repeat (first | apply Kd.R_alloc | apply Kd.R_drewN | apply Kd.R_drew)); exact HO_5.out⟩, ⟨by repeat (first | (with_reducible first | exact HB.out | apply below_alloc | apply pw_below_drewN | apply below_drew1) | exact HB.out)⟩⟩
                  · rw [if_neg c30] at H
                    have c30b0 : ((bt a0 x6_1) == 32) = false := beq_eq_false_iff_ne.mpr c30
                    have c30b1 : ((bt a0 x6_1) != 32) = true := bne_iff_ne.mpr c30
                    have H' := Aside0.mk H
                    clear H
                    have p9 : 0 ≤ (x6_1 : Int) := of_decide_eq_true (by first | (with_reducible assumption) | assumption)
                    have q9 : x6_1 < (a0.size : Int) := of_decide_eq_true (by first | (with_reducible assumption) | assumption)
                    have hx9 := bt_at a0 x6_1
                    replace p9 := eq_true p9
                    replace q9 := eq_true q9
                    have p29 : 0 ≤ (x6_1 : Int) := of_decide_eq_true (by first | (with_reducible assumption) | assumption)
                    have q29 : x6_1 < (a0.size : Int) := of_decide_eq_true (by first | (with_reducible assumption) | assumption)
                    have hx29 := bt_at a0 x6_1
                    replace p29 := eq_true p29
                    replace q29 := eq_true q29
                    go_wp2
                    go_roundg kj2
                    case measure => have := HK1.out; have := HJ2.out; omega
                    case rel => exact ⟨(x5_1), (wrap64 (x6_1 + 1)), (by first | rfl | (simp; done) | (simp [*]; done)), H', ⟨by have := HK1.out; have := HJ2.out; omega⟩, ⟨by (with_reducible repeat (first | apply Kd.R_alloc | apply Kd.R_drewN | apply Kd.R_drew)); exact HO_5.out⟩, ⟨by repeat (first | (with_reducible first | exact HB.out | apply below_alloc | apply pw_below_drewN | apply below_drew1) | exact HB.out)⟩⟩
              · rw [if_neg c8] at H
                exact absurd H (by simp)
            · rw [if_neg c7] at H
              exact absurd H (by simp)
          · replace c6 := Bool.eq_false_iff.mpr c6
            subst c6
            have H1 : (scriptoriumlaw05_letters.l1 kj2 x5_1) = some r := by rw [if_neg (show ¬ (false = true) by decide)] at H; exact H
            clear H
            have H := H1
            clear H1
            have H' := Aside0.mk H
            clear H
            go_wp2
            go_loopg [5] kj2 (fun kq v5 w' => ∃ (x5_3 : List Int), Aside0 (scriptoriumlaw05_letters.l1 kq x5_3 = some r) ∧ Aside0 (kq ≤ kj2) ∧ Aside0 (Kd.R (Kd.int .u8) 5 w' w.heap.size (fun _ => True) v5 x5_3) ∧ Aside0 (Below w.heap.size w w'))
            case atStart => exact ⟨(x5_1), H', ⟨Nat.le_refl _⟩, ⟨by (with_reducible repeat (first | apply Kd.R_alloc | apply Kd.R_drewN | apply Kd.R_drew)); exact HO_5.out⟩, ⟨by repeat (first | (with_reducible first | exact HB.out | apply below_alloc | apply pw_below_drewN | apply below_drew1) | exact HB.out)⟩⟩
            case round =>
              clear H'
              try clear c1
              try clear p1
              try clear q1
              try clear hx1
              try clear c2
              try clear p2
              try clear q2
              try clear hx2
              try clear c3
              try clear p3
              try clear q3
              try clear hx3
              try clear c4
              try clear c4b0
              try clear c6
              try clear p6
              try clear c7
              try clear c7b0
              try clear c8
              try clear c8b0
              try clear p9
              try clear q9
              try clear hx9
              try clear c10
              try clear c10b0
              try clear p11
              try clear q11
              try clear hx11
              try clear c12
              try clear c12b0
              try clear p12
              try clear q12
              try clear hx12
              try clear p13
              try clear q13
              try clear hx13
              try clear c14
              try clear p16
              try clear q16
              try clear hx16
              try clear c17
              try clear c17b0
              try clear c17b1
              try clear c18
              try clear c18b0
              try clear c18b1
              try clear c20
              try clear c20b0
              try clear c21
              try clear c21b0
              try clear c22
              try clear c22b0
              try clear c22b1
              try clear p24
              try clear q24
              try clear hx24
              try clear c25
              try clear p29
              try clear q29
              try clear hx29
              try clear c30
              try clear c30b0
              try clear c30b1
              try clear c31
              try clear c31b0
              try clear c31b1
              try clear c33
              try clear c33b0
              try clear c34
              try clear c34b0
              try clear c35
              try clear c35b0
              try clear c35b1
              try clear c37
              try clear p37
              try clear q37
              try clear hx37
              try clear c38
              try clear hx129_0
              try clear hx133_0
              try clear p11
              try clear p129
              try clear p13
              try clear p133
              try clear p16
              try clear p2
              try clear p24
              try clear p29
              try clear p37
              try clear p9
              try clear q11
              try clear q129
              try clear q13
              try clear q133
              try clear q16
              try clear q24
              try clear q29
              try clear q37
              try clear q9
              obtain ⟨x5_3, HA, HK3, HO_5, HB⟩ := hrel
              cases gk with
              | zero => exact absurd HA.out (by simp [scriptoriumlaw05_letters.l1])
              | succ k3 =>
                have H := HA.out
                clear HA
                simp only [scriptoriumlaw05_letters.l1] at H
                by_cases c42 : (x5_3.length : Int) > 0
                · rw [if_pos c42] at H
                  have c42b0 : decide (0 < (x5_3.length : Int)) = true := decide_eq_true c42
                  have c42b1 : decide (0 < x5_3.length) = true := decide_eq_true (by omega)
                  clear c42
                  obtain ⟨ji43, hji43⟩ : ∃ j_ : Int, (wrap64 ((x5_3.length : Int) - 1)) = j_ := ⟨_, rfl⟩
                  replace H : (if 0 ≤ (ji43) then (if (ji43) < (x5_3.length : Int) then (if (rd x5_3 (ji43)) = 32 then (if (ji43) ≤ (x5_3.length : Int) then (scriptoriumlaw05_letters.l1 k3 (x5_3.take ((ji43) : Int).toNat)) else (none)) else (some (strOfNums x5_3))) else (none)) else (none)) = some r := by first | (rw [hji43] at H; exact H) | (simp only [hji43] at H ⊢; exact H)
                  have hji43w : (IntKind.i64.wrap ((x5_3.length : Int) - 1)) = ji43 := (i64_w _).trans hji43
                  by_cases c44 : 0 ≤ (ji43)
                  · rw [if_pos c44] at H
                    have c44b0 : decide (0 ≤ (ji43)) = true := decide_eq_true c44
                    clear c44
                    by_cases c45 : (ji43) < (x5_3.length : Int)
                    · rw [if_pos c45] at H
                      have c45b0 : decide ((ji43) < (x5_3.length : Int)) = true := decide_eq_true c45
                      clear c45
                      by_cases c46 : (rd x5_3 (ji43)) = 32
                      · rw [if_pos c46] at H
                        have c46b0 : ((rd x5_3 (ji43)) == 32) = true := beq_iff_eq.mpr c46
                        have c46b1 : ((rd x5_3 (ji43)) != 32) = false := bne_eq_false_iff_eq.mpr c46
                        clear c46
                        by_cases c47 : (ji43) ≤ (x5_3.length : Int)
                        · rw [if_pos c47] at H
                          have c47b0 := eq_true c47
                          have c47b1 : decide ((ji43) ≤ (x5_3.length : Int)) = true := decide_eq_true c47
                          clear c47
                          obtain ⟨y138, hy138⟩ : ∃ y_ : List Int, y_ = (x5_3.take ((ji43) : Int).toNat) := ⟨_, rfl⟩
                          replace H : (scriptoriumlaw05_letters.l1 k3 y138) = some r := by first | (rw [hy138]; with_reducible exact H) | (have H2_ := (Option.bind_some _ _).symm.trans H; rw [hy138]; with_reducible exact H2_) | (have H2_ := (Option.bind_some _ _).symm.trans H; with_reducible exact H2_) | with_reducible exact H | (rw [hy138]; exact H) | exact H
                          have Ny138 := Aside0.mk hy138
                          clear hy138
                          have H' := Aside0.mk H
                          clear H
                          obtain ⟨Ao48, co48, eo48⟩ := Kd.R_slice HO_5.out
                          subst eo48
                          have p137 : 0 ≤ ((ji43) : Int) := of_decide_eq_true (by first | (with_reducible assumption) | assumption)
                          have q137 : (ji43) < (x5_3.length : Int) := of_decide_eq_true (by first | (with_reducible assumption) | assumption)
                          obtain ⟨ad137, e137, hx137_0⟩ := Kd.at_int (Kd.R_reads' HO_5.out).2.2 (ji43) p137 q137
                          cases e137
                          replace p137 := eq_true p137
                          replace q137 := eq_true q137
                          have q49 : ((ji43) : Int) ≤ ((x5_3.length : Int) : Int) := of_decide_eq_true (by first | (with_reducible assumption) | assumption)
                          obtain ⟨i049, hi049, _, hsz49, _⟩ := info_parts info5
                          have hcut49 := cut_to (P := Tryz.prog) 28 5 .i64 Tryz.underlying28 hi049 (some ad137) x5_3.length co48 (ji43) (of_decide_eq_true (by first | (with_reducible assumption) | assumption)) q49 (Kd.R_reads' HO_5.out).2.1
                          have hr49 := Kd.R_take (m := ((ji43) : Int).toNat) HO_5.out (by omega)
                          have hy49 : y138.length = ((ji43) : Int).toNat := (by rw [Ny138.out, List.length_take]; omega)
                          rw [← Ny138.out] at hr49
                          rw [← hy49] at hr49 hcut49
                          clear hy49 hi049 hsz49 HO_5
                          have HO140 := Aside0.mk hr49
                          clear hr49
                          replace q49 := eq_true q49
                          go_wp2
                          go_roundg k3
                          case measure => have := HK1.out; have := HJ2.out; have := HK3.out; omega
                          case rel => exact ⟨(y138), H', ⟨by have := HK1.out; have := HJ2.out; have := HK3.out; omega⟩, ⟨by (with_reducible repeat (first | apply Kd.R_alloc | apply Kd.R_drewN | apply Kd.R_drew)); exact HO140.out⟩, ⟨by repeat (first | (with_reducible first | exact HB.out | apply below_alloc | apply pw_below_drewN | apply below_drew1) | exact HB.out)⟩⟩
                        · rw [if_neg c47] at H
                          exact absurd H (by simp)
                      · rw [if_neg c46] at H
                        have c46b0 : ((rd x5_3 (ji43)) == 32) = false := beq_eq_false_iff_ne.mpr c46
                        have c46b1 : ((rd x5_3 (ji43)) != 32) = true := bne_iff_ne.mpr c46
                        obtain rfl := Option.some.inj H
                        obtain ⟨Ao50, co50, eo50⟩ := Kd.R_slice HO_5.out
                        subst eo50
                        have p137 : 0 ≤ ((ji43) : Int) := of_decide_eq_true (by first | (with_reducible assumption) | assumption)
                        have q137 : (ji43) < (x5_3.length : Int) := of_decide_eq_true (by first | (with_reducible assumption) | assumption)
                        obtain ⟨ad137, e137, hx137_0⟩ := Kd.at_int (Kd.R_reads' HO_5.out).2.2 (ji43) p137 q137
                        cases e137
                        replace p137 := eq_true p137
                        replace q137 := eq_true q137
                        have hcv51 := own_string (P := Tryz.prog) Tryz.underlying28 Tryz.underlying5 Tryz.underlying9 (Kd.own_of_R HO_5.out)
                        go_wp2
                        go_ret
                        exact ⟨by first | rfl | (simp [errW_none, errW_some] <;> rfl) | (simp only [← hji43]; first | rfl | (simp [errW_none, errW_some] <;> rfl)) | (simp [*, errW_none, errW_some] <;> rfl), by repeat (first | (with_reducible first | exact HB.out | apply below_alloc | apply pw_below_drewN | apply below_drew1) | exact HB.out)⟩
                    · rw [if_neg c45] at H
                      exact absurd H (by simp)
                  · rw [if_neg c44] at H
                    exact absurd H (by simp)
                · rw [if_neg c42] at H
                  have c42b0 : decide (0 < (x5_3.length : Int)) = false := decide_eq_false c42
                  have c42b1 : decide (0 < x5_3.length) = false := decide_eq_false (by omega)
                  clear c42
                  obtain rfl := Option.some.inj H
                  obtain ⟨Ao52, co52, eo52⟩ := Kd.R_slice HO_5.out
                  subst eo52
                  have hcv53 := own_string (P := Tryz.prog) Tryz.underlying28 Tryz.underlying5 Tryz.underlying9 (Kd.own_of_R HO_5.out)
                  go_wp2
                  go_ret
                  exact ⟨by first | rfl | (simp [errW_none, errW_some] <;> rfl) | (simp [*, errW_none, errW_some] <;> rfl), by repeat (first | (with_reducible first | exact HB.out | apply below_alloc | apply pw_below_drewN | apply below_drew1) | exact HB.out)⟩

/-! ### scriptoriumlaw05_many: function 38 -/
def scriptoriumlaw05_many.l0 : Nat → ByteArray → Int → ByteArray → Int → Option (ByteArray)
  | 0, _, _, _, _ => none
  | k + 1, x0, x1, x5, x6 => if x6 < x1 then (if x5.size + x0.size ≤ 9223372036854775807 then (scriptoriumlaw05_many.l0 k x0 x1 (x5 ++ x0) (wrap64 (x6 + 1))) else (none)) else (some x5)
def scriptoriumlaw05_many.f (k : Nat) (a0 : ByteArray) (a1 : Int) : Option (ByteArray) := scriptoriumlaw05_many.l0 k a0 a1 (⟨#[]⟩ : ByteArray) 0
theorem scriptoriumlaw05_many.mono_l : ∀ k, (∀ y0 y1 y2 y3, LeO (scriptoriumlaw05_many.l0 k y0 y1 y2 y3) (scriptoriumlaw05_many.l0 (k + 1) y0 y1 y2 y3))
  | 0 => fun _ _ _ _ r h => by simp [scriptoriumlaw05_many.l0] at h
  | k + 1 => by
    have ih0 := scriptoriumlaw05_many.mono_l k
    · intro y0 y1 y2 y3
      unfold scriptoriumlaw05_many.l0
      repeat' first
      | (with_reducible exact ih0 _ _ _ _)
      | (with_reducible exact LeO.refl _)
      | (with_reducible exact LeO.none _)
      | (with_reducible refine LeO.ite ?_ ?_)
      | (with_reducible refine LeO.bind ?_ (fun _ => ?_))
      | exact ih0 _ _ _ _
      | exact LeO.none _
      | refine LeO.ite ?_ ?_
      | refine LeO.bind ?_ (fun _ => ?_)
theorem scriptoriumlaw05_many.mono : ∀ a0 a1 k, LeO (scriptoriumlaw05_many.f k a0 a1) (scriptoriumlaw05_many.f (k + 1) a0 a1) := by
  intro a0 a1 k
  have ih0 := scriptoriumlaw05_many.mono_l k
  unfold scriptoriumlaw05_many.f
  repeat' first
      | (with_reducible exact ih0 _ _ _ _)
      | (with_reducible exact LeO.refl _)
      | (with_reducible exact LeO.none _)
      | (with_reducible refine LeO.ite ?_ ?_)
      | (with_reducible refine LeO.bind ?_ (fun _ => ?_))
      | exact ih0 _ _ _ _
      | exact LeO.none _
      | refine LeO.ite ?_ ?_
      | refine LeO.bind ?_ (fun _ => ?_)
set_option maxHeartbeats 8000000 in
set_option maxRecDepth 100000 in
theorem scriptoriumlaw05_many.calls (k : Nat) (a0 : ByteArray) (a1 : Int) (r : ByteArray) (w : World) (hG : GW w) (h : scriptoriumlaw05_many.f k a0 a1 = some r) :
    Calls Tryz.prog 38 #[.string a0, .int .i64 a1] w fun e w' => e = .returned (.string r) ∧ Drawn0 w w' := by
  have HG := Aside0.mk hG
  clear hG
  have H : (scriptoriumlaw05_many.l0 k a0 a1 (⟨#[]⟩ : ByteArray) 0) = some r := h
  clear h
  have H' := Aside0.mk H
  clear H
  go_enter Tryz.func38, Tryz.ntmps38
  go_wp2
  go_loopg [5, 6] k (fun kq v5 v6 w' => ∃ (x5_1 : ByteArray) (x6_1 : Int), v5 = .string x5_1 ∧ v6 = .int .i64 x6_1 ∧ Aside0 (scriptoriumlaw05_many.l0 kq a0 a1 x5_1 x6_1 = some r) ∧ Aside0 (kq ≤ k) ∧ Drawn0 w w')
  case atStart => exact ⟨((⟨#[]⟩ : ByteArray)), (0), (by first | rfl | (simp; done) | (simp [*]; done)), (by first | rfl | (simp; done) | (simp [*]; done)), H', ⟨Nat.le_refl _⟩, by repeat (first | exact Drawn0.refl _ | apply Drawn0.step)⟩
  case round =>
    clear H'
    try clear p2
    obtain ⟨x5_1, x6_1, rfl, rfl, HA, HK1, ⟨m1, rfl⟩⟩ := hrel
    cases gk with
    | zero => exact absurd HA.out (by simp [scriptoriumlaw05_many.l0])
    | succ k1 =>
      have H := HA.out
      clear HA
      simp only [scriptoriumlaw05_many.l0] at H
      by_cases c3 : x6_1 < a1
      · rw [if_pos c3] at H
        have c3b0 : decide (x6_1 < a1) = true := decide_eq_true c3
        clear c3
        by_cases c4 : x5_1.size + a0.size ≤ 9223372036854775807
        · rw [if_pos c4] at H
          have c4b0 := eq_true c4
          have c4b1 : decide (x5_1.size + a0.size ≤ 9223372036854775807) = true := decide_eq_true c4
          try have c4b2 : (9223372036854775807 < x5_1.size + a0.size) = False := eq_false (Nat.not_lt.2 c4)
          have H' := Aside0.mk H
          clear H
          go_wp2
          go_roundg k1
          case measure => have := HK1.out; omega
          case rel => exact ⟨(x5_1 ++ a0), (wrap64 (x6_1 + 1)), (by first | rfl | (simp; done) | (simp [*]; done)), (by first | rfl | (simp; done) | (simp [*]; done)), H', ⟨by have := HK1.out; omega⟩, by repeat (first | exact Drawn0.refl _ | apply Drawn0.step)⟩
        · rw [if_neg c4] at H
          exact absurd H (by simp)
      · rw [if_neg c3] at H
        have c3b0 : decide (x6_1 < a1) = false := decide_eq_false c3
        clear c3
        obtain rfl := Option.some.inj H
        go_wp2
        go_ret
        exact ⟨by first | rfl | (simp; done) | (simp [*]; done), by repeat (first | exact Drawn0.refl _ | apply Drawn0.step)⟩

/-! ### scriptoriumlaw05_LeafHeadings: function 12 -/
def scriptoriumlaw05_LeafHeadings.j0 : Nat → Int → Bool → ByteArray → ByteArray → Option (Bool)
  | 0, _, _, _, _ => none
  | k + 1, x0, x9, x10, x12 => (leaf_Heading.f k x12).bind fun bt147 => (if x0 > 6 then (if x9 = true then (if bt147.1 = 0 then (some (bt147.2.toList == ([] : List UInt8))) else (some false)) else (some false)) else ((scriptoriumlaw05_many.f k (⟨#[35]⟩ : ByteArray) x0).bind fun t149 => (if t149.size + 1 ≤ 9223372036854775807 then (if (t149 ++ (⟨#[120]⟩ : ByteArray)).size + x10.size ≤ 9223372036854775807 then ((leaf_Heading.f k ((t149 ++ (⟨#[120]⟩ : ByteArray)) ++ x10)).bind fun bt150 => (if x9 = true then (if bt147.1 = x0 then (if bt147.2.toList = x10.toList then (if bt150.1 = 0 then (some (bt150.2.toList == ([] : List UInt8))) else (some false)) else (some false)) else (some false)) else (some false))) else (none)) else (none))))
def scriptoriumlaw05_LeafHeadings.f (k : Nat) (a0 : Int) (a1 : ByteArray) (a2 : Int) (a3 : Int) : Option (Bool) := (scriptoriumlaw05_shown.f k).bind fun t141 => ((scriptoriumlaw05_letters.f k a1 300).bind fun t142 => ((scriptoriumlaw05_many.f k (⟨#[32]⟩ : ByteArray) (Go.bits .and .i64 a2 7)).bind fun t143 => ((scriptoriumlaw05_many.f k (⟨#[9]⟩ : ByteArray) (Go.bits .and .i64 (a2 / 8) 1)).bind fun t144 => (if t143.size + t144.size ≤ 9223372036854775807 then ((scriptoriumlaw05_many.f k (⟨#[35]⟩ : ByteArray) (wrap64 (1 + (Go.bits .and .i64 a0 7)))).bind fun t145 => (if t145.size + 1 ≤ 9223372036854775807 then (if (t145 ++ (⟨#[32]⟩ : ByteArray)).size + (t143 ++ t144).size ≤ 9223372036854775807 then (if ((t145 ++ (⟨#[32]⟩ : ByteArray)) ++ (t143 ++ t144)).size + t142.size ≤ 9223372036854775807 then (if t142.toList = ([] : List UInt8) then (scriptoriumlaw05_LeafHeadings.j0 k (wrap64 (1 + (Go.bits .and .i64 a0 7))) t141 t142 (((t145 ++ (⟨#[32]⟩ : ByteArray)) ++ (t143 ++ t144)) ++ t142)) else (if (((t145 ++ (⟨#[32]⟩ : ByteArray)) ++ (t143 ++ t144)) ++ t142).size + 1 ≤ 9223372036854775807 then (if ((((t145 ++ (⟨#[32]⟩ : ByteArray)) ++ (t143 ++ t144)) ++ t142) ++ (⟨#[32]⟩ : ByteArray)).size + (t143 ++ t144).size ≤ 9223372036854775807 then ((scriptoriumlaw05_many.f k (⟨#[35]⟩ : ByteArray) (Go.bits .and .i64 a3 15)).bind fun t146 => (if (((((t145 ++ (⟨#[32]⟩ : ByteArray)) ++ (t143 ++ t144)) ++ t142) ++ (⟨#[32]⟩ : ByteArray)) ++ (t143 ++ t144)).size + t146.size ≤ 9223372036854775807 then (if ((((((t145 ++ (⟨#[32]⟩ : ByteArray)) ++ (t143 ++ t144)) ++ t142) ++ (⟨#[32]⟩ : ByteArray)) ++ (t143 ++ t144)) ++ t146).size + (t143 ++ t144).size ≤ 9223372036854775807 then (scriptoriumlaw05_LeafHeadings.j0 k (wrap64 (1 + (Go.bits .and .i64 a0 7))) t141 t142 (((((((t145 ++ (⟨#[32]⟩ : ByteArray)) ++ (t143 ++ t144)) ++ t142) ++ (⟨#[32]⟩ : ByteArray)) ++ (t143 ++ t144)) ++ t146) ++ (t143 ++ t144))) else (none)) else (none))) else (none)) else (none))) else (none)) else (none)) else (none))) else (none)))))
theorem scriptoriumlaw05_LeafHeadings.mono_l : ∀ k, (∀ y0 y1 y2 y3, LeO (scriptoriumlaw05_LeafHeadings.j0 k y0 y1 y2 y3) (scriptoriumlaw05_LeafHeadings.j0 (k + 1) y0 y1 y2 y3))
  | 0 => fun _ _ _ _ r h => by simp [scriptoriumlaw05_LeafHeadings.j0] at h
  | k + 1 => by
    have ih0 := scriptoriumlaw05_LeafHeadings.mono_l k
    · intro y0 y1 y2 y3
      unfold scriptoriumlaw05_LeafHeadings.j0
      repeat' first
      | (with_reducible exact ih0 _ _ _ _)
      | (with_reducible exact leaf_Heading.mono _ _)
      | (with_reducible exact scriptoriumlaw05_letters.mono _ _ _)
      | (with_reducible exact scriptoriumlaw05_many.mono _ _ _)
      | (with_reducible exact scriptoriumlaw05_shown.mono _)
      | (with_reducible exact LeO.refl _)
      | (with_reducible exact LeO.none _)
      | (with_reducible refine LeO.ite ?_ ?_)
      | (with_reducible refine LeO.bind ?_ (fun _ => ?_))
      | exact ih0 _ _ _ _
      | exact leaf_Heading.mono _ _
      | exact scriptoriumlaw05_letters.mono _ _ _
      | exact scriptoriumlaw05_many.mono _ _ _
      | exact scriptoriumlaw05_shown.mono _
      | exact LeO.none _
      | refine LeO.ite ?_ ?_
      | refine LeO.bind ?_ (fun _ => ?_)
theorem scriptoriumlaw05_LeafHeadings.mono : ∀ a0 a1 a2 a3 k, LeO (scriptoriumlaw05_LeafHeadings.f k a0 a1 a2 a3) (scriptoriumlaw05_LeafHeadings.f (k + 1) a0 a1 a2 a3) := by
  intro a0 a1 a2 a3 k
  have ih0 := scriptoriumlaw05_LeafHeadings.mono_l k
  unfold scriptoriumlaw05_LeafHeadings.f
  repeat' first
      | (with_reducible exact ih0 _ _ _ _)
      | (with_reducible exact leaf_Heading.mono _ _)
      | (with_reducible exact scriptoriumlaw05_letters.mono _ _ _)
      | (with_reducible exact scriptoriumlaw05_many.mono _ _ _)
      | (with_reducible exact scriptoriumlaw05_shown.mono _)
      | (with_reducible exact LeO.refl _)
      | (with_reducible exact LeO.none _)
      | (with_reducible refine LeO.ite ?_ ?_)
      | (with_reducible refine LeO.bind ?_ (fun _ => ?_))
      | exact ih0 _ _ _ _
      | exact leaf_Heading.mono _ _
      | exact scriptoriumlaw05_letters.mono _ _ _
      | exact scriptoriumlaw05_many.mono _ _ _
      | exact scriptoriumlaw05_shown.mono _
      | exact LeO.none _
      | refine LeO.ite ?_ ?_
      | refine LeO.bind ?_ (fun _ => ?_)
set_option maxHeartbeats 8000000 in
set_option maxRecDepth 100000 in
theorem scriptoriumlaw05_LeafHeadings.calls (k : Nat) (a0 : Int) (a1 : ByteArray) (a2 : Int) (a3 : Int) (r : Bool) (w : World) (hG : GW w) (h : scriptoriumlaw05_LeafHeadings.f k a0 a1 a2 a3 = some r) :
    Calls Tryz.prog 12 #[.int .i64 a0, .string a1, .int .i64 a2, .int .i64 a3] w fun e w' => e = .returned (.bool r) ∧ Below w.heap.size w w' := by
  have HB := Aside0.mk (Below.refl w.heap.size w)
  have HG := Aside0.mk hG
  clear hG
  have H : ((scriptoriumlaw05_shown.f k).bind fun t141 => ((scriptoriumlaw05_letters.f k a1 300).bind fun t142 => ((scriptoriumlaw05_many.f k (⟨#[32]⟩ : ByteArray) (Go.bits .and .i64 a2 7)).bind fun t143 => ((scriptoriumlaw05_many.f k (⟨#[9]⟩ : ByteArray) (Go.bits .and .i64 (a2 / 8) 1)).bind fun t144 => (if t143.size + t144.size ≤ 9223372036854775807 then ((scriptoriumlaw05_many.f k (⟨#[35]⟩ : ByteArray) (wrap64 (1 + (Go.bits .and .i64 a0 7)))).bind fun t145 => (if t145.size + 1 ≤ 9223372036854775807 then (if (t145 ++ (⟨#[32]⟩ : ByteArray)).size + (t143 ++ t144).size ≤ 9223372036854775807 then (if ((t145 ++ (⟨#[32]⟩ : ByteArray)) ++ (t143 ++ t144)).size + t142.size ≤ 9223372036854775807 then (if t142.toList = ([] : List UInt8) then (scriptoriumlaw05_LeafHeadings.j0 k (wrap64 (1 + (Go.bits .and .i64 a0 7))) t141 t142 (((t145 ++ (⟨#[32]⟩ : ByteArray)) ++ (t143 ++ t144)) ++ t142)) else (if (((t145 ++ (⟨#[32]⟩ : ByteArray)) ++ (t143 ++ t144)) ++ t142).size + 1 ≤ 9223372036854775807 then (if ((((t145 ++ (⟨#[32]⟩ : ByteArray)) ++ (t143 ++ t144)) ++ t142) ++ (⟨#[32]⟩ : ByteArray)).size + (t143 ++ t144).size ≤ 9223372036854775807 then ((scriptoriumlaw05_many.f k (⟨#[35]⟩ : ByteArray) (Go.bits .and .i64 a3 15)).bind fun t146 => (if (((((t145 ++ (⟨#[32]⟩ : ByteArray)) ++ (t143 ++ t144)) ++ t142) ++ (⟨#[32]⟩ : ByteArray)) ++ (t143 ++ t144)).size + t146.size ≤ 9223372036854775807 then (if ((((((t145 ++ (⟨#[32]⟩ : ByteArray)) ++ (t143 ++ t144)) ++ t142) ++ (⟨#[32]⟩ : ByteArray)) ++ (t143 ++ t144)) ++ t146).size + (t143 ++ t144).size ≤ 9223372036854775807 then (scriptoriumlaw05_LeafHeadings.j0 k (wrap64 (1 + (Go.bits .and .i64 a0 7))) t141 t142 (((((((t145 ++ (⟨#[32]⟩ : ByteArray)) ++ (t143 ++ t144)) ++ t142) ++ (⟨#[32]⟩ : ByteArray)) ++ (t143 ++ t144)) ++ t146) ++ (t143 ++ t144))) else (none)) else (none))) else (none)) else (none))) else (none)) else (none)) else (none))) else (none)))))) = some r := h
  clear h
  replace H := Option.bind_eq_some_iff.mp H
  obtain ⟨t141, A50, H⟩ := H
  replace H : ((scriptoriumlaw05_letters.f k a1 300).bind fun t142 => ((scriptoriumlaw05_many.f k (⟨#[32]⟩ : ByteArray) (Go.bits .and .i64 a2 7)).bind fun t143 => ((scriptoriumlaw05_many.f k (⟨#[9]⟩ : ByteArray) (Go.bits .and .i64 (a2 / 8) 1)).bind fun t144 => (if t143.size + t144.size ≤ 9223372036854775807 then ((scriptoriumlaw05_many.f k (⟨#[35]⟩ : ByteArray) (wrap64 (1 + (Go.bits .and .i64 a0 7)))).bind fun t145 => (if t145.size + 1 ≤ 9223372036854775807 then (if (t145 ++ (⟨#[32]⟩ : ByteArray)).size + (t143 ++ t144).size ≤ 9223372036854775807 then (if ((t145 ++ (⟨#[32]⟩ : ByteArray)) ++ (t143 ++ t144)).size + t142.size ≤ 9223372036854775807 then (if t142.toList = ([] : List UInt8) then (scriptoriumlaw05_LeafHeadings.j0 k (wrap64 (1 + (Go.bits .and .i64 a0 7))) t141 t142 (((t145 ++ (⟨#[32]⟩ : ByteArray)) ++ (t143 ++ t144)) ++ t142)) else (if (((t145 ++ (⟨#[32]⟩ : ByteArray)) ++ (t143 ++ t144)) ++ t142).size + 1 ≤ 9223372036854775807 then (if ((((t145 ++ (⟨#[32]⟩ : ByteArray)) ++ (t143 ++ t144)) ++ t142) ++ (⟨#[32]⟩ : ByteArray)).size + (t143 ++ t144).size ≤ 9223372036854775807 then ((scriptoriumlaw05_many.f k (⟨#[35]⟩ : ByteArray) (Go.bits .and .i64 a3 15)).bind fun t146 => (if (((((t145 ++ (⟨#[32]⟩ : ByteArray)) ++ (t143 ++ t144)) ++ t142) ++ (⟨#[32]⟩ : ByteArray)) ++ (t143 ++ t144)).size + t146.size ≤ 9223372036854775807 then (if ((((((t145 ++ (⟨#[32]⟩ : ByteArray)) ++ (t143 ++ t144)) ++ t142) ++ (⟨#[32]⟩ : ByteArray)) ++ (t143 ++ t144)) ++ t146).size + (t143 ++ t144).size ≤ 9223372036854775807 then (scriptoriumlaw05_LeafHeadings.j0 k (wrap64 (1 + (Go.bits .and .i64 a0 7))) t141 t142 (((((((t145 ++ (⟨#[32]⟩ : ByteArray)) ++ (t143 ++ t144)) ++ t142) ++ (⟨#[32]⟩ : ByteArray)) ++ (t143 ++ t144)) ++ t146) ++ (t143 ++ t144))) else (none)) else (none))) else (none)) else (none))) else (none)) else (none)) else (none))) else (none))))) = some r := H
  have A5 := Aside0.mk A50
  clear A50
  replace H := Option.bind_eq_some_iff.mp H
  obtain ⟨t142, A60, H⟩ := H
  replace H : ((scriptoriumlaw05_many.f k (⟨#[32]⟩ : ByteArray) (Go.bits .and .i64 a2 7)).bind fun t143 => ((scriptoriumlaw05_many.f k (⟨#[9]⟩ : ByteArray) (Go.bits .and .i64 (a2 / 8) 1)).bind fun t144 => (if t143.size + t144.size ≤ 9223372036854775807 then ((scriptoriumlaw05_many.f k (⟨#[35]⟩ : ByteArray) (wrap64 (1 + (Go.bits .and .i64 a0 7)))).bind fun t145 => (if t145.size + 1 ≤ 9223372036854775807 then (if (t145 ++ (⟨#[32]⟩ : ByteArray)).size + (t143 ++ t144).size ≤ 9223372036854775807 then (if ((t145 ++ (⟨#[32]⟩ : ByteArray)) ++ (t143 ++ t144)).size + t142.size ≤ 9223372036854775807 then (if t142.toList = ([] : List UInt8) then (scriptoriumlaw05_LeafHeadings.j0 k (wrap64 (1 + (Go.bits .and .i64 a0 7))) t141 t142 (((t145 ++ (⟨#[32]⟩ : ByteArray)) ++ (t143 ++ t144)) ++ t142)) else (if (((t145 ++ (⟨#[32]⟩ : ByteArray)) ++ (t143 ++ t144)) ++ t142).size + 1 ≤ 9223372036854775807 then (if ((((t145 ++ (⟨#[32]⟩ : ByteArray)) ++ (t143 ++ t144)) ++ t142) ++ (⟨#[32]⟩ : ByteArray)).size + (t143 ++ t144).size ≤ 9223372036854775807 then ((scriptoriumlaw05_many.f k (⟨#[35]⟩ : ByteArray) (Go.bits .and .i64 a3 15)).bind fun t146 => (if (((((t145 ++ (⟨#[32]⟩ : ByteArray)) ++ (t143 ++ t144)) ++ t142) ++ (⟨#[32]⟩ : ByteArray)) ++ (t143 ++ t144)).size + t146.size ≤ 9223372036854775807 then (if ((((((t145 ++ (⟨#[32]⟩ : ByteArray)) ++ (t143 ++ t144)) ++ t142) ++ (⟨#[32]⟩ : ByteArray)) ++ (t143 ++ t144)) ++ t146).size + (t143 ++ t144).size ≤ 9223372036854775807 then (scriptoriumlaw05_LeafHeadings.j0 k (wrap64 (1 + (Go.bits .and .i64 a0 7))) t141 t142 (((((((t145 ++ (⟨#[32]⟩ : ByteArray)) ++ (t143 ++ t144)) ++ t142) ++ (⟨#[32]⟩ : ByteArray)) ++ (t143 ++ t144)) ++ t146) ++ (t143 ++ t144))) else (none)) else (none))) else (none)) else (none))) else (none)) else (none)) else (none))) else (none)))) = some r := H
  have A6 := Aside0.mk A60
  clear A60
  replace H := Option.bind_eq_some_iff.mp H
  obtain ⟨t143, A70, H⟩ := H
  replace H : ((scriptoriumlaw05_many.f k (⟨#[9]⟩ : ByteArray) (Go.bits .and .i64 (a2 / 8) 1)).bind fun t144 => (if t143.size + t144.size ≤ 9223372036854775807 then ((scriptoriumlaw05_many.f k (⟨#[35]⟩ : ByteArray) (wrap64 (1 + (Go.bits .and .i64 a0 7)))).bind fun t145 => (if t145.size + 1 ≤ 9223372036854775807 then (if (t145 ++ (⟨#[32]⟩ : ByteArray)).size + (t143 ++ t144).size ≤ 9223372036854775807 then (if ((t145 ++ (⟨#[32]⟩ : ByteArray)) ++ (t143 ++ t144)).size + t142.size ≤ 9223372036854775807 then (if t142.toList = ([] : List UInt8) then (scriptoriumlaw05_LeafHeadings.j0 k (wrap64 (1 + (Go.bits .and .i64 a0 7))) t141 t142 (((t145 ++ (⟨#[32]⟩ : ByteArray)) ++ (t143 ++ t144)) ++ t142)) else (if (((t145 ++ (⟨#[32]⟩ : ByteArray)) ++ (t143 ++ t144)) ++ t142).size + 1 ≤ 9223372036854775807 then (if ((((t145 ++ (⟨#[32]⟩ : ByteArray)) ++ (t143 ++ t144)) ++ t142) ++ (⟨#[32]⟩ : ByteArray)).size + (t143 ++ t144).size ≤ 9223372036854775807 then ((scriptoriumlaw05_many.f k (⟨#[35]⟩ : ByteArray) (Go.bits .and .i64 a3 15)).bind fun t146 => (if (((((t145 ++ (⟨#[32]⟩ : ByteArray)) ++ (t143 ++ t144)) ++ t142) ++ (⟨#[32]⟩ : ByteArray)) ++ (t143 ++ t144)).size + t146.size ≤ 9223372036854775807 then (if ((((((t145 ++ (⟨#[32]⟩ : ByteArray)) ++ (t143 ++ t144)) ++ t142) ++ (⟨#[32]⟩ : ByteArray)) ++ (t143 ++ t144)) ++ t146).size + (t143 ++ t144).size ≤ 9223372036854775807 then (scriptoriumlaw05_LeafHeadings.j0 k (wrap64 (1 + (Go.bits .and .i64 a0 7))) t141 t142 (((((((t145 ++ (⟨#[32]⟩ : ByteArray)) ++ (t143 ++ t144)) ++ t142) ++ (⟨#[32]⟩ : ByteArray)) ++ (t143 ++ t144)) ++ t146) ++ (t143 ++ t144))) else (none)) else (none))) else (none)) else (none))) else (none)) else (none)) else (none))) else (none))) = some r := H
  have A7 := Aside0.mk A70
  clear A70
  replace H := Option.bind_eq_some_iff.mp H
  obtain ⟨t144, A80, H⟩ := H
  replace H : (if t143.size + t144.size ≤ 9223372036854775807 then ((scriptoriumlaw05_many.f k (⟨#[35]⟩ : ByteArray) (wrap64 (1 + (Go.bits .and .i64 a0 7)))).bind fun t145 => (if t145.size + 1 ≤ 9223372036854775807 then (if (t145 ++ (⟨#[32]⟩ : ByteArray)).size + (t143 ++ t144).size ≤ 9223372036854775807 then (if ((t145 ++ (⟨#[32]⟩ : ByteArray)) ++ (t143 ++ t144)).size + t142.size ≤ 9223372036854775807 then (if t142.toList = ([] : List UInt8) then (scriptoriumlaw05_LeafHeadings.j0 k (wrap64 (1 + (Go.bits .and .i64 a0 7))) t141 t142 (((t145 ++ (⟨#[32]⟩ : ByteArray)) ++ (t143 ++ t144)) ++ t142)) else (if (((t145 ++ (⟨#[32]⟩ : ByteArray)) ++ (t143 ++ t144)) ++ t142).size + 1 ≤ 9223372036854775807 then (if ((((t145 ++ (⟨#[32]⟩ : ByteArray)) ++ (t143 ++ t144)) ++ t142) ++ (⟨#[32]⟩ : ByteArray)).size + (t143 ++ t144).size ≤ 9223372036854775807 then ((scriptoriumlaw05_many.f k (⟨#[35]⟩ : ByteArray) (Go.bits .and .i64 a3 15)).bind fun t146 => (if (((((t145 ++ (⟨#[32]⟩ : ByteArray)) ++ (t143 ++ t144)) ++ t142) ++ (⟨#[32]⟩ : ByteArray)) ++ (t143 ++ t144)).size + t146.size ≤ 9223372036854775807 then (if ((((((t145 ++ (⟨#[32]⟩ : ByteArray)) ++ (t143 ++ t144)) ++ t142) ++ (⟨#[32]⟩ : ByteArray)) ++ (t143 ++ t144)) ++ t146).size + (t143 ++ t144).size ≤ 9223372036854775807 then (scriptoriumlaw05_LeafHeadings.j0 k (wrap64 (1 + (Go.bits .and .i64 a0 7))) t141 t142 (((((((t145 ++ (⟨#[32]⟩ : ByteArray)) ++ (t143 ++ t144)) ++ t142) ++ (⟨#[32]⟩ : ByteArray)) ++ (t143 ++ t144)) ++ t146) ++ (t143 ++ t144))) else (none)) else (none))) else (none)) else (none))) else (none)) else (none)) else (none))) else (none)) = some r := H
  have A8 := Aside0.mk A80
  clear A80
  by_cases c9 : t143.size + t144.size ≤ 9223372036854775807
  · rw [if_pos c9] at H
    have c9b0 := eq_true c9
    have c9b1 : decide (t143.size + t144.size ≤ 9223372036854775807) = true := decide_eq_true c9
    try have c9b2 : (9223372036854775807 < t143.size + t144.size) = False := eq_false (Nat.not_lt.2 c9)
    replace H := Option.bind_eq_some_iff.mp H
    obtain ⟨t145, A100, H⟩ := H
    replace H : (if t145.size + 1 ≤ 9223372036854775807 then (if (t145 ++ (⟨#[32]⟩ : ByteArray)).size + (t143 ++ t144).size ≤ 9223372036854775807 then (if ((t145 ++ (⟨#[32]⟩ : ByteArray)) ++ (t143 ++ t144)).size + t142.size ≤ 9223372036854775807 then (if t142.toList = ([] : List UInt8) then (scriptoriumlaw05_LeafHeadings.j0 k (wrap64 (1 + (Go.bits .and .i64 a0 7))) t141 t142 (((t145 ++ (⟨#[32]⟩ : ByteArray)) ++ (t143 ++ t144)) ++ t142)) else (if (((t145 ++ (⟨#[32]⟩ : ByteArray)) ++ (t143 ++ t144)) ++ t142).size + 1 ≤ 9223372036854775807 then (if ((((t145 ++ (⟨#[32]⟩ : ByteArray)) ++ (t143 ++ t144)) ++ t142) ++ (⟨#[32]⟩ : ByteArray)).size + (t143 ++ t144).size ≤ 9223372036854775807 then ((scriptoriumlaw05_many.f k (⟨#[35]⟩ : ByteArray) (Go.bits .and .i64 a3 15)).bind fun t146 => (if (((((t145 ++ (⟨#[32]⟩ : ByteArray)) ++ (t143 ++ t144)) ++ t142) ++ (⟨#[32]⟩ : ByteArray)) ++ (t143 ++ t144)).size + t146.size ≤ 9223372036854775807 then (if ((((((t145 ++ (⟨#[32]⟩ : ByteArray)) ++ (t143 ++ t144)) ++ t142) ++ (⟨#[32]⟩ : ByteArray)) ++ (t143 ++ t144)) ++ t146).size + (t143 ++ t144).size ≤ 9223372036854775807 then (scriptoriumlaw05_LeafHeadings.j0 k (wrap64 (1 + (Go.bits .and .i64 a0 7))) t141 t142 (((((((t145 ++ (⟨#[32]⟩ : ByteArray)) ++ (t143 ++ t144)) ++ t142) ++ (⟨#[32]⟩ : ByteArray)) ++ (t143 ++ t144)) ++ t146) ++ (t143 ++ t144))) else (none)) else (none))) else (none)) else (none))) else (none)) else (none)) else (none)) = some r := H
    have A10 := Aside0.mk A100
    clear A100
    by_cases c11 : t145.size + 1 ≤ 9223372036854775807
    · rw [if_pos c11] at H
      have c11b0 := eq_true c11
      have c11b1 : decide (t145.size + 1 ≤ 9223372036854775807) = true := decide_eq_true c11
      try have c11b2 : (9223372036854775807 < t145.size + 1) = False := eq_false (Nat.not_lt.2 c11)
      by_cases c12 : (t145 ++ (⟨#[32]⟩ : ByteArray)).size + (t143 ++ t144).size ≤ 9223372036854775807
      · rw [if_pos c12] at H
        have c12b0 := eq_true c12
        have c12b1 : decide ((t145 ++ (⟨#[32]⟩ : ByteArray)).size + (t143 ++ t144).size ≤ 9223372036854775807) = true := decide_eq_true c12
        try have c12b2 : (9223372036854775807 < (t145 ++ (⟨#[32]⟩ : ByteArray)).size + (t143 ++ t144).size) = False := eq_false (Nat.not_lt.2 c12)
        have c12n0 : t145.size + 1 + (t143.size + t144.size) ≤ 9223372036854775807 := by have h_ := c12; simp only [ByteArray.size_append] at h_; exact h_
        have c12n1 : (t145.size + 1 + (t143.size + t144.size) ≤ 9223372036854775807) = True := eq_true c12n0
        have c12n2 : (9223372036854775807 < t145.size + 1 + (t143.size + t144.size)) = False := eq_false (Nat.not_lt.2 c12n0)
        clear c12n0
        by_cases c13 : ((t145 ++ (⟨#[32]⟩ : ByteArray)) ++ (t143 ++ t144)).size + t142.size ≤ 9223372036854775807
        · rw [if_pos c13] at H
          have c13b0 := eq_true c13
          have c13b1 : decide (((t145 ++ (⟨#[32]⟩ : ByteArray)) ++ (t143 ++ t144)).size + t142.size ≤ 9223372036854775807) = true := decide_eq_true c13
          try have c13b2 : (9223372036854775807 < ((t145 ++ (⟨#[32]⟩ : ByteArray)) ++ (t143 ++ t144)).size + t142.size) = False := eq_false (Nat.not_lt.2 c13)
          have c13n0 : t145.size + 1 + (t143.size + t144.size) + t142.size ≤ 9223372036854775807 := by have h_ := c13; simp only [ByteArray.size_append] at h_; exact h_
          have c13n1 : (t145.size + 1 + (t143.size + t144.size) + t142.size ≤ 9223372036854775807) = True := eq_true c13n0
          have c13n2 : (9223372036854775807 < t145.size + 1 + (t143.size + t144.size) + t142.size) = False := eq_false (Nat.not_lt.2 c13n0)
          clear c13n0
          have HC14 := Aside0.mk H
          clear H
          go_enter Tryz.func12, Tryz.ntmps12
          go_upto_if 39 with (first | ((with_reducible refine gate_callee (f := 31) rfl ?_); refine goesL_ (some 17) rfl rfl Tryz.func31 (by kernel_rfl) rfl #[] rfl (by (try simp only [List.map_toArray, List.map_cons, List.map_nil]); first | done | rfl | (simp only [List.length_drop, List.length_take]; rfl)) ?_; (with_reducible refine (scriptoriumlaw05_shown.calls k  t141 _ ?side1 A5.out).mono ?_); (case side1 => (first | (with_reducible first | exact HG.out | exact GW.drewN HG.out _ | exact GW.drewN (GW.drewN HG.out _) _) | exact GW.below HG.out (by repeat (first | (with_reducible first | exact HB.out | apply below_alloc | apply pw_below_drewN | apply below_drew1) | exact HB.out)))); rintro e w15 ⟨rfl, hb⟩; refine ⟨_, rfl, ?_⟩; have n0_ := Aside0.mk (below_step (by repeat (first | (with_reducible first | exact HB.out | apply below_alloc | apply pw_below_drewN | apply below_drew1) | exact HB.out)) hb); clear HB; have HB := n0_; clear n0_; (try clear hb); (try clear hb2); (try clear hk); (try clear hi)) | ((with_reducible refine gate_callee (f := 37) rfl ?_); refine goesL_ (some 22) rfl rfl Tryz.func37 (by kernel_rfl) rfl #[.string a1, .int .i64 300] rfl (by (try simp only [List.map_toArray, List.map_cons, List.map_nil]); first | done | rfl | (simp only [List.length_drop, List.length_take]; rfl)) ?_; (with_reducible refine (scriptoriumlaw05_letters.calls k a1 300 t142 _ ?side1 A6.out).mono ?_); (case side1 => (first | (with_reducible first | exact HG.out | exact GW.drewN HG.out _ | exact GW.drewN (GW.drewN HG.out _) _) | exact GW.below HG.out (by repeat (first | (with_reducible first | exact HB.out | apply below_alloc | apply pw_below_drewN | apply below_drew1) | exact HB.out)))); rintro e w16 ⟨rfl, hb⟩; refine ⟨_, rfl, ?_⟩; have n0_ := Aside0.mk (below_step (by repeat (first | (with_reducible first | exact HB.out | apply below_alloc | apply pw_below_drewN | apply below_drew1) | exact HB.out)) hb); clear HB; have HB := n0_; clear n0_; (try clear hb); (try clear hb2); (try clear hk); (try clear hi)) | ((with_reducible refine gate_callee (f := 38) rfl ?_); refine goesL_ (some 25) rfl rfl Tryz.func38 (by kernel_rfl) rfl #[.string (⟨#[32]⟩ : ByteArray), .int .i64 (Go.bits .and .i64 a2 7)] rfl (by (try simp only [List.map_toArray, List.map_cons, List.map_nil]); first | done | rfl | (simp only [List.length_drop, List.length_take]; rfl)) ?_; (with_reducible refine (scriptoriumlaw05_many.calls k (⟨#[32]⟩ : ByteArray) (Go.bits .and .i64 a2 7) t143 _ ?side1 A7.out).mono ?_); (case side1 => (first | (with_reducible first | exact HG.out | exact GW.drewN HG.out _ | exact GW.drewN (GW.drewN HG.out _) _) | exact GW.below HG.out (by repeat (first | (with_reducible first | exact HB.out | apply below_alloc | apply pw_below_drewN | apply below_drew1) | exact HB.out)))); rintro e w' ⟨rfl, ⟨nd, rfl⟩⟩; refine ⟨_, rfl, ?_⟩) | ((with_reducible refine gate_callee (f := 38) rfl ?_); refine goesL_ (some 29) rfl rfl Tryz.func38 (by kernel_rfl) rfl #[.string (⟨#[9]⟩ : ByteArray), .int .i64 (Go.bits .and .i64 (a2 / 8) 1)] rfl (by (try simp only [List.map_toArray, List.map_cons, List.map_nil]); first | done | rfl | (simp only [List.length_drop, List.length_take]; rfl)) ?_; (with_reducible refine (scriptoriumlaw05_many.calls k (⟨#[9]⟩ : ByteArray) (Go.bits .and .i64 (a2 / 8) 1) t144 _ ?side1 A8.out).mono ?_); (case side1 => (first | (with_reducible first | exact HG.out | exact GW.drewN HG.out _ | exact GW.drewN (GW.drewN HG.out _) _) | exact GW.below HG.out (by repeat (first | (with_reducible first | exact HB.out | apply below_alloc | apply pw_below_drewN | apply below_drew1) | exact HB.out)))); rintro e w' ⟨rfl, ⟨nd, rfl⟩⟩; refine ⟨_, rfl, ?_⟩) | ((with_reducible refine gate_callee (f := 38) rfl ?_); refine goesL_ (some 32) rfl rfl Tryz.func38 (by kernel_rfl) rfl #[.string (⟨#[35]⟩ : ByteArray), .int .i64 (wrap64 (1 + (Go.bits .and .i64 a0 7)))] rfl (by (try simp only [List.map_toArray, List.map_cons, List.map_nil]); first | done | rfl | (simp only [List.length_drop, List.length_take]; rfl)) ?_; (with_reducible refine (scriptoriumlaw05_many.calls k (⟨#[35]⟩ : ByteArray) (wrap64 (1 + (Go.bits .and .i64 a0 7))) t145 _ ?side1 A10.out).mono ?_); (case side1 => (first | (with_reducible first | exact HG.out | exact GW.drewN HG.out _ | exact GW.drewN (GW.drewN HG.out _) _) | exact GW.below HG.out (by repeat (first | (with_reducible first | exact HB.out | apply below_alloc | apply pw_below_drewN | apply below_drew1) | exact HB.out)))); rintro e w' ⟨rfl, ⟨nd, rfl⟩⟩; refine ⟨_, rfl, ?_⟩))
          (try simp only [Act.put, List.setIfInBounds_toArray, List.set_cons_zero, List.set_cons_succ])
          go_cut [12] (fun v12 wc => ∃ (kq : Nat) (x12_13 : ByteArray), v12 = .string x12_13 ∧ Aside0 (scriptoriumlaw05_LeafHeadings.j0 kq (wrap64 (1 + (Go.bits .and .i64 a0 7))) t141 t142 x12_13 = some r) ∧ Aside0 (kq ≤ k) ∧ Aside0 (Below w.heap.size w wc))
          case first =>
            have H := HC14.out
            clear HC14
            by_cases c17 : t142.toList = ([] : List UInt8)
            · rw [if_pos c17] at H
              have c17b0 : (t142.toList == ([] : List UInt8)) = true := beq_iff_eq.mpr c17
              have c17b1 : (t142.toList != ([] : List UInt8)) = false := bne_eq_false_iff_eq.mpr c17
              have c17e0 : t142.toList.isEmpty = true := by rw [c17]; rfl
              clear c17
              (try rw [c17e0])
              (first | rw [c17b0] | (simp only [i64_w, i32_w]; rw [c17b0]) | skip)
              have H' := Aside0.mk H
              clear H
              go_wp2
              go_meet
              case rel => exact ⟨_, (((t145 ++ (⟨#[32]⟩ : ByteArray)) ++ (t143 ++ t144)) ++ t142), (by first | rfl | (simp; done) | (simp [*]; done)), H', ⟨by first | omega | exact Nat.le_refl _⟩, ⟨by repeat (first | (with_reducible first | exact HB.out | apply below_alloc | apply pw_below_drewN | apply below_drew1) | exact HB.out)⟩⟩
            · rw [if_neg c17] at H
              have c17b0 : (t142.toList == ([] : List UInt8)) = false := beq_eq_false_iff_ne.mpr c17
              have c17b1 : (t142.toList != ([] : List UInt8)) = true := bne_iff_ne.mpr c17
              have c17e0 : t142.toList.isEmpty = false := by cases h_ : t142.toList with | nil => exact absurd h_ c17 | cons _ _ => rfl
              (try rw [c17e0])
              (first | rw [c17b0] | (simp only [i64_w, i32_w]; rw [c17b0]) | skip)
              by_cases c18 : (((t145 ++ (⟨#[32]⟩ : ByteArray)) ++ (t143 ++ t144)) ++ t142).size + 1 ≤ 9223372036854775807
              · rw [if_pos c18] at H
                have c18b0 := eq_true c18
                have c18b1 : decide ((((t145 ++ (⟨#[32]⟩ : ByteArray)) ++ (t143 ++ t144)) ++ t142).size + 1 ≤ 9223372036854775807) = true := decide_eq_true c18
                try have c18b2 : (9223372036854775807 < (((t145 ++ (⟨#[32]⟩ : ByteArray)) ++ (t143 ++ t144)) ++ t142).size + 1) = False := eq_false (Nat.not_lt.2 c18)
                have c18n0 : t145.size + 1 + (t143.size + t144.size) + t142.size + 1 ≤ 9223372036854775807 := by have h_ := c18; simp only [ByteArray.size_append] at h_; exact h_
                have c18n1 : (t145.size + 1 + (t143.size + t144.size) + t142.size + 1 ≤ 9223372036854775807) = True := eq_true c18n0
                have c18n2 : (9223372036854775807 < t145.size + 1 + (t143.size + t144.size) + t142.size + 1) = False := eq_false (Nat.not_lt.2 c18n0)
                clear c18n0
                by_cases c19 : ((((t145 ++ (⟨#[32]⟩ : ByteArray)) ++ (t143 ++ t144)) ++ t142) ++ (⟨#[32]⟩ : ByteArray)).size + (t143 ++ t144).size ≤ 9223372036854775807
                · rw [if_pos c19] at H
                  have c19b0 := eq_true c19
                  have c19b1 : decide (((((t145 ++ (⟨#[32]⟩ : ByteArray)) ++ (t143 ++ t144)) ++ t142) ++ (⟨#[32]⟩ : ByteArray)).size + (t143 ++ t144).size ≤ 9223372036854775807) = true := decide_eq_true c19
                  try have c19b2 : (9223372036854775807 < ((((t145 ++ (⟨#[32]⟩ : ByteArray)) ++ (t143 ++ t144)) ++ t142) ++ (⟨#[32]⟩ : ByteArray)).size + (t143 ++ t144).size) = False := eq_false (Nat.not_lt.2 c19)
                  have c19n0 : t145.size + 1 + (t143.size + t144.size) + t142.size + 1 + (t143.size + t144.size) ≤ 9223372036854775807 := by have h_ := c19; simp only [ByteArray.size_append] at h_; exact h_
                  have c19n1 : (t145.size + 1 + (t143.size + t144.size) + t142.size + 1 + (t143.size + t144.size) ≤ 9223372036854775807) = True := eq_true c19n0
                  have c19n2 : (9223372036854775807 < t145.size + 1 + (t143.size + t144.size) + t142.size + 1 + (t143.size + t144.size)) = False := eq_false (Nat.not_lt.2 c19n0)
                  clear c19n0
                  replace H := Option.bind_eq_some_iff.mp H
                  obtain ⟨t146, A200, H⟩ := H
                  replace H : (if (((((t145 ++ (⟨#[32]⟩ : ByteArray)) ++ (t143 ++ t144)) ++ t142) ++ (⟨#[32]⟩ : ByteArray)) ++ (t143 ++ t144)).size + t146.size ≤ 9223372036854775807 then (if ((((((t145 ++ (⟨#[32]⟩ : ByteArray)) ++ (t143 ++ t144)) ++ t142) ++ (⟨#[32]⟩ : ByteArray)) ++ (t143 ++ t144)) ++ t146).size + (t143 ++ t144).size ≤ 9223372036854775807 then (scriptoriumlaw05_LeafHeadings.j0 k (wrap64 (1 + (Go.bits .and .i64 a0 7))) t141 t142 (((((((t145 ++ (⟨#[32]⟩ : ByteArray)) ++ (t143 ++ t144)) ++ t142) ++ (⟨#[32]⟩ : ByteArray)) ++ (t143 ++ t144)) ++ t146) ++ (t143 ++ t144))) else (none)) else (none)) = some r := H
                  have A20 := Aside0.mk A200
                  clear A200
                  by_cases c21 : (((((t145 ++ (⟨#[32]⟩ : ByteArray)) ++ (t143 ++ t144)) ++ t142) ++ (⟨#[32]⟩ : ByteArray)) ++ (t143 ++ t144)).size + t146.size ≤ 9223372036854775807
                  · rw [if_pos c21] at H
                    have c21b0 := eq_true c21
                    have c21b1 : decide ((((((t145 ++ (⟨#[32]⟩ : ByteArray)) ++ (t143 ++ t144)) ++ t142) ++ (⟨#[32]⟩ : ByteArray)) ++ (t143 ++ t144)).size + t146.size ≤ 9223372036854775807) = true := decide_eq_true c21
                    try have c21b2 : (9223372036854775807 < (((((t145 ++ (⟨#[32]⟩ : ByteArray)) ++ (t143 ++ t144)) ++ t142) ++ (⟨#[32]⟩ : ByteArray)) ++ (t143 ++ t144)).size + t146.size) = False := eq_false (Nat.not_lt.2 c21)
                    have c21n0 : t145.size + 1 + (t143.size + t144.size) + t142.size + 1 + (t143.size + t144.size) + t146.size ≤ 9223372036854775807 := by have h_ := c21; simp only [ByteArray.size_append] at h_; exact h_
                    have c21n1 : (t145.size + 1 + (t143.size + t144.size) + t142.size + 1 + (t143.size + t144.size) + t146.size ≤ 9223372036854775807) = True := eq_true c21n0
                    have c21n2 : (9223372036854775807 < t145.size + 1 + (t143.size + t144.size) + t142.size + 1 + (t143.size + t144.size) + t146.size) = False := eq_false (Nat.not_lt.2 c21n0)
                    clear c21n0
                    by_cases c22 : ((((((t145 ++ (⟨#[32]⟩ : ByteArray)) ++ (t143 ++ t144)) ++ t142) ++ (⟨#[32]⟩ : ByteArray)) ++ (t143 ++ t144)) ++ t146).size + (t143 ++ t144).size ≤ 9223372036854775807
                    · rw [if_pos c22] at H
                      have c22b0 := eq_true c22
                      have c22b1 : decide (((((((t145 ++ (⟨#[32]⟩ : ByteArray)) ++ (t143 ++ t144)) ++ t142) ++ (⟨#[32]⟩ : ByteArray)) ++ (t143 ++ t144)) ++ t146).size + (t143 ++ t144).size ≤ 9223372036854775807) = true := decide_eq_true c22
                      try have c22b2 : (9223372036854775807 < ((((((t145 ++ (⟨#[32]⟩ : ByteArray)) ++ (t143 ++ t144)) ++ t142) ++ (⟨#[32]⟩ : ByteArray)) ++ (t143 ++ t144)) ++ t146).size + (t143 ++ t144).size) = False := eq_false (Nat.not_lt.2 c22)
                      have c22n0 : t145.size + 1 + (t143.size + t144.size) + t142.size + 1 + (t143.size + t144.size) + t146.size + (t143.size + t144.size) ≤ 9223372036854775807 := by have h_ := c22; simp only [ByteArray.size_append] at h_; exact h_
                      have c22n1 : (t145.size + 1 + (t143.size + t144.size) + t142.size + 1 + (t143.size + t144.size) + t146.size + (t143.size + t144.size) ≤ 9223372036854775807) = True := eq_true c22n0
                      have c22n2 : (9223372036854775807 < t145.size + 1 + (t143.size + t144.size) + t142.size + 1 + (t143.size + t144.size) + t146.size + (t143.size + t144.size)) = False := eq_false (Nat.not_lt.2 c22n0)
                      clear c22n0
                      have H' := Aside0.mk H
                      clear H
                      go_wp2_with (first | ((with_reducible refine gate_callee (f := 38) rfl ?_); refine goesL_ (some 46) rfl rfl Tryz.func38 (by kernel_rfl) rfl #[.string (⟨#[35]⟩ : ByteArray), .int .i64 (Go.bits .and .i64 a3 15)] rfl (by (try simp only [List.map_toArray, List.map_cons, List.map_nil]); first | done | rfl | (simp only [List.length_drop, List.length_take]; rfl)) ?_; (with_reducible refine (scriptoriumlaw05_many.calls k (⟨#[35]⟩ : ByteArray) (Go.bits .and .i64 a3 15) t146 _ ?side1 A20.out).mono ?_); (case side1 => (first | (with_reducible first | exact HG.out | exact GW.drewN HG.out _ | exact GW.drewN (GW.drewN HG.out _) _) | exact GW.below HG.out (by repeat (first | (with_reducible first | exact HB.out | apply below_alloc | apply pw_below_drewN | apply below_drew1) | exact HB.out)))); rintro e w' ⟨rfl, ⟨nd, rfl⟩⟩; refine ⟨_, rfl, ?_⟩))
                      go_meet
                      case rel => exact ⟨_, (((((((t145 ++ (⟨#[32]⟩ : ByteArray)) ++ (t143 ++ t144)) ++ t142) ++ (⟨#[32]⟩ : ByteArray)) ++ (t143 ++ t144)) ++ t146) ++ (t143 ++ t144)), (by first | rfl | (simp; done) | (simp [*]; done)), H', ⟨by first | omega | exact Nat.le_refl _⟩, ⟨by repeat (first | (with_reducible first | exact HB.out | apply below_alloc | apply pw_below_drewN | apply below_drew1) | exact HB.out)⟩⟩
                    · rw [if_neg c22] at H
                      exact absurd H (by simp)
                  · rw [if_neg c21] at H
                    exact absurd H (by simp)
                · rw [if_neg c19] at H
                  exact absurd H (by simp)
              · rw [if_neg c18] at H
                exact absurd H (by simp)
          case rest =>
            clear HC14
            try clear c1
            try clear c2
            try clear p2
            try clear c3
            try clear p6
            try clear c9
            try clear c9b0
            try clear c9b1
            try clear c9b2
            try clear c11
            try clear c11b0
            try clear c11b1
            try clear c11b2
            try clear c12
            try clear c12b0
            try clear c12b1
            try clear c12b2
            try clear c13
            try clear c13b0
            try clear c13b1
            try clear c13b2
            try clear c17
            try clear c17b0
            try clear c17b1
            try clear c18
            try clear c18b0
            try clear c18b1
            try clear c18b2
            try clear c19
            try clear c19b0
            try clear c19b1
            try clear c19b2
            try clear c21
            try clear c21b0
            try clear c21b1
            try clear c21b2
            try clear c22
            try clear c22b0
            try clear c22b1
            try clear c22b2
            obtain ⟨kq, x12_13, rfl, HA, HJ13, HB⟩ := hcut
            cases kq with
            | zero => exact absurd HA.out (by simp [scriptoriumlaw05_LeafHeadings.j0])
            | succ kj13 =>
              have H := HA.out
              clear HA
              simp only [scriptoriumlaw05_LeafHeadings.j0] at H
              replace H := Option.bind_eq_some_iff.mp H
              obtain ⟨⟨t147, t148⟩, A230, H⟩ := H
              replace H : (if (wrap64 (1 + (Go.bits .and .i64 a0 7))) > 6 then (if t141 = true then (if t147 = 0 then (some (t148.toList == ([] : List UInt8))) else (some false)) else (some false)) else ((scriptoriumlaw05_many.f kj13 (⟨#[35]⟩ : ByteArray) (wrap64 (1 + (Go.bits .and .i64 a0 7)))).bind fun t149 => (if t149.size + 1 ≤ 9223372036854775807 then (if (t149 ++ (⟨#[120]⟩ : ByteArray)).size + t142.size ≤ 9223372036854775807 then ((leaf_Heading.f kj13 ((t149 ++ (⟨#[120]⟩ : ByteArray)) ++ t142)).bind fun bt150 => (if t141 = true then (if t147 = (wrap64 (1 + (Go.bits .and .i64 a0 7))) then (if t148.toList = t142.toList then (if bt150.1 = 0 then (some (bt150.2.toList == ([] : List UInt8))) else (some false)) else (some false)) else (some false)) else (some false))) else (none)) else (none)))) = some r := H
              have A23 := Aside0.mk A230
              clear A230
              by_cases c24 : (wrap64 (1 + (Go.bits .and .i64 a0 7))) > 6
              · rw [if_pos c24] at H
                have c24b0 : decide (6 < (wrap64 (1 + (Go.bits .and .i64 a0 7)))) = true := decide_eq_true c24
                clear c24
                by_cases c25 : t141 = true
                · subst c25
                  have H1 : (if t147 = 0 then (some (t148.toList == ([] : List UInt8))) else (some false)) = some r := by rw [if_pos rfl] at H; exact H
                  clear H
                  have H := H1
                  clear H1
                  by_cases c26 : t147 = 0
                  · rw [if_pos c26] at H
                    have c26b0 : (t147 == 0) = true := beq_iff_eq.mpr c26
                    have c26b1 : (t147 != 0) = false := bne_eq_false_iff_eq.mpr c26
                    clear c26
                    obtain rfl := Option.some.inj H
                    go_wp2_with (first | ((with_reducible refine gate_callee (f := 33) rfl ?_); refine goesL_ (some 52) rfl rfl Tryz.func33 (by kernel_rfl) rfl #[.string x12_13] rfl (by (try simp only [List.map_toArray, List.map_cons, List.map_nil]); first | done | rfl | (simp only [List.length_drop, List.length_take]; rfl)) ?_; (with_reducible refine (leaf_Heading.calls kj13 x12_13 t147 t148 _ ?side1 A23.out).mono ?_); (case side1 => (first | (with_reducible first | exact HG.out | exact GW.drewN HG.out _ | exact GW.drewN (GW.drewN HG.out _) _) | exact GW.below HG.out (by repeat (first | (with_reducible first | exact HB.out | apply below_alloc | apply pw_below_drewN | apply below_drew1) | exact HB.out)))); rintro e w27 ⟨rfl, hb⟩; refine ⟨_, rfl, ?_⟩; have n0_ := Aside0.mk (below_step (by repeat (first | (with_reducible first | exact HB.out | apply below_alloc | apply pw_below_drewN | apply below_drew1) | exact HB.out)) hb); clear HB; have HB := n0_; clear n0_; (try clear hb); (try clear hb2); (try clear hk); (try clear hi)))
                    go_ret
                    exact ⟨by first | rfl | (simp [errW_none, errW_some] <;> rfl) | (simp [*, errW_none, errW_some] <;> rfl), by repeat (first | (with_reducible first | exact HB.out | apply below_alloc | apply pw_below_drewN | apply below_drew1) | exact HB.out)⟩
                  · rw [if_neg c26] at H
                    have c26b0 : (t147 == 0) = false := beq_eq_false_iff_ne.mpr c26
                    have c26b1 : (t147 != 0) = true := bne_iff_ne.mpr c26
                    obtain rfl := Option.some.inj H
                    go_wp2_with (first | ((with_reducible refine gate_callee (f := 33) rfl ?_); refine goesL_ (some 52) rfl rfl Tryz.func33 (by kernel_rfl) rfl #[.string x12_13] rfl (by (try simp only [List.map_toArray, List.map_cons, List.map_nil]); first | done | rfl | (simp only [List.length_drop, List.length_take]; rfl)) ?_; (with_reducible refine (leaf_Heading.calls kj13 x12_13 t147 t148 _ ?side1 A23.out).mono ?_); (case side1 => (first | (with_reducible first | exact HG.out | exact GW.drewN HG.out _ | exact GW.drewN (GW.drewN HG.out _) _) | exact GW.below HG.out (by repeat (first | (with_reducible first | exact HB.out | apply below_alloc | apply pw_below_drewN | apply below_drew1) | exact HB.out)))); rintro e w28 ⟨rfl, hb⟩; refine ⟨_, rfl, ?_⟩; have n0_ := Aside0.mk (below_step (by repeat (first | (with_reducible first | exact HB.out | apply below_alloc | apply pw_below_drewN | apply below_drew1) | exact HB.out)) hb); clear HB; have HB := n0_; clear n0_; (try clear hb); (try clear hb2); (try clear hk); (try clear hi)))
                    go_ret
                    exact ⟨by first | rfl | (simp [errW_none, errW_some] <;> rfl) | (simp [*, errW_none, errW_some] <;> rfl), by repeat (first | (with_reducible first | exact HB.out | apply below_alloc | apply pw_below_drewN | apply below_drew1) | exact HB.out)⟩
                · replace c25 := Bool.eq_false_iff.mpr c25
                  subst c25
                  have H1 : (some false) = some r := by rw [if_neg (show ¬ (false = true) by decide)] at H; exact H
                  clear H
                  have H := H1
                  clear H1
                  obtain rfl := Option.some.inj H
                  go_wp2_with (first | ((with_reducible refine gate_callee (f := 33) rfl ?_); refine goesL_ (some 52) rfl rfl Tryz.func33 (by kernel_rfl) rfl #[.string x12_13] rfl (by (try simp only [List.map_toArray, List.map_cons, List.map_nil]); first | done | rfl | (simp only [List.length_drop, List.length_take]; rfl)) ?_; (with_reducible refine (leaf_Heading.calls kj13 x12_13 t147 t148 _ ?side1 A23.out).mono ?_); (case side1 => (first | (with_reducible first | exact HG.out | exact GW.drewN HG.out _ | exact GW.drewN (GW.drewN HG.out _) _) | exact GW.below HG.out (by repeat (first | (with_reducible first | exact HB.out | apply below_alloc | apply pw_below_drewN | apply below_drew1) | exact HB.out)))); rintro e w29 ⟨rfl, hb⟩; refine ⟨_, rfl, ?_⟩; have n0_ := Aside0.mk (below_step (by repeat (first | (with_reducible first | exact HB.out | apply below_alloc | apply pw_below_drewN | apply below_drew1) | exact HB.out)) hb); clear HB; have HB := n0_; clear n0_; (try clear hb); (try clear hb2); (try clear hk); (try clear hi)))
                  go_ret
                  exact ⟨by first | rfl | (simp [errW_none, errW_some] <;> rfl) | (simp [*, errW_none, errW_some] <;> rfl), by repeat (first | (with_reducible first | exact HB.out | apply below_alloc | apply pw_below_drewN | apply below_drew1) | exact HB.out)⟩
              · rw [if_neg c24] at H
                have c24b0 : decide (6 < (wrap64 (1 + (Go.bits .and .i64 a0 7)))) = false := decide_eq_false c24
                clear c24
                replace H := Option.bind_eq_some_iff.mp H
                obtain ⟨t149, A300, H⟩ := H
                replace H : (if t149.size + 1 ≤ 9223372036854775807 then (if (t149 ++ (⟨#[120]⟩ : ByteArray)).size + t142.size ≤ 9223372036854775807 then ((leaf_Heading.f kj13 ((t149 ++ (⟨#[120]⟩ : ByteArray)) ++ t142)).bind fun bt150 => (if t141 = true then (if t147 = (wrap64 (1 + (Go.bits .and .i64 a0 7))) then (if t148.toList = t142.toList then (if bt150.1 = 0 then (some (bt150.2.toList == ([] : List UInt8))) else (some false)) else (some false)) else (some false)) else (some false))) else (none)) else (none)) = some r := H
                have A30 := Aside0.mk A300
                clear A300
                by_cases c31 : t149.size + 1 ≤ 9223372036854775807
                · rw [if_pos c31] at H
                  have c31b0 := eq_true c31
                  have c31b1 : decide (t149.size + 1 ≤ 9223372036854775807) = true := decide_eq_true c31
                  try have c31b2 : (9223372036854775807 < t149.size + 1) = False := eq_false (Nat.not_lt.2 c31)
                  by_cases c32 : (t149 ++ (⟨#[120]⟩ : ByteArray)).size + t142.size ≤ 9223372036854775807
                  · rw [if_pos c32] at H
                    have c32b0 := eq_true c32
                    have c32b1 : decide ((t149 ++ (⟨#[120]⟩ : ByteArray)).size + t142.size ≤ 9223372036854775807) = true := decide_eq_true c32
                    try have c32b2 : (9223372036854775807 < (t149 ++ (⟨#[120]⟩ : ByteArray)).size + t142.size) = False := eq_false (Nat.not_lt.2 c32)
                    have c32n0 : t149.size + 1 + t142.size ≤ 9223372036854775807 := by have h_ := c32; simp only [ByteArray.size_append] at h_; exact h_
                    have c32n1 : (t149.size + 1 + t142.size ≤ 9223372036854775807) = True := eq_true c32n0
                    have c32n2 : (9223372036854775807 < t149.size + 1 + t142.size) = False := eq_false (Nat.not_lt.2 c32n0)
                    clear c32n0
                    replace H := Option.bind_eq_some_iff.mp H
                    obtain ⟨⟨t150, t151⟩, A330, H⟩ := H
                    replace H : (if t141 = true then (if t147 = (wrap64 (1 + (Go.bits .and .i64 a0 7))) then (if t148.toList = t142.toList then (if t150 = 0 then (some (t151.toList == ([] : List UInt8))) else (some false)) else (some false)) else (some false)) else (some false)) = some r := H
                    have A33 := Aside0.mk A330
                    clear A330
                    by_cases c34 : t141 = true
                    · subst c34
                      have H1 : (if t147 = (wrap64 (1 + (Go.bits .and .i64 a0 7))) then (if t148.toList = t142.toList then (if t150 = 0 then (some (t151.toList == ([] : List UInt8))) else (some false)) else (some false)) else (some false)) = some r := by rw [if_pos rfl] at H; exact H
                      clear H
                      have H := H1
                      clear H1
                      by_cases c35 : t147 = (wrap64 (1 + (Go.bits .and .i64 a0 7)))
                      · rw [if_pos c35] at H
                        have c35b0 : (t147 == (wrap64 (1 + (Go.bits .and .i64 a0 7)))) = true := beq_iff_eq.mpr c35
                        have c35b1 : (t147 != (wrap64 (1 + (Go.bits .and .i64 a0 7)))) = false := bne_eq_false_iff_eq.mpr c35
                        clear c35
                        by_cases c36 : t148.toList = t142.toList
                        · rw [if_pos c36] at H
                          have c36b0 : (t148.toList == t142.toList) = true := beq_iff_eq.mpr c36
                          have c36b1 : (t148.toList != t142.toList) = false := bne_eq_false_iff_eq.mpr c36
                          clear c36
                          by_cases c37 : t150 = 0
                          · rw [if_pos c37] at H
                            have c37b0 : (t150 == 0) = true := beq_iff_eq.mpr c37
                            have c37b1 : (t150 != 0) = false := bne_eq_false_iff_eq.mpr c37
                            clear c37
                            obtain rfl := Option.some.inj H
                            go_wp2_with (first | ((with_reducible refine gate_callee (f := 33) rfl ?_); refine goesL_ (some 52) rfl rfl Tryz.func33 (by kernel_rfl) rfl #[.string x12_13] rfl (by (try simp only [List.map_toArray, List.map_cons, List.map_nil]); first | done | rfl | (simp only [List.length_drop, List.length_take]; rfl)) ?_; (with_reducible refine (leaf_Heading.calls kj13 x12_13 t147 t148 _ ?side1 A23.out).mono ?_); (case side1 => (first | (with_reducible first | exact HG.out | exact GW.drewN HG.out _ | exact GW.drewN (GW.drewN HG.out _) _) | exact GW.below HG.out (by repeat (first | (with_reducible first | exact HB.out | apply below_alloc | apply pw_below_drewN | apply below_drew1) | exact HB.out)))); rintro e w38 ⟨rfl, hb⟩; refine ⟨_, rfl, ?_⟩; have n0_ := Aside0.mk (below_step (by repeat (first | (with_reducible first | exact HB.out | apply below_alloc | apply pw_below_drewN | apply below_drew1) | exact HB.out)) hb); clear HB; have HB := n0_; clear n0_; (try clear hb); (try clear hb2); (try clear hk); (try clear hi)) | ((with_reducible refine gate_callee (f := 38) rfl ?_); refine goesL_ (some 68) rfl rfl Tryz.func38 (by kernel_rfl) rfl #[.string (⟨#[35]⟩ : ByteArray), .int .i64 (wrap64 (1 + (Go.bits .and .i64 a0 7)))] rfl (by (try simp only [List.map_toArray, List.map_cons, List.map_nil]); first | done | rfl | (simp only [List.length_drop, List.length_take]; rfl)) ?_; (with_reducible refine (scriptoriumlaw05_many.calls kj13 (⟨#[35]⟩ : ByteArray) (wrap64 (1 + (Go.bits .and .i64 a0 7))) t149 _ ?side1 A30.out).mono ?_); (case side1 => (first | (with_reducible first | exact HG.out | exact GW.drewN HG.out _ | exact GW.drewN (GW.drewN HG.out _) _) | exact GW.below HG.out (by repeat (first | (with_reducible first | exact HB.out | apply below_alloc | apply pw_below_drewN | apply below_drew1) | exact HB.out)))); rintro e w' ⟨rfl, ⟨nd, rfl⟩⟩; refine ⟨_, rfl, ?_⟩) | ((with_reducible refine gate_callee (f := 33) rfl ?_); refine goesL_ (some 72) rfl rfl Tryz.func33 (by kernel_rfl) rfl #[.string ((t149 ++ (⟨#[120]⟩ : ByteArray)) ++ t142)] rfl (by (try simp only [List.map_toArray, List.map_cons, List.map_nil]); first | done | rfl | (simp only [List.length_drop, List.length_take]; rfl)) ?_; (with_reducible refine (leaf_Heading.calls kj13 ((t149 ++ (⟨#[120]⟩ : ByteArray)) ++ t142) t150 t151 _ ?side1 A33.out).mono ?_); (case side1 => (first | (with_reducible first | exact HG.out | exact GW.drewN HG.out _ | exact GW.drewN (GW.drewN HG.out _) _) | exact GW.below HG.out (by repeat (first | (with_reducible first | exact HB.out | apply below_alloc | apply pw_below_drewN | apply below_drew1) | exact HB.out)))); rintro e w39 ⟨rfl, hb⟩; refine ⟨_, rfl, ?_⟩; have n0_ := Aside0.mk (below_step (by repeat (first | (with_reducible first | exact HB.out | apply below_alloc | apply pw_below_drewN | apply below_drew1) | exact HB.out)) hb); clear HB; have HB := n0_; clear n0_; (try clear hb); (try clear hb2); (try clear hk); (try clear hi)))
                            go_ret
                            exact ⟨by first | rfl | (simp [errW_none, errW_some] <;> rfl) | (simp [*, errW_none, errW_some] <;> rfl), by repeat (first | (with_reducible first | exact HB.out | apply below_alloc | apply pw_below_drewN | apply below_drew1) | exact HB.out)⟩
                          · rw [if_neg c37] at H
                            have c37b0 : (t150 == 0) = false := beq_eq_false_iff_ne.mpr c37
                            have c37b1 : (t150 != 0) = true := bne_iff_ne.mpr c37
                            obtain rfl := Option.some.inj H
                            go_wp2_with (first | ((with_reducible refine gate_callee (f := 33) rfl ?_); refine goesL_ (some 52) rfl rfl Tryz.func33 (by kernel_rfl) rfl #[.string x12_13] rfl (by (try simp only [List.map_toArray, List.map_cons, List.map_nil]); first | done | rfl | (simp only [List.length_drop, List.length_take]; rfl)) ?_; (with_reducible refine (leaf_Heading.calls kj13 x12_13 t147 t148 _ ?side1 A23.out).mono ?_); (case side1 => (first | (with_reducible first | exact HG.out | exact GW.drewN HG.out _ | exact GW.drewN (GW.drewN HG.out _) _) | exact GW.below HG.out (by repeat (first | (with_reducible first | exact HB.out | apply below_alloc | apply pw_below_drewN | apply below_drew1) | exact HB.out)))); rintro e w40 ⟨rfl, hb⟩; refine ⟨_, rfl, ?_⟩; have n0_ := Aside0.mk (below_step (by repeat (first | (with_reducible first | exact HB.out | apply below_alloc | apply pw_below_drewN | apply below_drew1) | exact HB.out)) hb); clear HB; have HB := n0_; clear n0_; (try clear hb); (try clear hb2); (try clear hk); (try clear hi)) | ((with_reducible refine gate_callee (f := 38) rfl ?_); refine goesL_ (some 68) rfl rfl Tryz.func38 (by kernel_rfl) rfl #[.string (⟨#[35]⟩ : ByteArray), .int .i64 (wrap64 (1 + (Go.bits .and .i64 a0 7)))] rfl (by (try simp only [List.map_toArray, List.map_cons, List.map_nil]); first | done | rfl | (simp only [List.length_drop, List.length_take]; rfl)) ?_; (with_reducible refine (scriptoriumlaw05_many.calls kj13 (⟨#[35]⟩ : ByteArray) (wrap64 (1 + (Go.bits .and .i64 a0 7))) t149 _ ?side1 A30.out).mono ?_); (case side1 => (first | (with_reducible first | exact HG.out | exact GW.drewN HG.out _ | exact GW.drewN (GW.drewN HG.out _) _) | exact GW.below HG.out (by repeat (first | (with_reducible first | exact HB.out | apply below_alloc | apply pw_below_drewN | apply below_drew1) | exact HB.out)))); rintro e w' ⟨rfl, ⟨nd, rfl⟩⟩; refine ⟨_, rfl, ?_⟩) | ((with_reducible refine gate_callee (f := 33) rfl ?_); refine goesL_ (some 72) rfl rfl Tryz.func33 (by kernel_rfl) rfl #[.string ((t149 ++ (⟨#[120]⟩ : ByteArray)) ++ t142)] rfl (by (try simp only [List.map_toArray, List.map_cons, List.map_nil]); first | done | rfl | (simp only [List.length_drop, List.length_take]; rfl)) ?_; (with_reducible refine (leaf_Heading.calls kj13 ((t149 ++ (⟨#[120]⟩ : ByteArray)) ++ t142) t150 t151 _ ?side1 A33.out).mono ?_); (case side1 => (first | (with_reducible first | exact HG.out | exact GW.drewN HG.out _ | exact GW.drewN (GW.drewN HG.out _) _) | exact GW.below HG.out (by repeat (first | (with_reducible first | exact HB.out | apply below_alloc | apply pw_below_drewN | apply below_drew1) | exact HB.out)))); rintro e w41 ⟨rfl, hb⟩; refine ⟨_, rfl, ?_⟩; have n0_ := Aside0.mk (below_step (by repeat (first | (with_reducible first | exact HB.out | apply below_alloc | apply pw_below_drewN | apply below_drew1) | exact HB.out)) hb); clear HB; have HB := n0_; clear n0_; (try clear hb); (try clear hb2); (try clear hk); (try clear hi)))
                            go_ret
                            exact ⟨by first | rfl | (simp [errW_none, errW_some] <;> rfl) | (simp [*, errW_none, errW_some] <;> rfl), by repeat (first | (with_reducible first | exact HB.out | apply below_alloc | apply pw_below_drewN | apply below_drew1) | exact HB.out)⟩
                        · rw [if_neg c36] at H
                          have c36b0 : (t148.toList == t142.toList) = false := beq_eq_false_iff_ne.mpr c36
                          have c36b1 : (t148.toList != t142.toList) = true := bne_iff_ne.mpr c36
                          obtain rfl := Option.some.inj H
                          go_wp2_with (first | ((with_reducible refine gate_callee (f := 33) rfl ?_); refine goesL_ (some 52) rfl rfl Tryz.func33 (by kernel_rfl) rfl #[.string x12_13] rfl (by (try simp only [List.map_toArray, List.map_cons, List.map_nil]); first | done | rfl | (simp only [List.length_drop, List.length_take]; rfl)) ?_; (with_reducible refine (leaf_Heading.calls kj13 x12_13 t147 t148 _ ?side1 A23.out).mono ?_); (case side1 => (first | (with_reducible first | exact HG.out | exact GW.drewN HG.out _ | exact GW.drewN (GW.drewN HG.out _) _) | exact GW.below HG.out (by repeat (first | (with_reducible first | exact HB.out | apply below_alloc | apply pw_below_drewN | apply below_drew1) | exact HB.out)))); rintro e w42 ⟨rfl, hb⟩; refine ⟨_, rfl, ?_⟩; have n0_ := Aside0.mk (below_step (by repeat (first | (with_reducible first | exact HB.out | apply below_alloc | apply pw_below_drewN | apply below_drew1) | exact HB.out)) hb); clear HB; have HB := n0_; clear n0_; (try clear hb); (try clear hb2); (try clear hk); (try clear hi)) | ((with_reducible refine gate_callee (f := 38) rfl ?_); refine goesL_ (some 68) rfl rfl Tryz.func38 (by kernel_rfl) rfl #[.string (⟨#[35]⟩ : ByteArray), .int .i64 (wrap64 (1 + (Go.bits .and .i64 a0 7)))] rfl (by (try simp only [List.map_toArray, List.map_cons, List.map_nil]); first | done | rfl | (simp only [List.length_drop, List.length_take]; rfl)) ?_; (with_reducible refine (scriptoriumlaw05_many.calls kj13 (⟨#[35]⟩ : ByteArray) (wrap64 (1 + (Go.bits .and .i64 a0 7))) t149 _ ?side1 A30.out).mono ?_); (case side1 => (first | (with_reducible first | exact HG.out | exact GW.drewN HG.out _ | exact GW.drewN (GW.drewN HG.out _) _) | exact GW.below HG.out (by repeat (first | (with_reducible first | exact HB.out | apply below_alloc | apply pw_below_drewN | apply below_drew1) | exact HB.out)))); rintro e w' ⟨rfl, ⟨nd, rfl⟩⟩; refine ⟨_, rfl, ?_⟩) | ((with_reducible refine gate_callee (f := 33) rfl ?_); refine goesL_ (some 72) rfl rfl Tryz.func33 (by kernel_rfl) rfl #[.string ((t149 ++ (⟨#[120]⟩ : ByteArray)) ++ t142)] rfl (by (try simp only [List.map_toArray, List.map_cons, List.map_nil]); first | done | rfl | (simp only [List.length_drop, List.length_take]; rfl)) ?_; (with_reducible refine (leaf_Heading.calls kj13 ((t149 ++ (⟨#[120]⟩ : ByteArray)) ++ t142) t150 t151 _ ?side1 A33.out).mono ?_); (case side1 => (first | (with_reducible first | exact HG.out | exact GW.drewN HG.out _ | exact GW.drewN (GW.drewN HG.out _) _) | exact GW.below HG.out (by repeat (first | (with_reducible first | exact HB.out | apply below_alloc | apply pw_below_drewN | apply below_drew1) | exact HB.out)))); rintro e w43 ⟨rfl, hb⟩; refine ⟨_, rfl, ?_⟩; have n0_ := Aside0.mk (below_step (by repeat (first | (with_reducible first | exact HB.out | apply below_alloc | apply pw_below_drewN | apply below_drew1) | exact HB.out)) hb); clear HB; have HB := n0_; clear n0_; (try clear hb); (try clear hb2); (try clear hk); (try clear hi)))
                          go_ret
                          exact ⟨by first | rfl | (simp [errW_none, errW_some] <;> rfl) | (simp [*, errW_none, errW_some] <;> rfl), by repeat (first | (with_reducible first | exact HB.out | apply below_alloc | apply pw_below_drewN | apply below_drew1) | exact HB.out)⟩
                      · rw [if_neg c35] at H
                        have c35b0 : (t147 == (wrap64 (1 + (Go.bits .and .i64 a0 7)))) = false := beq_eq_false_iff_ne.mpr c35
                        have c35b1 : (t147 != (wrap64 (1 + (Go.bits .and .i64 a0 7)))) = true := bne_iff_ne.mpr c35
                        obtain rfl := Option.some.inj H
                        go_wp2_with (first | ((with_reducible refine gate_callee (f := 33) rfl ?_); refine goesL_ (some 52) rfl rfl Tryz.func33 (by kernel_rfl) rfl #[.string x12_13] rfl (by (try simp only [List.map_toArray, List.map_cons, List.map_nil]); first | done | rfl | (simp only [List.length_drop, List.length_take]; rfl)) ?_; (with_reducible refine (leaf_Heading.calls kj13 x12_13 t147 t148 _ ?side1 A23.out).mono ?_); (case side1 => (first | (with_reducible first | exact HG.out | exact GW.drewN HG.out _ | exact GW.drewN (GW.drewN HG.out _) _) | exact GW.below HG.out (by repeat (first | (with_reducible first | exact HB.out | apply below_alloc | apply pw_below_drewN | apply below_drew1) | exact HB.out)))); rintro e w44 ⟨rfl, hb⟩; refine ⟨_, rfl, ?_⟩; have n0_ := Aside0.mk (below_step (by repeat (first | (with_reducible first | exact HB.out | apply below_alloc | apply pw_below_drewN | apply below_drew1) | exact HB.out)) hb); clear HB; have HB := n0_; clear n0_; (try clear hb); (try clear hb2); (try clear hk); (try clear hi)) | ((with_reducible refine gate_callee (f := 38) rfl ?_); refine goesL_ (some 68) rfl rfl Tryz.func38 (by kernel_rfl) rfl #[.string (⟨#[35]⟩ : ByteArray), .int .i64 (wrap64 (1 + (Go.bits .and .i64 a0 7)))] rfl (by (try simp only [List.map_toArray, List.map_cons, List.map_nil]); first | done | rfl | (simp only [List.length_drop, List.length_take]; rfl)) ?_; (with_reducible refine (scriptoriumlaw05_many.calls kj13 (⟨#[35]⟩ : ByteArray) (wrap64 (1 + (Go.bits .and .i64 a0 7))) t149 _ ?side1 A30.out).mono ?_); (case side1 => (first | (with_reducible first | exact HG.out | exact GW.drewN HG.out _ | exact GW.drewN (GW.drewN HG.out _) _) | exact GW.below HG.out (by repeat (first | (with_reducible first | exact HB.out | apply below_alloc | apply pw_below_drewN | apply below_drew1) | exact HB.out)))); rintro e w' ⟨rfl, ⟨nd, rfl⟩⟩; refine ⟨_, rfl, ?_⟩) | ((with_reducible refine gate_callee (f := 33) rfl ?_); refine goesL_ (some 72) rfl rfl Tryz.func33 (by kernel_rfl) rfl #[.string ((t149 ++ (⟨#[120]⟩ : ByteArray)) ++ t142)] rfl (by (try simp only [List.map_toArray, List.map_cons, List.map_nil]); first | done | rfl | (simp only [List.length_drop, List.length_take]; rfl)) ?_; (with_reducible refine (leaf_Heading.calls kj13 ((t149 ++ (⟨#[120]⟩ : ByteArray)) ++ t142) t150 t151 _ ?side1 A33.out).mono ?_); (case side1 => (first | (with_reducible first | exact HG.out | exact GW.drewN HG.out _ | exact GW.drewN (GW.drewN HG.out _) _) | exact GW.below HG.out (by repeat (first | (with_reducible first | exact HB.out | apply below_alloc | apply pw_below_drewN | apply below_drew1) | exact HB.out)))); rintro e w45 ⟨rfl, hb⟩; refine ⟨_, rfl, ?_⟩; have n0_ := Aside0.mk (below_step (by repeat (first | (with_reducible first | exact HB.out | apply below_alloc | apply pw_below_drewN | apply below_drew1) | exact HB.out)) hb); clear HB; have HB := n0_; clear n0_; (try clear hb); (try clear hb2); (try clear hk); (try clear hi)))
                        go_ret
                        exact ⟨by first | rfl | (simp [errW_none, errW_some] <;> rfl) | (simp [*, errW_none, errW_some] <;> rfl), by repeat (first | (with_reducible first | exact HB.out | apply below_alloc | apply pw_below_drewN | apply below_drew1) | exact HB.out)⟩
                    · replace c34 := Bool.eq_false_iff.mpr c34
                      subst c34
                      have H1 : (some false) = some r := by rw [if_neg (show ¬ (false = true) by decide)] at H; exact H
                      clear H
                      have H := H1
                      clear H1
                      obtain rfl := Option.some.inj H
                      go_wp2_with (first | ((with_reducible refine gate_callee (f := 33) rfl ?_); refine goesL_ (some 52) rfl rfl Tryz.func33 (by kernel_rfl) rfl #[.string x12_13] rfl (by (try simp only [List.map_toArray, List.map_cons, List.map_nil]); first | done | rfl | (simp only [List.length_drop, List.length_take]; rfl)) ?_; (with_reducible refine (leaf_Heading.calls kj13 x12_13 t147 t148 _ ?side1 A23.out).mono ?_); (case side1 => (first | (with_reducible first | exact HG.out | exact GW.drewN HG.out _ | exact GW.drewN (GW.drewN HG.out _) _) | exact GW.below HG.out (by repeat (first | (with_reducible first | exact HB.out | apply below_alloc | apply pw_below_drewN | apply below_drew1) | exact HB.out)))); rintro e w46 ⟨rfl, hb⟩; refine ⟨_, rfl, ?_⟩; have n0_ := Aside0.mk (below_step (by repeat (first | (with_reducible first | exact HB.out | apply below_alloc | apply pw_below_drewN | apply below_drew1) | exact HB.out)) hb); clear HB; have HB := n0_; clear n0_; (try clear hb); (try clear hb2); (try clear hk); (try clear hi)) | ((with_reducible refine gate_callee (f := 38) rfl ?_); refine goesL_ (some 68) rfl rfl Tryz.func38 (by kernel_rfl) rfl #[.string (⟨#[35]⟩ : ByteArray), .int .i64 (wrap64 (1 + (Go.bits .and .i64 a0 7)))] rfl (by (try simp only [List.map_toArray, List.map_cons, List.map_nil]); first | done | rfl | (simp only [List.length_drop, List.length_take]; rfl)) ?_; (with_reducible refine (scriptoriumlaw05_many.calls kj13 (⟨#[35]⟩ : ByteArray) (wrap64 (1 + (Go.bits .and .i64 a0 7))) t149 _ ?side1 A30.out).mono ?_); (case side1 => (first | (with_reducible first | exact HG.out | exact GW.drewN HG.out _ | exact GW.drewN (GW.drewN HG.out _) _) | exact GW.below HG.out (by repeat (first | (with_reducible first | exact HB.out | apply below_alloc | apply pw_below_drewN | apply below_drew1) | exact HB.out)))); rintro e w' ⟨rfl, ⟨nd, rfl⟩⟩; refine ⟨_, rfl, ?_⟩) | ((with_reducible refine gate_callee (f := 33) rfl ?_); refine goesL_ (some 72) rfl rfl Tryz.func33 (by kernel_rfl) rfl #[.string ((t149 ++ (⟨#[120]⟩ : ByteArray)) ++ t142)] rfl (by (try simp only [List.map_toArray, List.map_cons, List.map_nil]); first | done | rfl | (simp only [List.length_drop, List.length_take]; rfl)) ?_; (with_reducible refine (leaf_Heading.calls kj13 ((t149 ++ (⟨#[120]⟩ : ByteArray)) ++ t142) t150 t151 _ ?side1 A33.out).mono ?_); (case side1 => (first | (with_reducible first | exact HG.out | exact GW.drewN HG.out _ | exact GW.drewN (GW.drewN HG.out _) _) | exact GW.below HG.out (by repeat (first | (with_reducible first | exact HB.out | apply below_alloc | apply pw_below_drewN | apply below_drew1) | exact HB.out)))); rintro e w47 ⟨rfl, hb⟩; refine ⟨_, rfl, ?_⟩; have n0_ := Aside0.mk (below_step (by repeat (first | (with_reducible first | exact HB.out | apply below_alloc | apply pw_below_drewN | apply below_drew1) | exact HB.out)) hb); clear HB; have HB := n0_; clear n0_; (try clear hb); (try clear hb2); (try clear hk); (try clear hi)))
                      go_ret
                      exact ⟨by first | rfl | (simp [errW_none, errW_some] <;> rfl) | (simp [*, errW_none, errW_some] <;> rfl), by repeat (first | (with_reducible first | exact HB.out | apply below_alloc | apply pw_below_drewN | apply below_drew1) | exact HB.out)⟩
                  · rw [if_neg c32] at H
                    exact absurd H (by simp)
                · rw [if_neg c31] at H
                  exact absurd H (by simp)
        · rw [if_neg c13] at H
          exact absurd H (by simp)
      · rw [if_neg c12] at H
        exact absurd H (by simp)
    · rw [if_neg c11] at H
      exact absurd H (by simp)
  · rw [if_neg c9] at H
    exact absurd H (by simp)

/-- THE ONE PURE STATEMENT of scriptoriumlaw05_LeafHeadings: yours. -/
def scriptoriumlaw05_LeafHeadings.Pure : Prop := ∀ (a0 : Int) (a1 : ByteArray) (a2 : Int) (a3 : Int), (Lit.int .i64 a0).wf = true → a1.size ≤ 140737488351232 → (Lit.int .i64 a2).wf = true → (Lit.int .i64 a3).wf = true → ∃ k, scriptoriumlaw05_LeafHeadings.f k a0 a1 a2 a3 = some true
theorem scriptoriumlaw05_LeafHeadings.walk (P : scriptoriumlaw05_LeafHeadings.Pure) (a0 : Int) (a1 : ByteArray) (a2 : Int) (a3 : Int) (w : World) (hG : GW w) (w0 : (Lit.int .i64 a0).wf = true) (w1 : a1.size ≤ 140737488351232) (w2 : (Lit.int .i64 a2).wf = true) (w3 : (Lit.int .i64 a3).wf = true) :
    Calls Tryz.prog 12 #[.int .i64 a0, .string a1, .int .i64 a2, .int .i64 a3] w fun e w' => e = .returned (.bool true) ∧ Below w.heap.size w w' := by
  obtain ⟨k, h⟩ := P a0 a1 a2 a3 w0 w1 w2 w3
  refine (scriptoriumlaw05_LeafHeadings.calls k a0 a1 a2 a3 true w  hG h).mono ?_
  rintro e w' ⟨rfl, hd⟩
  exact ⟨rfl, hd⟩

end Go.Proofs.YthdlibgiejpjeaaGreatDoor.LH
