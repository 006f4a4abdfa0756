import Derived.Test.YthdlibgiejpjeaaGreatDoorLinkC
import Derived.Deep.DeepCutAuto
import Derived.Deep.RegionHeld3
import Derived.Test.YthdlibgiejpjeaaGreatDoorLinkFe
import Derived.Test.YthdlibgiejpjeaaGreatDoorRefPure
/- LinkFront: the law's walk, over what its calls answer. -/
set_option linter.unusedVariables false
set_option linter.unusedSimpArgs false
namespace Go.Proofs.YthdlibgiejpjeaaGreatDoor.FrontW
open Go Go.RowKit Go.Proofs.YthdlibgiejpjeaaGreatDoor Go.Proofs.YthdlibgiejpjeaaGreatDoor.Given Go.Proofs.YthdlibgiejpjeaaGreatDoorW.PrintWords Go.Proofs.YthdlibgiejpjeaaGreatDoor.Spec Go.Proofs.YthdlibgiejpjeaaGreatDoor.PureAid
theorem ne_isEmpty (F : ByteArray) (h : F ≠ ⟨#[]⟩) : F.toList.isEmpty = false := by
  rw [Lib.toList_data, List.isEmpty_eq_false_iff]
  intro e
  obtain ⟨⟨l⟩⟩ := F
  replace e : l = [] := e
  subst e
  exact h rfl
/-- A world that the law's calls may be asked in. -/
def Ok (w W : World) : Prop := GW W ∧ Below w.heap.size w W
theorem fold_held (w : World) (p5 p7 : Nat) (F1 F2 F3 : ByteArray) (h : ∀ W, GW W → Calls Tryz.prog 46 #[.string F1] W fun e w' => e = .returned (.string F1) ∧ Below W.heap.size W w') :
    ∀ W, (W.cell? ⟨p5, 0, none⟩ = some (.string F1) ∧ W.cell? ⟨p5, 1, none⟩ = some (.string F2) ∧ W.cell? ⟨p5, 2, none⟩ = some (.string F3) ∧ W.cell? ⟨p7, 0, none⟩ = some (.string F1) ∧ W.cell? ⟨p7, 1, none⟩ = some (.string F2) ∧ W.cell? ⟨p7, 2, none⟩ = some (.string F3) ∧ Ok w W) →
      Calls Tryz.prog 46 #[.string F1] W fun e w' => e = .returned (.string F1) ∧ (w'.cell? ⟨p5, 0, none⟩ = some (.string F1) ∧ w'.cell? ⟨p5, 1, none⟩ = some (.string F2) ∧ w'.cell? ⟨p5, 2, none⟩ = some (.string F3) ∧ w'.cell? ⟨p7, 0, none⟩ = some (.string F1) ∧ w'.cell? ⟨p7, 1, none⟩ = some (.string F2) ∧ w'.cell? ⟨p7, 2, none⟩ = some (.string F3) ∧ Ok w w') := by
  intro W ⟨h0, h1, h2, h3, h4, h5, hg, hb⟩
  refine (h W hg).mono ?_
  rintro e w' ⟨rfl, hw⟩
  exact ⟨rfl, cell_below h0 hw, cell_below h1 hw, cell_below h2 hw, cell_below h3 hw, cell_below h4 hw, cell_below h5 hw, hg.below hw, hb.trans (hw.mono hb.size)⟩
set_option maxHeartbeats 8000000 in
set_option maxRecDepth 1000000 in
theorem front_core (A0 A1 P1 P2 P3 P4 La D T F1 F2 F3 : ByteArray) (i k m o : Nat) (w : World) (hG : GW w)
    (hsh : ∀ W, GW W → Calls Tryz.prog 41 #[] W fun e w' => e = .returned (.bool true) ∧ Below W.heap.size W w')
    (hL : ∀ W, GW W → Calls Tryz.prog 42 #[.string A0] W fun e w' => e = .returned (.tuple #[.string La, .int .i64 (i : Int)]) ∧ Below W.heap.size W w')
    (hs1 : 0 < i → ∀ W, (Instr.slice 9 (.string A0) none (some (.int .i64 (i : Int))) none).run Tryz.prog W = .ok (.string P1) W)
    (hL2 : 0 < i → ∀ W, GW W → Calls Tryz.prog 42 #[.string (P1 ++ A1)] W fun e w' => e = .returned (.tuple #[.string La, .int .i64 (i : Int)]) ∧ Below W.heap.size W w')
    (hs2 : 0 < i → ∀ W, (Instr.slice 9 (.string A0) (some (.int .i64 1)) (some (.int .i64 ((i : Int) - 1))) none).run Tryz.prog W = .ok (.string La) W)
    (hD : ∀ W, GW W → Calls Tryz.prog 43 #[.string A0] W fun e w' => e = .returned (.tuple #[.string D, .int .i64 (k : Int)]) ∧ Below W.heap.size W w')
    (hs3 : 0 < k → ∀ W, (Instr.slice 9 (.string A0) none (some (.int .i64 (k : Int))) none).run Tryz.prog W = .ok (.string P2) W)
    (hD2 : 0 < k → ∀ W, GW W → Calls Tryz.prog 43 #[.string ((P2 ++ ⟨#[32]⟩) ++ A1)] W fun e w' => e = .returned (.tuple #[.string D, .int .i64 (k : Int)]) ∧ Below W.heap.size W w')
    (hT : ∀ W, GW W → Calls Tryz.prog 44 #[.string A0] W fun e w' => e = .returned (.tuple #[.string T, .int .i64 (m : Int)]) ∧ Below W.heap.size W w')
    (hs4 : 0 < m → ∀ W, (Instr.slice 9 (.string A0) none (some (.int .i64 (m : Int))) none).run Tryz.prog W = .ok (.string P3) W)
    (hT2 : 0 < m → ∀ W, GW W → Calls Tryz.prog 44 #[.string (P3 ++ A1)] W fun e w' => e = .returned (.tuple #[.string T, .int .i64 (m : Int)]) ∧ Below W.heap.size W w')
    (hDf : ∀ W, GW W → Calls Tryz.prog 45 #[.string A0] W fun e w' => e = .returned (.tuple #[.agg #[.string F1, .string F2, .string F3], .int .i64 (o : Int)]) ∧ Below W.heap.size W w')
    (hs5 : 0 < o → ∀ W, (Instr.slice 9 (.string A0) none (some (.int .i64 (o : Int))) none).run Tryz.prog W = .ok (.string P4) W)
    (hDf2 : 0 < o → ∀ W, GW W → Calls Tryz.prog 45 #[.string P4] W fun e w' => e = .returned (.tuple #[.agg #[.string F1, .string F2, .string F3], .int .i64 (o : Int)]) ∧ Below W.heap.size W w')
    (hFo : 0 < o → ∀ W, GW W → Calls Tryz.prog 46 #[.string F1] W fun e w' => e = .returned (.string F1) ∧ Below W.heap.size W w')
    (hFn : 0 < o → F1 ≠ ⟨#[]⟩)
    (y1 : i ≤ A0.size) (y2 : k ≤ A0.size) (y3 : m ≤ A0.size) (y4 : o ≤ A0.size) (hl : A0.size ≤ 100000000) (x1 : P1.size + A1.size ≤ 9223372036854775807) (x2 : P2.size + 1 ≤ 9223372036854775807) (x3 : P2.size + 1 + A1.size ≤ 9223372036854775807) (x4 : P3.size + A1.size ≤ 9223372036854775807) :
    Calls Tryz.prog 16 #[.string A0, .string A1] w fun e w' => e = .returned (.bool true) ∧ Below w.heap.size w w' := by
  replace hsh := Lib.hid hsh
  replace hL := Lib.hid hL
  replace hs1 := Lib.hid hs1
  replace hL2 := Lib.hid hL2
  replace hs2 := Lib.hid hs2
  replace hD := Lib.hid hD
  replace hs3 := Lib.hid hs3
  replace hD2 := Lib.hid hD2
  replace hT := Lib.hid hT
  replace hs4 := Lib.hid hs4
  replace hT2 := Lib.hid hT2
  replace hDf := Lib.hid hDf
  replace hs5 := Lib.hid hs5
  replace hDf2 := Lib.hid hDf2
  replace hFo := Lib.hid hFo
  replace hFn := Lib.hid hFn
  have n1 : ¬ ((i : Int) < 0) := by omega
  have n2 : ¬ ((A0.size : Int) < (i : Int)) := by omega
  have n3 : ¬ ((k : Int) < 0) := by omega
  have n4 : ¬ ((A0.size : Int) < (k : Int)) := by omega
  have n5 : ¬ ((m : Int) < 0) := by omega
  have n6 : ¬ ((A0.size : Int) < (m : Int)) := by omega
  have n7 : ¬ ((o : Int) < 0) := by omega
  have n8 : ¬ ((A0.size : Int) < (o : Int)) := by omega
  have x3' : (P2 ++ (⟨#[32]⟩ : ByteArray)).size + A1.size ≤ 9223372036854775807 := by rw [ByteArray.size_append]; exact x3
  have hl' := Lib.hid hl; clear hl
  go_enter Tryz.func16, Tryz.ntmps16
  go_wp2_with fail
  refine (hsh.out _ hG).mono ?_
  rintro e w1 ⟨rfl, hb1⟩
  have hG1 := hG.below hb1
  have hk1 := Lib.hid hb1; clear hb1
  go_wp2_with fail
  refine (hL.out _ hG1).mono ?_
  rintro e w2 ⟨rfl, hb2⟩
  have hG2 := hG1.below hb2
  have hk2 := Lib.hid (hk1.out.trans (hb2.mono hk1.out.size)); clear hb2
  go_upto_if 41 with fail
  go_cut [] (fun wx => Below w.heap.size w wx)
  case first =>
    rcases Nat.eq_zero_or_pos i with h1 | h1
    · subst h1
      go_wp2_with fail
      go_meet
      exact hk2.out
    · have p1 : (0 : Int) < (i : Int) := by omega
      have hs1' := hs1.out h1
      have hs2' := hs2.out h1
      go_wp2_with fail
      refine (hL2.out h1 _ hG2).mono ?_
      rintro e w3 ⟨rfl, hb3⟩
      have hk3 := Lib.hid (hk2.out.trans (hb3.mono hk2.out.size)); clear hb3
      have hl := hl'.out
      go_wp2_with fail
      go_meet
      exact hk3.out
  case rest =>
    have hGc := hG.below hcut
    have hkc := Lib.hid hcut; clear hcut
    clear hk1 hk2 hG1 hG2
    go_wp2_with fail
    refine (hD.out _ hGc).mono ?_
    rintro e w3 ⟨rfl, hb3⟩
    have hG3 := hGc.below hb3
    have hk3 := Lib.hid (hkc.out.trans (hb3.mono hkc.out.size)); clear hb3
    go_upto_if 81 with fail
    go_cut [] (fun wx => Below w.heap.size w wx)
    case first =>
      rcases Nat.eq_zero_or_pos k with h1 | h1
      · subst h1
        go_wp2_with fail
        go_meet
        exact hk3.out
      · have p1 : (0 : Int) < (k : Int) := by omega
        have hs3' := hs3.out h1
        go_wp2_with fail
        refine (hD2.out h1 _ hG3).mono ?_
        rintro e w4 ⟨rfl, hb4⟩
        have hk4 := Lib.hid (hk3.out.trans (hb4.mono hk3.out.size)); clear hb4
        go_wp2_with fail
        go_meet
        exact hk4.out
    case rest =>
      have hGd := hG.below hcut
      have hkd := Lib.hid hcut; clear hcut
      clear hkc hk3 hG3 hGc
      go_wp2_with fail
      refine (hT.out _ hGd).mono ?_
      rintro e w4 ⟨rfl, hb4⟩
      have hG4 := hGd.below hb4
      have hk4 := Lib.hid (hkd.out.trans (hb4.mono hkd.out.size)); clear hb4
      go_upto_if 114 with fail
      go_cut [] (fun wx => Below w.heap.size w wx)
      case first =>
        rcases Nat.eq_zero_or_pos m with h1 | h1
        · subst h1
          go_wp2_with fail
          go_meet
          exact hk4.out
        · have p1 : (0 : Int) < (m : Int) := by omega
          have hs4' := hs4.out h1
          go_wp2_with fail
          refine (hT2.out h1 _ hG4).mono ?_
          rintro e w5 ⟨rfl, hb5⟩
          have hk5 := Lib.hid (hk4.out.trans (hb5.mono hk4.out.size)); clear hb5
          go_wp2_with fail
          go_meet
          exact hk5.out
      case rest =>
        have hGe := hG.below hcut
        have hke := Lib.hid hcut; clear hcut
        clear hkd hk4 hG4 hGd
        go_wp2_with fail
        refine (hDf.out _ hGe).mono ?_
        rintro e w5 ⟨rfl, hb5⟩
        have hG5 := hGe.below hb5
        have hk5 := Lib.hid (hke.out.trans (hb5.mono hke.out.size)); clear hb5
        have hc5 : ∀ q, (w5.alloc (.cells #[.string F1, .string F2, .string F3] 48)).cell? ⟨w5.heap.size, q, none⟩ = #[Value.string F1, .string F2, .string F3][q]? := fun q => World.cell?_alloc_new _ _ _ _
        have qa := (Below.refl _ w5).alloc (Nat.le_refl _) (.cells #[.string F1, .string F2, .string F3] 48)
        have hG6 := hG5.below qa
        have hk6 := Lib.hid (hk5.out.trans (qa.mono hk5.out.size)); clear qa
        go_upto_if 146 with fail
        go_cut [] (fun wx => Below w.heap.size w wx)
        case first =>
          rcases Nat.eq_zero_or_pos o with h1 | h1
          · subst h1
            go_wp2_with fail
            go_meet
            exact hk6.out
          · have p1 : (0 : Int) < (o : Int) := by omega
            have hs5' := hs5.out h1
            generalize hW6 : w5.alloc (.cells #[.string F1, .string F2, .string F3] 48) = W6 at *
            have hW6' := Lib.hid hW6; clear hW6
            have hc5' := Lib.hid hc5; clear hc5
            go_wp2_with fail
            refine (hDf2.out h1 _ hG6).mono ?_
            rintro e w7 ⟨rfl, hb7⟩
            have hG7 := hG6.below hb7
            have hk7 := Lib.hid (hk6.out.trans (hb7.mono hk6.out.size))
            have g0 := cell_below (hc5'.out 0) hb7
            have g1 := cell_below (hc5'.out 1) hb7
            have g2 := cell_below (hc5'.out 2) hb7
            clear hb7
            have hd7 : ∀ q, (w7.alloc (.cells #[.string F1, .string F2, .string F3] 48)).cell? ⟨w7.heap.size, q, none⟩ = #[Value.string F1, .string F2, .string F3][q]? := fun q => World.cell?_alloc_new _ _ _ _
            have qb := (Below.refl _ w7).alloc (Nat.le_refl _) (.cells #[.string F1, .string F2, .string F3] 48)
            have hG8 := hG7.below qb
            have hk8 := Lib.hid (hk7.out.trans (qb.mono hk7.out.size))
            have m0 := cell_below g0 qb
            have m1 := cell_below g1 qb
            have m2 := cell_below g2 qb
            have d0 := hd7 0
            have d1 := hd7 1
            have d2 := hd7 2
            clear qb g0 g1 g2 hd7
            replace m0 : _ = some (Value.string F1) := m0
            replace m1 : _ = some (Value.string F2) := m1
            replace m2 : _ = some (Value.string F3) := m2
            replace d0 : _ = some (Value.string F1) := d0
            replace d1 : _ = some (Value.string F2) := d1
            replace d2 : _ = some (Value.string F3) := d2
            go_upto_region 28 with fail
            have hdr := (Below.refl (w7.alloc (.cells #[.string F1, .string F2, .string F3] 48)).heap.size (w7.alloc (.cells #[.string F1, .string F2, .string F3] 48))).drew
            have hok : Ok w (w7.alloc (.cells #[.string F1, .string F2, .string F3] 48)) := ⟨hG8, hk8.out⟩
            have hok' : Ok w (w7.alloc (.cells #[.string F1, .string F2, .string F3] 48)).drew := ⟨hG8.below hdr, hk8.out.trans (hdr.mono hk8.out.size)⟩
            clear hdr
            have hne := ne_isEmpty F1 (hFn.out h1)
            generalize hW8 : w7.alloc (.cells #[.string F1, .string F2, .string F3] 48) = W8 at *
            have hW8' := Lib.hid hW8; clear hW8
            have hcall := Lib.hid (fold_held w w5.heap.size w7.heap.size F1 F2 F3 (hFo.out h1))
            go_cut [174] (fun v wx => v = .bool false ∧ Below w.heap.size w wx)
            case first =>
              go_region_held3 (fun W => W.cell? ⟨w5.heap.size, 0, none⟩ = some (.string F1) ∧ W.cell? ⟨w5.heap.size, 1, none⟩ = some (.string F2) ∧ W.cell? ⟨w5.heap.size, 2, none⟩ = some (.string F3) ∧ W.cell? ⟨w7.heap.size, 0, none⟩ = some (.string F1) ∧ W.cell? ⟨w7.heap.size, 1, none⟩ = some (.string F2) ∧ W.cell? ⟨w7.heap.size, 2, none⟩ = some (.string F3) ∧ Ok w W)
                (first | exact ⟨m0, m1, m2, d0, d1, d2, hok⟩ | exact ⟨m0, m1, m2, d0, d1, d2, hok'⟩ | assumption | (simp [*]; done))
                (first | (go_at_call 46; refine (hcall.out _ ?_).mono ?_; (first | exact ⟨m0, m1, m2, d0, d1, d2, hok'⟩ | assumption | (simp [*]; done)); rintro e w9 ⟨rfl, hS⟩))
              all_goals go_wp2_with fail
              all_goals go_meet
              all_goals exact ⟨by first | rfl | rw [hne], hS.2.2.2.2.2.2.2⟩
            case rest =>
              obtain ⟨rfl, hcx⟩ := hcut
              have hcx' := Lib.hid hcx; clear hcx
              go_wp2_with fail
              go_meet
              exact hcx'.out
        case rest =>
          have hkz := Lib.hid hcut; clear hcut
          go_wp2_with fail
          go_ret
          exact ⟨rfl, hkz.out⟩
end Go.Proofs.YthdlibgiejpjeaaGreatDoor.FrontW

/- LinkFront: what its calls answer, joined with its walk. -/
set_option linter.unusedVariables false
set_option linter.unusedSimpArgs false
namespace Go.Proofs.YthdlibgiejpjeaaGreatDoor.FrontW
open Go Go.RowKit Go.Proofs.YthdlibgiejpjeaaGreatDoor Go.Proofs.YthdlibgiejpjeaaGreatDoor.Given Go.Proofs.YthdlibgiejpjeaaGreatDoorW.PrintWords Go.Proofs.YthdlibgiejpjeaaGreatDoor.Spec Go.Proofs.YthdlibgiejpjeaaGreatDoor.PureAid Go.Proofs.YthdlibgiejpjeaaGreatDoor.LN Go.Proofs.YthdlibgiejpjeaaGreatDoor.RefPure
theorem shown_f : scriptoriumlaw06_shown.f = some true := by decide +kernel
theorem refFold_calls (l : List UInt8) (hl : l.length ≤ 1000000000) (W : World) (hG : GW W) : Calls Tryz.prog 46 #[.string (mkB l)] W fun e w' => e = .returned (.string (mkB (Fold.fold l))) ∧ Below W.heap.size W w' :=
  scriptoriumref01_Fold.calls _ _ _ W hG (fold_f l hl (l.length + 9) (Nat.le_refl _))
theorem label_min (l : List UInt8) (h : 0 < (label l).2) : 2 ≤ (label l).2 := by
  cases l with
  | nil => exact absurd h (by decide)
  | cons c r =>
    by_cases hc : c = 91
    · subst hc
      have hL : ∀ r, label (91 :: r) = match untilS [93] [91] r with | none => ([], 0) | some n => if n ≤ 999 ∧ Fold.fold (r.take n) ≠ [] then (r.take n, n + 2) else ([], 0) := fun r => rfl
      rw [hL] at h ⊢
      cases hu : untilS [93] [91] r with
      | none => rw [hu] at h; exact absurd h (Nat.lt_irrefl 0)
      | some n =>
        rw [hu] at h
        dsimp only at h ⊢
        by_cases hn : n ≤ 999 ∧ Fold.fold (r.take n) ≠ []
        · rw [if_pos hn]; show 2 ≤ n + 2; omega
        · rw [if_neg hn] at h; exact absurd h (by decide)
    · have : label (c :: r) = ([], 0) := by show (if c = 91 then _ else _) = _; rw [if_neg hc]
      rw [this] at h; exact absurd h (by decide)
theorem tail_fst (F D z : List UInt8) (len : Nat) : (defTail F D z len).1 = F ∨ (defTail F D z len).1 = [] := by
  unfold defTail
  repeat' split
  · exact .inl rfl
  · exact .inl rfl
  · exact .inr rfl
theorem go_fst (x : List UInt8) (len : Nat) : (defGo x len).1 = Fold.fold (label x).1 ∨ (defGo x len).1 = [] := by
  obtain ⟨F, hF⟩ : ∃ F, Fold.fold (label x).1 = F := ⟨_, rfl⟩
  unfold defGo
  rw [hF]
  generalize (dest (gapRest (x.drop ((label x).2 + 1)))).1 = D
  generalize (gapRest (x.drop ((label x).2 + 1))).drop (dest (gapRest (x.drop ((label x).2 + 1)))).2 = z
  generalize (dest (gapRest (x.drop ((label x).2 + 1)))).2 = n
  repeat' split
  · exact .inr rfl
  · exact .inr rfl
  · exact .inr rfl
  · exact tail_fst F D z len
theorem define_fold_len (l : List UInt8) : (defineS l).1.length ≤ 7992 := by
  rw [defineS_go]
  generalize strip1 (strip1 (strip1 l)) = x
  obtain ⟨_, hx⟩ := label_le x
  have hf := Fold.fold_len (label x).1
  rcases go_fst x l.length with h | h
  · rw [h]; omega
  · rw [h]; exact Nat.zero_le _
theorem front_calls (s b : List UInt8) (hs : s.length ≤ 2000000) (hb : b.length ≤ 2000000) (w : World) (hG : GW w) :
    Calls Tryz.prog 16 #[.string (mkB s), .string (mkB b)] w fun e w' => e = .returned (.bool true) ∧ Below w.heap.size w w' := by
  have l1 := (label_le s).1
  have l2 := dest_le s
  have l3 := titleG_le s
  have hz : (mkB s).size = s.length := mkB_size s
  have hzb : (mkB b).size = b.length := mkB_size b
  have zt : ∀ n, (mkB (s.take n)).size ≤ s.length := fun n => by rw [mkB_size, List.length_take]; omega
  have lt : ∀ n, (s.take n).length ≤ s.length := fun n => by rw [List.length_take]; omega
  have l4 : (defineS s).2.2.2 ≤ s.length := by
    rcases Nat.eq_zero_or_pos (defineS s).2.2.2 with h | h
    · omega
    · exact (define_take s h).2.1
  have ap : ∀ x : List UInt8, mkB x ++ mkB b = mkB (x ++ b) := fun x => mkB_append x b
  have lap : ∀ n, (s.take n ++ b).length ≤ 1000000000 := fun n => by rw [List.length_append]; have := lt n; omega
  refine front_core (mkB s) (mkB b) (mkB (s.take (label s).2)) (mkB (s.take (dest s).2)) (mkB (s.take (titleG s).2)) (mkB (s.take (defineS s).2.2.2)) (mkB (label s).1) (mkB (dest s).1) (mkB (titleG s).1)
    (mkB (defineS s).1) (mkB (defineS s).2.1) (mkB (defineS s).2.2.1) (label s).2 (dest s).2 (titleG s).2 (defineS s).2.2.2 w hG
    (fun W hW => scriptoriumlaw06_shown.calls true W hW shown_f)
    (fun W hW => label_calls s W hW (by omega))
    (fun h W => sl_to s _ l1 W)
    (fun h W hW => ?_)
    (fun h W => ?_)
    (fun W hW => dest_calls s W hW (by omega))
    (fun h W => sl_to s _ l2 W)
    (fun h W hW => ?_)
    (fun W hW => titleG_calls s W hW (by omega))
    (fun h W => sl_to s _ l3 W)
    (fun h W hW => ?_)
    (fun W hW => defineG_calls s W hW (by omega))
    (fun h W => sl_to s _ l4 W)
    (fun h W hW => ?_)
    (fun h W hW => ?_)
    (fun h => ?_)
    (by omega) (by omega) (by omega) (by omega) (by omega)
    (by have := zt (label s).2; omega) (by have := zt (dest s).2; omega) (by have := zt (dest s).2; omega) (by have := zt (titleG s).2; omega)
  · have h1 := (label_front s b h).1
    have h2 := label_calls (s.take (label s).2 ++ b) W hW (lap _)
    rw [h1] at h2
    rw [ap]; exact h2
  · have h1 := (label_front s b h).2
    have h2 := sl_mid s 1 ((label s).2 - 1) (by
      have := label_min s h; omega) (by omega) W
    rw [← List.drop_take, h1] at h2
    rw [show ((label s).2 : Int) - 1 = (((label s).2 - 1 : Nat) : Int) by omega]
    exact h2
  · have h1 := dest_blank s b h
    have h2 := dest_calls (s.take (dest s).2 ++ 32 :: b) W hW (by rw [List.length_append, List.length_cons]; have := lt (dest s).2; omega)
    rw [h1] at h2
    have e : (mkB (s.take (dest s).2) ++ (⟨#[32]⟩ : ByteArray)) ++ mkB b = mkB (s.take (dest s).2 ++ 32 :: b) := by
      show (mkB (s.take (dest s).2) ++ mkB [32]) ++ mkB b = _
      rw [mkB_append, mkB_append]; simp
    rw [e]; exact h2
  · have h1 := titleG_front s b h
    have h2 := titleG_calls (s.take (titleG s).2 ++ b) W hW (lap _)
    rw [h1] at h2
    rw [ap]; exact h2
  · have h1 := (define_take s h).1
    have h2 := defineG_calls (s.take (defineS s).2.2.2) W hW (by have := lt (defineS s).2.2.2; omega)
    rw [h1] at h2; exact h2
  · obtain ⟨_, _, t, ht, hne⟩ := define_take s h
    have hlen : (defineS s).1.length ≤ 1000000000 := Nat.le_trans (define_fold_len s) (by decide)
    have h2 := refFold_calls (defineS s).1 hlen W hW
    have h3 : Fold.fold (defineS s).1 = (defineS s).1 := by rw [ht, Fold.fold_fold]
    rw [h3] at h2; exact h2
  · obtain ⟨_, _, t, ht, hne⟩ := define_take s h
    intro e
    have := congrArg (fun z : ByteArray => z.data.toList) e
    rw [ht] at this
    exact hne (by simpa [mkB_data] using this)
end Go.Proofs.YthdlibgiejpjeaaGreatDoor.FrontW

