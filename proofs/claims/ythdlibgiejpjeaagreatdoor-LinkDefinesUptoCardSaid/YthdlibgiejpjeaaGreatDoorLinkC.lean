import Derived.Test.YthdlibgiejpjeaaGreatDoorLinkA
import Derived.Test.YthdlibgiejpjeaaGreatDoorUnescape
import Derived.WalkMore
import Derived.Test.YthdlibgiejpjeaaGreatDoorShelfD
import Derived.Lib.IndexAny
import Derived.Test.YthdlibgiejpjeaaGreatDoorGenUse
import Derived.Test.YthdlibgiejpjeaaGreatDoorMorePure
/- The contract of link.Dest. -/
set_option linter.unusedVariables false
set_option linter.unusedSimpArgs false
namespace Go.Proofs.YthdlibgiejpjeaaGreatDoor.Spec
open Go
def destOf (A : Option (Nat × Nat)) (l : List UInt8) : List UInt8 × Nat := match A with
  | none => ([], 0)
  | some (o, n) => if n = 0 ∨ 0 < o then ([], 0) else (unescape (l.take n), n)
theorem dest_eq (l : List UInt8) (h : l.head? ≠ some 60) : dest l = destOf (bare l 0 0) l := by
  unfold dest
  split
  · exact absurd rfl h
  · rfl
theorem bare_nil (o n : Nat) : bare [] o n = some (o, n) := rfl
theorem bare_stop (c : UInt8) (r : List UInt8) (o n : Nat) (h : c ≤ 32 ∨ c = 127) : bare (c :: r) o n = some (o, n) := by
  cases r with
  | nil => rw [bare, if_pos h]
  | cons d s => rw [bare, if_pos h]
theorem bare_skip (d : UInt8) (s : List UInt8) (o n : Nat) (hd : markC d = true) : bare (92 :: d :: s) o n = bare s o (n + 2) := by
  rw [bare, if_neg (by decide), if_pos ⟨rfl, hd⟩]
theorem bare_more (c : UInt8) (r : List UInt8) (o n : Nat) (h : ¬ (c ≤ 32 ∨ c = 127)) (h2 : ∀ d s, r = d :: s → ¬ (c = 92 ∧ markC d = true)) :
    bare (c :: r) o n = if c = 40 then (if 32 < o + 1 then none else bare r (o + 1) (n + 1)) else if c = 41 then (if o = 0 then some (o, n) else bare r (o - 1) (n + 1)) else bare r o (n + 1) := by
  cases r with
  | nil =>
    show (if c ≤ 32 ∨ c = 127 then some (o, n) else if c = 40 then (if 32 < o + 1 then none else some (o + 1, n + 1)) else if c = 41 then (if o = 0 then some (o, n) else some (o - 1, n + 1)) else some (o, n + 1)) = _
    rw [if_neg h]; rfl
  | cons d s => rw [bare, if_neg h, if_neg (h2 d s rfl)]
end Go.Proofs.YthdlibgiejpjeaaGreatDoor.Spec
namespace Go.Proofs.YthdlibgiejpjeaaGreatDoor.Given
open Go Go.RowKit Go.Proofs.YthdlibgiejpjeaaGreatDoor Go.Proofs.YthdlibgiejpjeaaGreatDoorW.PrintWords Go.Proofs.YthdlibgiejpjeaaGreatDoor.Spec Go.Proofs.YthdlibgiejpjeaaGreatDoor.PureAid

set_option maxHeartbeats 16000000 in
set_option maxRecDepth 1000000 in
theorem dest_bare (l : List UInt8) (w : World) (hG : GW w) (hl : l.length ≤ 1000000000) (h60 : l.head? ≠ some 60) :
    Calls Tryz.prog 43 #[.string (mkB l)] w fun e w' => e = .returned (.tuple #[.string (mkB (dest l).1), .int .i64 (((dest l).2 : Nat) : Int)]) ∧ Below w.heap.size w w' := by
  have hs := mkB_size l
  obtain ⟨A, hA⟩ : ∃ A, bare l 0 0 = A := ⟨_, rfl⟩
  obtain ⟨D, hD⟩ : ∃ D, dest l = D := ⟨_, rfl⟩
  have hE : D = destOf A l := by rw [← hD, ← hA]; exact dest_eq l h60
  rw [hD]
  have hE' := Lib.hid hE; clear hE
  have hA' := Lib.hid hA; clear hA hD
  have hG' := Lib.hid hG; clear hG
  go_enter Tryz.func43, Tryz.ntmps43
  go_wp2_with fail
  go_step3
  go_wp2_with fail
  refine (cutp_miss 60 l h60 w).mono ?_
  rintro e w1 ⟨rfl, hww⟩
  have hww := hww.symm
  subst hww
  go_wp2_with fail
  go_step3
  go_wp2_with fail
  go_loopw [8, 9] (fun op nn wr => ∃ o n : Nat, op = .int .i64 (o : Int) ∧ nn = .int .i64 (n : Int) ∧ n ≤ l.length ∧ o ≤ 32 ∧ Below w.heap.size w wr ∧ A = bare (l.drop n) o n) (fun _ nn _ => l.length + 1 - (intOf nn).toNat)
  case atStart => exact ⟨0, 0, rfl, rfl, Nat.zero_le _, by omega, Below.refl _ _, hA'.out.symm⟩
  case round =>
    obtain ⟨o, n, rfl, rfl, hnl, ho32, hbw, hst⟩ := hrel
    have hst' := Lib.hid hst; clear hst
    have hbw' := Lib.hid hbw; clear hbw
    by_cases hlt : n < l.length
    · obtain ⟨c, r, hr⟩ : ∃ c r, l.drop n = c :: r := ⟨_, _, List.drop_eq_getElem_cons hlt⟩
      have hi := at_i l n c r hr
      have hnx : l.drop (n + 1) = r := drop_next hr
      by_cases hstop : c ≤ 32 ∨ c = 127
      · have hAe' := Lib.hid (show A = some (o, n) by rw [hst'.out, hr]; exact bare_stop c r o n hstop)
        have hcs : c.toNat ≤ 32 ∨ (c.toNat = 127 ∧ ¬ c.toNat ≤ 32) := by
          rcases hstop with h | h
          · exact .inl (UInt8.le_iff_toNat_le.1 h)
          · exact .inr ⟨by rw [h]; rfl, by rw [h]; decide⟩
        clear hstop
        rcases hcs with hcs | ⟨hcs, hcs2⟩
        · (
        rcases Nat.eq_zero_or_pos n with hn0 | hn0
        · have hz : ((n : Int) == 0) = true := by simp; omega
          have hR := Lib.hid (show destOf (some (o, n)) l = ([], 0) by show (if n = 0 ∨ 0 < o then _ else _) = _; rw [if_pos (.inl hn0)])
          clear hn0
          go_wp2_with fail
          (try rw [Exit.noGoto_ret])
          (try go_wp2_with fail)
          go_ret2
          exact ⟨by rw [hE'.out, hAe'.out, hR.out]; rfl, hbw'.out⟩
        · have hz : ((n : Int) == 0) = false := by simp; omega
          rcases Nat.eq_zero_or_pos o with ho0 | ho0
          · have hz2 : ¬ ((0 : Int) < (o : Int)) := by omega
            have hsl := sl_to l n hnl
            have hU := Lib.hid (fun W (hW : GW W) => unescape_calls (l.take n) W hW (by rw [List.length_take]; omega))
            have hR := Lib.hid (show destOf (some (o, n)) l = (unescape (l.take n), n) by show (if n = 0 ∨ 0 < o then _ else _) = _; rw [if_neg (by omega)])
            clear hn0
            go_wp2_with fail
            refine (hU.out _ (hG'.out.below hbw'.out)).mono ?_
            rintro e w9 ⟨rfl, hb9⟩
            have hb9' := Lib.hid (hbw'.out.trans (hb9.mono hbw'.out.size))
            clear hb9
            go_wp2_with fail
            (try rw [Exit.noGoto_ret])
            (try go_wp2_with fail)
            go_ret2
            exact ⟨by rw [hE'.out, hAe'.out, hR.out]; rfl, hb9'.out⟩
          · first
            | (exfalso; omega)
            | (have hR := Lib.hid (show destOf (some (o, n)) l = ([], 0) by show (if n = 0 ∨ 0 < o then _ else _) = _; rw [if_pos (.inr ho0)])
               clear hn0
               go_wp2_with fail
               (try rw [Exit.noGoto_ret])
               (try go_wp2_with fail)
               go_ret2
               exact ⟨by rw [hE'.out, hAe'.out, hR.out]; rfl, hbw'.out⟩))
        · (
        rcases Nat.eq_zero_or_pos n with hn0 | hn0
        · have hz : ((n : Int) == 0) = true := by simp; omega
          have hR := Lib.hid (show destOf (some (o, n)) l = ([], 0) by show (if n = 0 ∨ 0 < o then _ else _) = _; rw [if_pos (.inl hn0)])
          clear hn0
          go_wp2_with fail
          (try rw [Exit.noGoto_ret])
          (try go_wp2_with fail)
          go_ret2
          exact ⟨by rw [hE'.out, hAe'.out, hR.out]; rfl, hbw'.out⟩
        · have hz : ((n : Int) == 0) = false := by simp; omega
          rcases Nat.eq_zero_or_pos o with ho0 | ho0
          · have hz2 : ¬ ((0 : Int) < (o : Int)) := by omega
            have hsl := sl_to l n hnl
            have hU := Lib.hid (fun W (hW : GW W) => unescape_calls (l.take n) W hW (by rw [List.length_take]; omega))
            have hR := Lib.hid (show destOf (some (o, n)) l = (unescape (l.take n), n) by show (if n = 0 ∨ 0 < o then _ else _) = _; rw [if_neg (by omega)])
            clear hn0
            go_wp2_with fail
            refine (hU.out _ (hG'.out.below hbw'.out)).mono ?_
            rintro e w9 ⟨rfl, hb9⟩
            have hb9' := Lib.hid (hbw'.out.trans (hb9.mono hbw'.out.size))
            clear hb9
            go_wp2_with fail
            (try rw [Exit.noGoto_ret])
            (try go_wp2_with fail)
            go_ret2
            exact ⟨by rw [hE'.out, hAe'.out, hR.out]; rfl, hb9'.out⟩
          · first
            | (exfalso; omega)
            | (have hR := Lib.hid (show destOf (some (o, n)) l = ([], 0) by show (if n = 0 ∨ 0 < o then _ else _) = _; rw [if_pos (.inr ho0)])
               clear hn0
               go_wp2_with fail
               (try rw [Exit.noGoto_ret])
               (try go_wp2_with fail)
               go_ret2
               exact ⟨by rw [hE'.out, hAe'.out, hR.out]; rfl, hbw'.out⟩))
      · have hc32 : ¬ c.toNat ≤ 32 := fun h => hstop (.inl (UInt8.le_iff_toNat_le.2 h))
        have hc127 : ¬ c.toNat = 127 := fun h => hstop (.inr (UInt8.toNat_inj.1 h))
        have hw := Lib.hid (fun h2 => hst'.out.trans ((congrArg (fun x => bare x o n) hr).trans (bare_more c r o n hstop h2)))
        clear hstop
        by_cases hesc : ∃ d s, r = d :: s ∧ c = 92 ∧ markC d = true
        · obtain ⟨d, s, rfl, rfl, hm⟩ := hesc
          have hi1 : ∀ W, (Instr.index 9 (.string (mkB l)) (.int .i64 ((n : Int) + 1))).run Tryz.prog W = .ok (.int .u8 (d.toNat : Int)) W := at_i l (n + 1) d s hnx
          have hlen := drop_lt hnx
          have hmk := runes_Mark.calls (d.toNat : Int) true wr (hG'.out.below hbw'.out) (by unfold runes_Mark.f; rw [show ((d.toNat : Nat) : Int).toNat.toUInt8 = d by simp, hm])
          have hmk' := Lib.hid hmk; clear hmk
          have hnew := Lib.hid (show A = bare (l.drop (n + 2)) o (n + 2) by
            rw [hst'.out, hr, bare_skip d s o n hm, show n + 2 = (n + 1) + 1 from rfl, drop_next hnx])
          go_wp2_with fail
          refine hmk'.out.mono ?_
          rintro e w3 ⟨rfl, hb3⟩
          have hb4 := hbw'.out.trans (hb3.below.mono hbw'.out.size)
          have hb4' := Lib.hid hb4; clear hb4 hb3
          go_wp2_with fail
          exact ⟨⟨o, n + 2, rfl, by go_num, by omega, ho32, hb4'.out, hnew.out⟩, by simp [intOf]; omega⟩
        · have h2 : ∀ d s, r = d :: s → ¬ (c = 92 ∧ markC d = true) := fun d s hd hc => hesc ⟨d, s, hd, hc⟩
          have hw2 := Lib.hid (hw.out h2)
          clear hw
          by_cases h92 : c = 92
          · subst h92
            have hnew := Lib.hid (show A = bare (l.drop (n + 1)) o (n + 1) by rw [hw2.out, if_neg (by decide), if_neg (by decide), hnx])
            clear hw2
            cases r with
            | nil =>
              have hend := drop_end hnx
              have hge : ¬ ((n : Int) + 1 < (l.length : Int)) := by omega
              go_wp2_with fail
              exact ⟨⟨o, n + 1, rfl, by go_num, by omega, ho32, hbw'.out, hnew.out⟩, by simp [intOf]; omega⟩
            | cons d s =>
              have hm : markC d = false := Bool.eq_false_iff.2 (fun h => h2 d s rfl ⟨rfl, h⟩)
              have hi1 : ∀ W, (Instr.index 9 (.string (mkB l)) (.int .i64 ((n : Int) + 1))).run Tryz.prog W = .ok (.int .u8 (d.toNat : Int)) W := at_i l (n + 1) d s hnx
              have hlen := drop_lt hnx
              have hlen2 : (n : Int) + 1 < (l.length : Int) := by omega
              have hmk := runes_Mark.calls (d.toNat : Int) false wr (hG'.out.below hbw'.out) (by unfold runes_Mark.f; rw [show ((d.toNat : Nat) : Int).toNat.toUInt8 = d by simp, hm])
              have hmk' := Lib.hid hmk; clear hmk
              go_wp2_with fail
              refine hmk'.out.mono ?_
              rintro e w3 ⟨rfl, hb3⟩
              have hb4' := Lib.hid (hbw'.out.trans (hb3.below.mono hbw'.out.size)); clear hb3
              go_wp2_with fail
              exact ⟨⟨o, n + 1, rfl, by go_num, by omega, ho32, hb4'.out, hnew.out⟩, by simp [intOf]; omega⟩
          · have hn92 : ¬ ((c.toNat : Int) = 92) := fun e => h92 (UInt8.toNat_inj.1 (by show c.toNat = 92; omega))
            by_cases h40 : c = 40
            · subst h40
              by_cases ho : 32 < o + 1
              · have hnone := Lib.hid (show D = ([], 0) by rw [hE'.out, hw2.out, if_pos rfl, if_pos ho]; rfl)
                clear hw2
                have ho' : (32 : Int) < (o : Int) + 1 := by omega
                go_wp2_with fail
                (try rw [Exit.noGoto_ret])
                (try go_wp2_with fail)
                go_ret2
                exact ⟨by rw [hnone.out]; rfl, hbw'.out⟩
              · have hnew := Lib.hid (show A = bare (l.drop (n + 1)) (o + 1) (n + 1) by rw [hw2.out, if_pos rfl, if_neg ho, hnx])
                clear hw2
                have ho' : ¬ ((32 : Int) < (o : Int) + 1) := by omega
                go_wp2_with fail
                exact ⟨⟨o + 1, n + 1, by go_num, by go_num, by omega, by omega, hbw'.out, hnew.out⟩, by simp [intOf]; omega⟩
            · have hn40 : ¬ ((c.toNat : Int) = 40) := fun e => h40 (UInt8.toNat_inj.1 (by show c.toNat = 40; omega))
              by_cases h41 : c = 41
              · subst h41
                rcases Nat.eq_zero_or_pos o with hoz | hop
                · have hAe' := Lib.hid (show A = some (o, n) by rw [hw2.out, if_neg (by decide), if_pos rfl, if_pos hoz])
                  have hoz' : ((o : Int) == 0) = true := by simp; omega
                  clear hw2
                  (
        rcases Nat.eq_zero_or_pos n with hn0 | hn0
        · have hz : ((n : Int) == 0) = true := by simp; omega
          have hR := Lib.hid (show destOf (some (o, n)) l = ([], 0) by show (if n = 0 ∨ 0 < o then _ else _) = _; rw [if_pos (.inl hn0)])
          clear hn0
          go_wp2_with fail
          (try rw [Exit.noGoto_ret])
          (try go_wp2_with fail)
          go_ret2
          exact ⟨by rw [hE'.out, hAe'.out, hR.out]; rfl, hbw'.out⟩
        · have hz : ((n : Int) == 0) = false := by simp; omega
          rcases Nat.eq_zero_or_pos o with ho0 | ho0
          · have hz2 : ¬ ((0 : Int) < (o : Int)) := by omega
            have hsl := sl_to l n hnl
            have hU := Lib.hid (fun W (hW : GW W) => unescape_calls (l.take n) W hW (by rw [List.length_take]; omega))
            have hR := Lib.hid (show destOf (some (o, n)) l = (unescape (l.take n), n) by show (if n = 0 ∨ 0 < o then _ else _) = _; rw [if_neg (by omega)])
            clear hn0
            go_wp2_with fail
            refine (hU.out _ (hG'.out.below hbw'.out)).mono ?_
            rintro e w9 ⟨rfl, hb9⟩
            have hb9' := Lib.hid (hbw'.out.trans (hb9.mono hbw'.out.size))
            clear hb9
            go_wp2_with fail
            (try rw [Exit.noGoto_ret])
            (try go_wp2_with fail)
            go_ret2
            exact ⟨by rw [hE'.out, hAe'.out, hR.out]; rfl, hb9'.out⟩
          · first
            | (exfalso; omega)
            | (have hR := Lib.hid (show destOf (some (o, n)) l = ([], 0) by show (if n = 0 ∨ 0 < o then _ else _) = _; rw [if_pos (.inr ho0)])
               clear hn0
               go_wp2_with fail
               (try rw [Exit.noGoto_ret])
               (try go_wp2_with fail)
               go_ret2
               exact ⟨by rw [hE'.out, hAe'.out, hR.out]; rfl, hbw'.out⟩))
                · have hnew := Lib.hid (show A = bare (l.drop (n + 1)) (o - 1) (n + 1) by rw [hw2.out, if_neg (by decide), if_pos rfl, if_neg (by omega), hnx])
                  have hoz' : ((o : Int) == 0) = false := by simp; omega
                  clear hw2
                  go_wp2_with fail
                  exact ⟨⟨o - 1, n + 1, by go_num, by go_num, by omega, by omega, hbw'.out, hnew.out⟩, by simp [intOf]; omega⟩
              · have hn41 : ¬ ((c.toNat : Int) = 41) := fun e => h41 (UInt8.toNat_inj.1 (by show c.toNat = 41; omega))
                have hnew := Lib.hid (show A = bare (l.drop (n + 1)) o (n + 1) by rw [hw2.out, if_neg h40, if_neg h41, hnx])
                clear hw2
                go_wp2_with fail
                exact ⟨⟨o, n + 1, rfl, by go_num, by omega, ho32, hbw'.out, hnew.out⟩, by simp [intOf]; omega⟩
    · have hne : n = l.length := by omega
      have hAe' := Lib.hid (show A = some (o, n) by rw [hst'.out, hne, List.drop_length]; rfl)
      have hge : ¬ n < l.length := hlt
      clear hne
      (
        rcases Nat.eq_zero_or_pos n with hn0 | hn0
        · have hz : ((n : Int) == 0) = true := by simp; omega
          have hR := Lib.hid (show destOf (some (o, n)) l = ([], 0) by show (if n = 0 ∨ 0 < o then _ else _) = _; rw [if_pos (.inl hn0)])
          clear hn0
          go_wp2_with fail
          (try rw [Exit.noGoto_ret])
          (try go_wp2_with fail)
          go_ret2
          exact ⟨by rw [hE'.out, hAe'.out, hR.out]; rfl, hbw'.out⟩
        · have hz : ((n : Int) == 0) = false := by simp; omega
          rcases Nat.eq_zero_or_pos o with ho0 | ho0
          · have hz2 : ¬ ((0 : Int) < (o : Int)) := by omega
            have hsl := sl_to l n hnl
            have hU := Lib.hid (fun W (hW : GW W) => unescape_calls (l.take n) W hW (by rw [List.length_take]; omega))
            have hR := Lib.hid (show destOf (some (o, n)) l = (unescape (l.take n), n) by show (if n = 0 ∨ 0 < o then _ else _) = _; rw [if_neg (by omega)])
            clear hn0
            go_wp2_with fail
            refine (hU.out _ (hG'.out.below hbw'.out)).mono ?_
            rintro e w9 ⟨rfl, hb9⟩
            have hb9' := Lib.hid (hbw'.out.trans (hb9.mono hbw'.out.size))
            clear hb9
            go_wp2_with fail
            (try rw [Exit.noGoto_ret])
            (try go_wp2_with fail)
            go_ret2
            exact ⟨by rw [hE'.out, hAe'.out, hR.out]; rfl, hb9'.out⟩
          · first
            | (exfalso; omega)
            | (have hR := Lib.hid (show destOf (some (o, n)) l = ([], 0) by show (if n = 0 ∨ 0 < o then _ else _) = _; rw [if_pos (.inr ho0)])
               clear hn0
               go_wp2_with fail
               (try rw [Exit.noGoto_ret])
               (try go_wp2_with fail)
               go_ret2
               exact ⟨by rw [hE'.out, hAe'.out, hR.out]; rfl, hbw'.out⟩))

set_option maxHeartbeats 4000000 in
set_option maxRecDepth 1000000 in
theorem dest_angle (r : List UInt8) (w : World) (hG : GW w) (hl : r.length < 1000000000) :
    Calls Tryz.prog 43 #[.string (mkB (60 :: r))] w fun e w' => e = .returned (.tuple #[.string (mkB (dest (60 :: r)).1), .int .i64 (((dest (60 :: r)).2 : Nat) : Int)]) ∧ Below w.heap.size w w' := by
  have hU := Lib.hid (until_calls r [62] [60, 10] w hG (by omega))
  obtain ⟨D, hD⟩ : ∃ D, dest (60 :: r) = D := ⟨_, rfl⟩
  have hDe : D = match untilS [62] [60, 10] r with | none => ([], 0) | some n => (unescape (r.take n), n + 2) := by rw [← hD]; rfl
  rw [hD]
  have hle := untilS_le [62] [60, 10] r
  have hs := mkB_size r
  have hDe' := Lib.hid hDe; clear hDe hD
  go_enter Tryz.func43, Tryz.ntmps43
  go_wp2_with fail
  go_step3
  go_wp2_with fail
  refine (cutp_hit 60 r w).mono ?_
  rintro e w1 ⟨rfl, hww⟩
  have hww := hww.symm
  subst hww
  go_wp2_with fail
  refine hU.out.mono ?_
  rintro e w2 ⟨rfl, hb2⟩
  cases hA : untilS [62] [60, 10] r with
  | none =>
    have hD0 := Lib.hid (show D = ([], 0) by rw [hDe'.out, hA])
    clear hle
    have hb2' := Lib.hid hb2; clear hb2
    go_wp2_with fail
    (try rw [Exit.noGoto_ret])
    (try go_wp2_with fail)
    go_ret2
    exact ⟨by rw [hD0.out]; rfl, hb2'.out⟩
  | some n =>
    have hn := hle n hA
    clear hle
    have hD0 := Lib.hid (show D = (unescape (r.take n), n + 2) by rw [hDe'.out, hA])
    have hsl := sl_to r n (by omega)
    have hUn := Lib.hid (unescape_calls (r.take n) w2 (hG.below hb2) (by rw [List.length_take]; omega))
    have hb2' := Lib.hid hb2; clear hb2
    go_wp2_with fail
    refine hUn.out.mono ?_
    rintro e w3 ⟨rfl, hb3⟩
    have hb3' := Lib.hid (hb2'.out.trans (hb3.mono hb2'.out.size)); clear hb3
    go_wp2_with fail
    (try rw [Exit.noGoto_ret])
    (try go_wp2_with fail)
    go_ret2
    exact ⟨by rw [hD0.out]; rfl, hb3'.out⟩
theorem dest_calls (l : List UInt8) (w : World) (hG : GW w) (hl : l.length ≤ 1000000000) :
    Calls Tryz.prog 43 #[.string (mkB l)] w fun e w' => e = .returned (.tuple #[.string (mkB (dest l).1), .int .i64 (((dest l).2 : Nat) : Int)]) ∧ Below w.heap.size w w' := by
  by_cases h : l.head? = some 60
  · cases l with
    | nil => cases h
    | cons c r =>
      injection h with h
      subst h
      exact dest_angle r w hG (by simp only [List.length_cons] at hl; omega)
  · exact dest_bare l w hG hl h
end Go.Proofs.YthdlibgiejpjeaaGreatDoor.Given

/- How a title ends. -/
set_option linter.unusedVariables false
set_option linter.unusedSimpArgs false
namespace Go.Proofs.YthdlibgiejpjeaaGreatDoor.Spec
open Go
/-- How a title that such a byte begins ends, and what ends it in vain. -/
def titleEnd (c : UInt8) : Option (List UInt8 × List UInt8) := if c = 40 then some ([41], [40]) else if c = 34 ∨ c = 39 then some ([c], []) else none
end Go.Proofs.YthdlibgiejpjeaaGreatDoor.Spec
namespace Go.Proofs.YthdlibgiejpjeaaGreatDoor.Given
open Go Go.RowKit Go.Proofs.YthdlibgiejpjeaaGreatDoor Go.Proofs.YthdlibgiejpjeaaGreatDoorW.PrintWords Go.Proofs.YthdlibgiejpjeaaGreatDoor.Spec Go.Proofs.YthdlibgiejpjeaaGreatDoor.PureAid
theorem first_one (c : UInt8) (r : List UInt8) (W : World) : (Instr.slice 9 (.string (mkB (c :: r))) none (some (.int .i64 1)) none).run Tryz.prog W = .ok (.string (mkB [c])) W := sl_to (c :: r) 1 (by simp) W
theorem triml_f (l t : List UInt8) (h : l.dropWhile (([32, 9] : List UInt8).contains ·) = t) : strings_TrimLeft.f (mkB l) (⟨#[32, 9]⟩ : ByteArray) = some (mkB t) := by
  unfold strings_TrimLeft.f
  rw [if_pos ⟨by show 2 < 4294967281; omega, by rfl⟩]
  show some (mkB (Lib.trimLeftS l [32, 9])) = _
  unfold Lib.trimLeftS
  rw [h]
end Go.Proofs.YthdlibgiejpjeaaGreatDoor.Given
/- The contracts of link.gap, link.line and link.Label at any text. -/
set_option linter.unusedVariables false
set_option linter.unusedSimpArgs false
namespace Go.Proofs.YthdlibgiejpjeaaGreatDoor.Spec
open Go
def trimBT (l : List UInt8) : List UInt8 := l.dropWhile (([32, 9] : List UInt8).contains ·)
theorem trimBT_len (l : List UInt8) : (trimBT l).length ≤ l.length := by
  unfold trimBT
  induction l with
  | nil => simp
  | cons a t ih =>
    rw [List.dropWhile_cons]
    split
    · simp only [List.length_cons]; omega
    · simp
/-- What stands behind a gap. -/
def gapRest (l : List UInt8) : List UInt8 := match trimBT l with
  | 10 :: t => trimBT t
  | t => t
theorem gapRest_lf (l t : List UInt8) (h : trimBT l = 10 :: t) : gapRest l = trimBT t := by unfold gapRest; rw [h]; rfl
theorem gapRest_no (l : List UInt8) (h : (trimBT l).head? ≠ some 10) : gapRest l = trimBT l := by
  unfold gapRest
  split
  · next t e => rw [e] at h; exact absurd rfl h
  · rfl
theorem gapRest_len (l : List UInt8) : (gapRest l).length ≤ l.length := by
  unfold gapRest
  have h1 := trimBT_len l
  split
  · next t e =>
    have h2 := trimBT_len t
    rw [e] at h1; simp only [List.length_cons] at h1; omega
  · exact h1
/-- What stands behind a line's end, and whether it ends. -/
def lineS (l : List UInt8) : List UInt8 × Bool := match trimBT l with
  | 10 :: t => (t, true)
  | t => (t, t.isEmpty)
theorem lineS_lf (l t : List UInt8) (h : trimBT l = 10 :: t) : lineS l = (t, true) := by unfold lineS; rw [h]; rfl
theorem lineS_no (l : List UInt8) (h : (trimBT l).head? ≠ some 10) : lineS l = (trimBT l, (trimBT l).isEmpty) := by
  unfold lineS
  split
  · next t e => rw [e] at h; exact absurd rfl h
  · rfl
theorem head_lf (l : List UInt8) : l.head? ≠ some 10 ∨ ∃ t, l = 10 :: t := by
  cases l with
  | nil => exact .inl (by simp)
  | cons c t =>
    by_cases h : c = 10
    · exact .inr ⟨t, by rw [h]⟩
    · exact .inl (by simpa using h)
def label : List UInt8 → List UInt8 × Nat
  | [] => ([], 0)
  | c :: r => if c = 91 then (match untilS [93] [91] r with
    | none => ([], 0)
    | some n => if n ≤ 999 ∧ Fold.fold (r.take n) ≠ [] then (r.take n, n + 2) else ([], 0)) else ([], 0)
end Go.Proofs.YthdlibgiejpjeaaGreatDoor.Spec
namespace Go.Proofs.YthdlibgiejpjeaaGreatDoor.Given
open Go Go.RowKit Go.Proofs.YthdlibgiejpjeaaGreatDoor Go.Proofs.YthdlibgiejpjeaaGreatDoorW.PrintWords Go.Proofs.YthdlibgiejpjeaaGreatDoor.Spec Go.Proofs.YthdlibgiejpjeaaGreatDoor.PureAid

theorem triml_calls (l : List UInt8) (w : World) (hG : GW w) : Calls Tryz.prog 80 #[.string (mkB l), .string ⟨#[32, 9]⟩] w fun e w' => e = .returned (.string (mkB (trimBT l))) ∧ Below w.heap.size w w' :=
  strings_TrimLeft.calls (mkB l) ⟨#[32, 9]⟩ _ w hG (triml_f l _ rfl)
set_option maxHeartbeats 4000000 in
set_option maxRecDepth 1000000 in
theorem gap_calls (l : List UInt8) (w : World) (hG : GW w) (hl : l.length ≤ 1000000000) :
    Calls Tryz.prog 85 #[.string (mkB l)] w fun e w' => e = .returned (.int .i64 ((l.length - (gapRest l).length : Nat) : Int)) ∧ Below w.heap.size w w' := by
  have hle := gapRest_len l
  have hT := Lib.hid (triml_calls l w hG)
  have hs1 := mkB_size l
  rcases head_lf (trimBT l) with h10 | ⟨t, ht⟩
  · have hgr := gapRest_no l h10
    have hc := Lib.hid (fun W => cutp_miss 10 (trimBT l) h10 W)
    rw [hgr] at hle ⊢
    have hs2 := mkB_size (trimBT l)
    have hsub : (l.length : Int) - ((trimBT l).length : Int) = ((l.length - (trimBT l).length : Nat) : Int) := by omega
    have hw : wrap64 ((l.length : Int) - ((trimBT l).length : Int)) = ((l.length - (trimBT l).length : Nat) : Int) := by rw [hsub]; exact wrap_in _ (by omega)
    generalize l.length - (trimBT l).length = n at *
    generalize mkB l = L at *
    generalize mkB (trimBT l) = T at *
    clear hle hgr h10
    go_enter Tryz.func85, Tryz.ntmps85
    go_wp2_with fail
    refine hT.out.mono ?_
    rintro e w1 ⟨rfl, hb1⟩
    have hb1' := Lib.hid hb1; clear hb1
    go_wp2_with fail
    refine (hc.out _).mono ?_
    rintro e w2 ⟨rfl, hww⟩
    have hww := hww.symm
    subst hww
    go_wp2_with fail
    go_ret
    exact ⟨rfl, hb1'.out⟩
  · have hgr := gapRest_lf l t ht
    rw [ht] at hT
    have hc := Lib.hid (fun W => cutp_hit 10 t W)
    have hT2 := Lib.hid (fun W (hW : GW W) => triml_calls t W hW)
    rw [hgr] at hle ⊢
    have hs2 := mkB_size (trimBT t)
    have hsub : (l.length : Int) - ((trimBT t).length : Int) = ((l.length - (trimBT t).length : Nat) : Int) := by omega
    have hw : wrap64 ((l.length : Int) - ((trimBT t).length : Int)) = ((l.length - (trimBT t).length : Nat) : Int) := by rw [hsub]; exact wrap_in _ (by omega)
    generalize l.length - (trimBT t).length = n at *
    generalize mkB l = L at *
    generalize mkB (10 :: t) = T at *
    generalize mkB (trimBT t) = T2 at *
    generalize mkB t = T3 at *
    clear hle hgr ht
    go_enter Tryz.func85, Tryz.ntmps85
    go_wp2_with fail
    refine hT.out.mono ?_
    rintro e w1 ⟨rfl, hb1⟩
    have hG1 := Lib.hid (hG.below hb1)
    have hb1' := Lib.hid hb1; clear hb1
    go_wp2_with fail
    refine (hc.out _).mono ?_
    rintro e w2 ⟨rfl, hww⟩
    have hww := hww.symm
    subst hww
    go_wp2_with fail
    refine (hT2.out _ hG1.out).mono ?_
    rintro e w3 ⟨rfl, hb3⟩
    have hb3' := Lib.hid (hb1'.out.trans (hb3.mono hb1'.out.size)); clear hb3
    go_wp2_with fail
    go_ret
    exact ⟨rfl, hb3'.out⟩
set_option maxHeartbeats 4000000 in
set_option maxRecDepth 1000000 in
theorem line_calls (l : List UInt8) (w : World) (hG : GW w) :
    Calls Tryz.prog 86 #[.string (mkB l)] w fun e w' => e = .returned (.tuple #[.string (mkB (lineS l).1), .bool (lineS l).2]) ∧ Below w.heap.size w w' := by
  have hT := Lib.hid (triml_calls l w hG)
  rcases head_lf (trimBT l) with h10 | ⟨t, ht⟩
  · rw [lineS_no l h10]
    have hc := Lib.hid (fun W => cutp_miss 10 (trimBT l) h10 W)
    have he : (mkB (trimBT l)).toList.isEmpty = (trimBT l).isEmpty := by rw [mkB_toList]
    clear h10
    show Calls _ _ _ _ fun e w' => e = .returned (.tuple #[.string (mkB (trimBT l)), .bool (trimBT l).isEmpty]) ∧ _
    generalize mkB (trimBT l) = T at *
    generalize (trimBT l).isEmpty = B at *
    generalize mkB l = L at *
    cases B with
    | _ =>
      go_enter Tryz.func86, Tryz.ntmps86
      go_wp2_with fail
      refine hT.out.mono ?_
      rintro e w1 ⟨rfl, hb1⟩
      have hb1' := Lib.hid hb1; clear hb1
      go_wp2_with fail
      refine (hc.out _).mono ?_
      rintro e w2 ⟨rfl, hww⟩
      have hww := hww.symm
      subst hww
      go_wp2_with fail
      go_ret2
      exact ⟨rfl, hb1'.out⟩
  · rw [lineS_lf l t ht]
    rw [ht] at hT
    have hc := Lib.hid (fun W => cutp_hit 10 t W)
    show Calls _ _ _ _ fun e w' => e = .returned (.tuple #[.string (mkB t), .bool true]) ∧ _
    generalize mkB (10 :: t) = T at *
    generalize mkB t = T3 at *
    generalize mkB l = L at *
    clear ht
    go_enter Tryz.func86, Tryz.ntmps86
    go_wp2_with fail
    refine hT.out.mono ?_
    rintro e w1 ⟨rfl, hb1⟩
    have hb1' := Lib.hid hb1; clear hb1
    go_wp2_with fail
    refine (hc.out _).mono ?_
    rintro e w2 ⟨rfl, hww⟩
    have hww := hww.symm
    subst hww
    go_wp2_with fail
    go_ret2
    exact ⟨rfl, hb1'.out⟩
set_option maxHeartbeats 4000000 in
set_option maxRecDepth 1000000 in
theorem label_calls (l : List UInt8) (w : World) (hG : GW w) (hl : l.length ≤ 1000000000) :
    Calls Tryz.prog 42 #[.string (mkB l)] w fun e w' => e = .returned (.tuple #[.string (mkB (label l).1), .int .i64 (((label l).2 : Nat) : Int)]) ∧ Below w.heap.size w w' := by
  by_cases h91 : ∃ r, l = 91 :: r
  · obtain ⟨r, rfl⟩ := h91
    have hL : label (91 :: r) = match untilS [93] [91] r with | none => ([], 0) | some n => if n ≤ 999 ∧ Fold.fold (r.take n) ≠ [] then (r.take n, n + 2) else ([], 0) := rfl
    have hc := Lib.hid (cutp_hit 91 r w)
    have hU := until_calls r [93] [91] w hG (by simp only [List.length_cons] at hl; omega)
    replace hU : Calls Tryz.prog 82 #[.string (mkB r), .string ⟨#[93]⟩, .string ⟨#[91]⟩] w fun e w' => e = .returned (.tuple #[.int .i64 (((untilS [93] [91] r).getD 0 : Nat) : Int), .bool (untilS [93] [91] r).isSome]) ∧ Below w.heap.size w w' := hU
    have hle := untilS_le [93] [91] r
    rw [hL]
    clear hL
    generalize mkB (91 :: r) = L0 at *
    cases hA : untilS [93] [91] r with
    | none =>
      rw [hA] at hU
      have hU' := Lib.hid hU; clear hU hA hle
      generalize mkB r = L1 at *
      go_enter Tryz.func42, Tryz.ntmps42
      go_wp2_with fail
      refine hc.out.mono ?_
      rintro e w1 ⟨rfl, hww⟩
      have hww := hww.symm
      subst hww
      go_wp2_with fail
      refine hU'.out.mono ?_
      rintro e w2 ⟨rfl, hb2⟩
      have hb2' := Lib.hid hb2; clear hb2
      go_wp2_with fail
      go_ret2
      exact ⟨rfl, hb2'.out⟩
    | some n =>
      rw [hA] at hU
      replace hU : Calls Tryz.prog 82 #[.string (mkB r), .string ⟨#[93]⟩, .string ⟨#[91]⟩] w fun e w' => e = .returned (.tuple #[.int .i64 (n : Int), .bool true]) ∧ Below w.heap.size w w' := hU
      have hn := hle n hA
      have hU' := Lib.hid hU; clear hU hA hle
      by_cases h9 : n ≤ 999
      · have h9' : (n : Int) ≤ 999 := by omega
        have hsl := sl_to r n (by omega)
        have hF := Lib.hid (fun W (hW : GW W) => Gen.fold_calls (r.take n) W hW (by rw [List.length_take]; omega))
        have he : (mkB (Fold.fold (r.take n))).toList.isEmpty = (Fold.fold (r.take n)).isEmpty := by rw [mkB_toList]
        show Calls _ _ _ _ fun e w' => e = .returned (.tuple #[.string (mkB (if n ≤ 999 ∧ Fold.fold (r.take n) ≠ [] then (r.take n, n + 2) else ([], 0)).1), .int .i64 (((if n ≤ 999 ∧ Fold.fold (r.take n) ≠ [] then (r.take n, n + 2) else ([], 0)).2 : Nat) : Int)]) ∧ _
        by_cases hf : Fold.fold (r.take n) = []
        · rw [if_neg (by rintro ⟨_, h⟩; exact h hf)]
          replace he : (mkB (Fold.fold (r.take n))).toList.isEmpty = true := by rw [he, hf]; rfl
          generalize mkB (Fold.fold (r.take n)) = FB at *
          generalize mkB (r.take n) = XB at *
          generalize mkB r = L1 at *
          clear hf
          go_enter Tryz.func42, Tryz.ntmps42
          go_wp2_with fail
          refine hc.out.mono ?_
          rintro e w1 ⟨rfl, hww⟩
          have hww := hww.symm
          subst hww
          go_wp2_with fail
          refine hU'.out.mono ?_
          rintro e w2 ⟨rfl, hb2⟩
          have hF2 := Lib.hid (hF.out w2 (hG.below hb2))
          have hb2' := Lib.hid hb2; clear hb2 hF
          go_wp2_with fail
          refine hF2.out.mono ?_
          rintro e w3 ⟨rfl, hb3⟩
          have hb3' := Lib.hid (hb2'.out.trans (hb3.mono hb2'.out.size)); clear hb3
          go_wp2_with fail
          go_ret2
          exact ⟨rfl, hb3'.out⟩
        · rw [if_pos ⟨h9, hf⟩]
          have he2 : (Fold.fold (r.take n)).isEmpty = false := by
            cases h : Fold.fold (r.take n) with
            | nil => exact absurd h hf
            | cons a b => rfl
          rw [he2] at he
          have hXe : ∀ a : ByteArray, mkB (r.take n) = a → mkB (r.take n) = a := fun a h => h
          generalize mkB (Fold.fold (r.take n)) = FB at *
          show Calls _ _ _ _ fun e w' => e = .returned (.tuple #[.string (mkB (r.take n)), .int .i64 ((n + 2 : Nat) : Int)]) ∧ _
          have hw2 : wrap64 ((n : Int) + 2) = ((n + 2 : Nat) : Int) := by rw [wrap_in _ (by omega)]; rfl
          clear hXe
          generalize mkB (r.take n) = XB at *
          generalize mkB r = L1 at *
          clear hf he2
          go_enter Tryz.func42, Tryz.ntmps42
          go_wp2_with fail
          refine hc.out.mono ?_
          rintro e w1 ⟨rfl, hww⟩
          have hww := hww.symm
          subst hww
          go_wp2_with fail
          refine hU'.out.mono ?_
          rintro e w2 ⟨rfl, hb2⟩
          have hF2 := Lib.hid (hF.out w2 (hG.below hb2))
          have hb2' := Lib.hid hb2; clear hb2 hF
          go_wp2_with fail
          refine hF2.out.mono ?_
          rintro e w3 ⟨rfl, hb3⟩
          have hb3' := Lib.hid (hb2'.out.trans (hb3.mono hb2'.out.size)); clear hb3
          go_wp2_with fail
          go_ret2
          exact ⟨rfl, hb3'.out⟩
      · show Calls _ _ _ _ fun e w' => e = .returned (.tuple #[.string (mkB (if n ≤ 999 ∧ Fold.fold (r.take n) ≠ [] then (r.take n, n + 2) else ([], 0)).1), .int .i64 (((if n ≤ 999 ∧ Fold.fold (r.take n) ≠ [] then (r.take n, n + 2) else ([], 0)).2 : Nat) : Int)]) ∧ _
        rw [if_neg (by rintro ⟨h, _⟩; exact h9 h)]
        have h9' : ¬ (n : Int) ≤ 999 := by omega
        have h9'' : (999 : Int) < n := by omega
        clear h9 hn
        generalize mkB r = L1 at *
        go_enter Tryz.func42, Tryz.ntmps42
        go_wp2_with fail
        refine hc.out.mono ?_
        rintro e w1 ⟨rfl, hww⟩
        have hww := hww.symm
        subst hww
        go_wp2_with fail
        refine hU'.out.mono ?_
        rintro e w2 ⟨rfl, hb2⟩
        have hb2' := Lib.hid hb2; clear hb2
        go_wp2_with fail
        go_ret2
        exact ⟨rfl, hb2'.out⟩
  · have hL : label l = ([], 0) := by
      cases l with
      | nil => rfl
      | cons c r =>
        have : c ≠ 91 := fun h => h91 ⟨r, by rw [h]⟩
        show (if c = 91 then _ else _) = _
        rw [if_neg this]
    rw [hL]
    have hh : l.head? ≠ some 91 := by
      cases l with
      | nil => simp
      | cons c r => exact fun h => h91 ⟨r, by simpa using h⟩
    have hc := Lib.hid (cutp_miss 91 l hh w)
    clear h91 hL hh
    generalize mkB l = L at *
    go_enter Tryz.func42, Tryz.ntmps42
    go_wp2_with fail
    refine hc.out.mono ?_
    rintro e w1 ⟨rfl, hww⟩
    have hww := hww.symm
    subst hww
    go_wp2_with fail
    go_ret2
    exact ⟨rfl, Below.refl _ _⟩
end Go.Proofs.YthdlibgiejpjeaaGreatDoor.Given
/- The contract of link.Title at any text. -/
set_option linter.unusedVariables false
set_option linter.unusedSimpArgs false
namespace Go.Proofs.YthdlibgiejpjeaaGreatDoor.Spec
open Go
/-- The lines of a text. -/
def lines (t : List UInt8) : List (List UInt8) := (Lib.splitB ⟨#[10]⟩ 0 (Lib.countB ⟨t.toArray⟩ ⟨#[10]⟩) ⟨t.toArray⟩).map (·.data.toList)
def blankL (l : List UInt8) : Bool := (Lib.trimS l [32, 9]).isEmpty
/-- A line of blanks between the first and the last. -/
def blankIn (L : List (List UInt8)) : Bool := (L.drop 1).dropLast.any blankL
def okTo (L : List (List UInt8)) (k : Nat) : Prop := ∀ j x, j < k → 0 < j → j + 1 < L.length → L[j]? = some x → blankL x = false
theorem okTo_zero (L : List (List UInt8)) : okTo L 0 := fun j x h => by omega
theorem okTo_one (L : List (List UInt8)) : okTo L 1 := fun j x h h' => by omega
def titleG : List UInt8 → List UInt8 × Nat
  | [] => ([], 0)
  | c :: r => match titleEnd c with
    | none => ([], 0)
    | some (fin, stop) => match untilS fin stop r with
      | none => ([], 0)
      | some n => if blankIn (lines (r.take n)) = true then ([], 0) else (unescape (r.take n), n + 2)
end Go.Proofs.YthdlibgiejpjeaaGreatDoor.Spec
namespace Go.Proofs.YthdlibgiejpjeaaGreatDoor.Given
open Go Go.RowKit Go.Proofs.YthdlibgiejpjeaaGreatDoor Go.Proofs.YthdlibgiejpjeaaGreatDoorW.PrintWords Go.Proofs.YthdlibgiejpjeaaGreatDoor.Spec Go.Proofs.YthdlibgiejpjeaaGreatDoor.PureAid

theorem count_le (t : List UInt8) : Lib.countB (mkB t) ⟨#[10]⟩ ≤ t.length := by
  have := Lib.countB_le ⟨#[10]⟩ (by decide) t.length (mkB t) (by rw [mkB_size]; exact Nat.le_refl _)
  rwa [mkB_size] at this
theorem lines_len (t : List UInt8) : (lines t).length = Lib.countB (mkB t) ⟨#[10]⟩ + 1 := by
  unfold lines
  rw [List.length_map]
  exact Lib.splitB_all ⟨#[10]⟩ (by decide) 0 _ (mkB t) rfl
theorem lines_str (t : List UInt8) : (Lib.splitB ⟨#[10]⟩ 0 (Lib.countB (mkB t) ⟨#[10]⟩) (mkB t)).map Value.string = (lines t).map fun x => Value.string (mkB x) := by
  unfold lines
  rw [List.map_map]
  rfl
theorem split_le (sep : ByteArray) : ∀ (k : Nat) (s : ByteArray) (x : ByteArray), x ∈ Lib.splitB sep 0 k s → x.size ≤ s.size := by
  intro k
  induction k with
  | zero => intro s x hx; rw [Lib.splitB_zero] at hx; simp at hx; rw [hx]; exact Nat.le_refl _
  | succ k ih =>
    intro s x hx
    rcases Lib.indexB_cases s sep with h | ⟨i, h, hr⟩
    · rw [Lib.splitB_miss sep 0 _ s h] at hx; simp at hx; rw [hx]; exact Nat.le_refl _
    · rw [Lib.splitB_hit sep 0 k s i h] at hx
      rcases List.mem_cons.1 hx with rfl | hx
      · rw [ByteArray.size_extract]; omega
      · have := ih _ x hx
        rw [ByteArray.size_extract] at this; omega
theorem lines_le (t : List UInt8) : ∀ x ∈ lines t, x.length ≤ t.length := by
  intro x hx
  obtain ⟨y, hy, rfl⟩ := List.mem_map.1 hx
  have := split_le _ _ _ y hy
  have h2 : (⟨t.toArray⟩ : ByteArray).size = t.length := mkB_size t
  rw [h2] at this
  rw [Array.length_toList]; exact this
theorem okTo_next (L : List (List UInt8)) (k : Nat) (x : List UInt8) (h : okTo L k) (hx : L[k]? = some x) (hb : blankL x = false) : okTo L (k + 1) := by
  intro j y hj h0 hl hy
  rcases Nat.lt_or_ge j k with h1 | h1
  · exact h j y h1 h0 hl hy
  · obtain rfl : j = k := by omega
    rw [hx] at hy; injection hy with hy; subst hy; exact hb
theorem okTo_last (L : List (List UInt8)) (k : Nat) (h : okTo L k) (hl : L.length ≤ k + 1) : okTo L (k + 1) := by
  intro j y hj h0 hl' hy
  exact h j y (by omega) h0 hl' hy
theorem mid_get (L : List (List UInt8)) (j : Nat) : (L.drop 1).dropLast[j]? = if j + 2 < L.length + 0 then L[j + 1]? else none := by
  rw [List.getElem?_dropLast, List.length_drop, List.getElem?_drop]
  rw [Nat.add_comm 1 j]
  by_cases h : j + 2 < L.length
  · rw [if_pos (by omega), if_pos (by omega)]
  · rw [if_neg (by omega), if_neg (by omega)]
theorem blank_hit (L : List (List UInt8)) (k : Nat) (x : List UInt8) (h0 : 0 < k) (hl : k + 1 < L.length) (hx : L[k]? = some x) (hb : blankL x = true) : blankIn L = true := by
  unfold blankIn
  rw [List.any_eq_true]
  obtain ⟨j, rfl⟩ : ∃ j, k = j + 1 := ⟨k - 1, by omega⟩
  exact ⟨x, List.mem_of_getElem? (i := j) (by rw [mid_get, if_pos (by omega), hx]), hb⟩
theorem blank_none (L : List (List UInt8)) (h : okTo L L.length) : ¬ blankIn L = true := by
  unfold blankIn
  rw [List.any_eq_true]
  rintro ⟨x, hx, hb⟩
  obtain ⟨j, hj⟩ := List.mem_iff_getElem?.1 hx
  rw [mid_get] at hj
  split at hj
  · next hlt =>
    have := h (j + 1) x (by omega) (by omega) (by omega) hj
    rw [this] at hb; exact absurd hb (by decide)
  · exact absurd hj (by simp)
theorem split_any (t : List UInt8) (hl : t.length < 4294967281) (w : World) (hG : GW w) :
    Calls Tryz.prog 84 #[.string (mkB t), .string ⟨#[10]⟩] w fun e w' => e = .returned (.slice (some ⟨w.heap.size, 0, none⟩) (Lib.countB (mkB t) ⟨#[10]⟩ + 1) (Lib.countB (mkB t) ⟨#[10]⟩ + 1)) ∧ w' = w.alloc (.cells ((lines t).map fun x => Value.string (mkB x)).toArray 9) := by
  obtain ⟨m, hm⟩ := Tryz.laysM143.s1_3 w hG.shaped
  refine (Tryz.strings_Split (mkB t) ⟨#[10]⟩ m w (by rw [mkB_size]; exact hl) hm (by decide)).mono fun e w' ⟨he, hw⟩ => ?_
  rw [lines_str] at hw
  exact ⟨he, hw⟩
theorem trim_calls (l : List UInt8) (w : World) (hG : GW w) (hl : l.length ≤ 1000000000) : Calls Tryz.prog 70 #[.string (mkB l), .string ⟨#[32, 9]⟩] w fun e w' => e = .returned (.string (mkB (Lib.trimS l [32, 9]))) ∧ Below w.heap.size w w' :=
  strings_Trim.calls (mkB l) ⟨#[32, 9]⟩ _ w hG (by
    unfold strings_Trim.f; rw [if_pos ⟨by rw [mkB_size]; omega, by show 2 < 4294967281; omega, by rfl⟩, mkB_data]; rfl)

set_option maxHeartbeats 8000000 in
set_option maxRecDepth 1000000 in
theorem titleG_calls (l : List UInt8) (w : World) (hG : GW w) (hl : l.length ≤ 1000000000) :
    Calls Tryz.prog 44 #[.string (mkB l)] w fun e w' => e = .returned (.tuple #[.string (mkB (titleG l).1), .int .i64 (((titleG l).2 : Nat) : Int)]) ∧ Below w.heap.size w w' := by
  cases l with
  | nil =>
    have he : (mkB []).toList.isEmpty = true := by rw [mkB_toList]; rfl
    go_enter Tryz.func44, Tryz.ntmps44
    go_wp2_with fail
    go_ret2
    exact ⟨rfl, Below.refl _ _⟩
  | cons c r =>
    have he : (mkB (c :: r)).toList.isEmpty = false := by rw [mkB_toList]; rfl
    have hs := mkB_size (c :: r)
    have hi : ∀ W, (Instr.index 9 (.string (mkB (c :: r))) (.int .i64 0)).run Tryz.prog W = .ok (.int .u8 (c.toNat : Int)) W := at_i (c :: r) 0 c r rfl
    have hf := first_one c r
    have hsl : ∀ W, (Instr.slice 9 (.string (mkB (c :: r))) (some (.int .i64 1)) none none).run Tryz.prog W = .ok (.string (mkB r)) W := sl_from (c :: r) 1 (by simp)
    have hle := fun fin stop => untilS_le fin stop r
    simp only [List.length_cons] at hl
    by_cases h40 : c = 40
    · subst h40
      have hT : titleG (40 :: r) = match untilS [41] [40] r with | none => ([], 0) | some n => if blankIn (lines (r.take n)) = true then ([], 0) else (unescape (r.take n), n + 2) := rfl
      have hU : Calls Tryz.prog 82 #[.string (mkB r), .string ⟨#[41]⟩, .string ⟨#[40]⟩] w fun e w' => e = .returned (.tuple #[.int .i64 (((untilS [41] [40] r).getD 0 : Nat) : Int), .bool (untilS [41] [40] r).isSome]) ∧ Below w.heap.size w w' := until_calls r [41] [40] w hG (by omega)
      replace hle := hle [41] [40]
      generalize titleG (40 :: r) = TT at *
      obtain ⟨UU, hUU⟩ : ∃ UU, UU = untilS [41] [40] r := ⟨_, rfl⟩
      rw [← hUU] at hU hT hle
      obtain ⟨c, hc⟩ : ∃ c : UInt8, c = 40 := ⟨_, rfl⟩
      rw [← hc] at he hs hi hf hsl ⊢
      have hci : (c.toNat : Int) = 40 := by rw [hc]; rfl
      have hc' := Lib.hid hc; clear hc
      go_enter Tryz.func44, Tryz.ntmps44
      (
        obtain ⟨A, hA⟩ : ∃ A, UU = A := ⟨_, rfl⟩
        subst hUU
        rw [hA] at hU hT hle
        have hT' := Lib.hid hT; clear hT
        have hU' := Lib.hid hU; clear hU hA
        go_wp2_with fail
        refine hU'.out.mono ?_
        rintro e w2 ⟨rfl, hb2⟩
        cases A with
        | none =>
          have hb2' := Lib.hid hb2; clear hb2 hle
          go_wp2_with fail
          go_ret2
          exact ⟨by rw [hT'.out]; rfl, hb2'.out⟩
        | some n =>
          have hn := hle n rfl
          have hmid : ∀ W, (Instr.slice 9 (.string (mkB (c :: r))) (some (.int .i64 1)) (some (.int .i64 ((n : Int) + 1))) none).run Tryz.prog W = .ok (.string (mkB (r.take n))) W := fun W => by
            have := sl_mid (c :: r) 1 (n + 1) (by omega) (by simp only [List.length_cons]; omega) W
            exact this
          have htl : (r.take n).length ≤ 1000000000 := by rw [List.length_take]; omega
          have hUn := Lib.hid (fun W (hW : GW W) => unescape_calls (r.take n) W hW (by omega))
          have hG2 := Lib.hid (hG.below hb2)
          have hb2' := Lib.hid hb2; clear hb2 hle
          have hT2 := Lib.hid (show TT = (if blankIn (lines (r.take n)) = true then ([], 0) else (unescape (r.take n), n + 2)) from hT'.out); clear hT'
          obtain ⟨K, hK⟩ : ∃ K, K = Lib.countB (mkB (r.take n)) ⟨#[10]⟩ := ⟨_, rfl⟩
          have hKl := lines_len (r.take n)
          rw [← hK] at hKl
          have hKs := count_le (r.take n)
          rw [← hK] at hKs
          have hSp := split_any (r.take n) (by omega) w2 hG2.out
          rw [← hK] at hSp
          replace hSp := Lib.hid hSp
          have hlines := lines_le (r.take n)
          generalize r.take n = tt at *
          generalize hLL : lines tt = LL at *
          clear hK
          go_wp2_with fail
          refine hSp.out.mono ?_
          rintro e w3 ⟨rfl, rfl⟩
          have hc0 : ∀ o, (w2.alloc (.cells (LL.map fun x => Value.string (mkB x)).toArray 9)).cell? ⟨w2.heap.size, o, none⟩ = (LL.map fun x => Value.string (mkB x)).toArray[o]? := fun o => by rw [World.cell?_alloc_new]
          have hb3 := Lib.hid ((Below.refl _ w2).alloc (Nat.le_refl _) (.cells (LL.map fun x => Value.string (mkB x)).toArray 9))
          have hb4 := Lib.hid (hb2'.out.trans (hb3.out.mono hb2'.out.size))
          have hG3 := Lib.hid (hG2.out.below hb3.out)
          clear hb3
          generalize w2.alloc (.cells (LL.map fun x => Value.string (mkB x)).toArray 9) = W3 at *
          have hc0' := Lib.hid hc0; clear hc0
          go_wp2_with fail
          go_loopw [41] (fun i wr => ∃ k : Nat, k ≤ K + 1 ∧ i = .int .i64 (k : Int) ∧ Below W3.heap.size W3 wr ∧ okTo LL k) (fun i _ => K + 2 - (intOf i).toNat)
          case atStart => exact ⟨0, by omega, rfl, Below.refl _ _, okTo_zero LL⟩
          case round =>
            obtain ⟨k, hk, rfl, hbr, hok⟩ := hrel
            rcases Nat.lt_or_ge k (K + 1) with hlt | hge
            · obtain ⟨x, hx⟩ : ∃ x, LL[k]? = some x := ⟨_, List.getElem?_eq_getElem (by omega)⟩
              have hcell : wr.cell? ⟨w2.heap.size, k, none⟩ = some (.string (mkB x)) := cell_below (by rw [hc0'.out k]; simp [hx]) hbr
              have hTr := Lib.hid (trim_calls x wr (hG3.out.below hbr) (Nat.le_trans (hlines x (List.mem_of_getElem? hx)) htl))
              have hbr' := Lib.hid hbr; clear hbr
              have hok' := Lib.hid hok; clear hok
              have hx' := Lib.hid hx; clear hx
              have h0 : (0 : Int) ≤ (k : Int) := by omega
              have h1 : (k : Int) < ((K + 1 : Nat) : Int) := by omega
              rcases Nat.eq_zero_or_pos k with hk0 | hk0
              · subst hk0
                go_wp2_with fail
                exact ⟨⟨1, by omega, by first | rfl | go_num, hbr'.out, okTo_one LL⟩, by simp [intOf] <;> omega⟩
              · rcases Nat.lt_or_ge k K with hkK | hkK
                · have hpos : (0 : Int) < (k : Int) := by omega
                  have hlast : (k : Int) < (K : Int) := by omega
                  have he3 : (mkB (Lib.trimS x [32, 9])).toList.isEmpty = blankL x := by rw [mkB_toList]; rfl
                  generalize mkB (Lib.trimS x [32, 9]) = TX at *
                  generalize hbx : blankL x = bx at he3
                  have hbx' := Lib.hid hbx; clear hbx
                  go_wp2_with fail
                  refine hTr.out.mono ?_
                  rintro e w5 ⟨rfl, hb5⟩
                  have hb5' := Lib.hid (hbr'.out.trans (hb5.mono hbr'.out.size)); clear hb5
                  cases bx with
                  | true =>
                    go_wp2_with fail
                    go_ret2
                    refine ⟨?_, hb4.out.trans (hb5'.out.mono hb4.out.size)⟩
                    rw [hT2.out, if_pos (blank_hit LL k x hk0 (by omega) hx'.out hbx'.out)]
                    rfl
                  | false =>
                    go_wp2_with fail
                    exact ⟨⟨k + 1, by omega, by first | rfl | go_num, hb5'.out, okTo_next LL k x hok'.out hx'.out hbx'.out⟩, by simp [intOf] <;> omega⟩
                · obtain rfl : k = K := by omega
                  have hpos : (0 : Int) < (k : Int) := by omega
                  go_wp2_with fail
                  exact ⟨⟨k + 1, by omega, by first | rfl | go_num, hbr'.out, okTo_last LL k hok'.out (by omega)⟩, by simp [intOf] <;> omega⟩
            · obtain rfl : k = K + 1 := by omega
              have hU4 := Lib.hid (hUn.out wr (hG3.out.below hbr))
              have hbr' := Lib.hid hbr; clear hbr
              have hok' := Lib.hid hok; clear hok
              clear hUn
              go_wp2_with fail
              refine hU4.out.mono ?_
              rintro e w5 ⟨rfl, hb5⟩
              have hb6 := Lib.hid (hbr'.out.trans (hb5.mono hbr'.out.size)); clear hb5
              go_wp2_with fail
              go_ret2
              refine ⟨?_, hb4.out.trans (hb6.out.mono hb4.out.size)⟩
              rw [hT2.out, if_neg (blank_none LL (by rw [hKl]; exact hok'.out))]
              rfl)
    by_cases h34 : c = 34
    · subst h34
      have hT : titleG (34 :: r) = match untilS [34] [] r with | none => ([], 0) | some n => if blankIn (lines (r.take n)) = true then ([], 0) else (unescape (r.take n), n + 2) := rfl
      have hU : Calls Tryz.prog 82 #[.string (mkB r), .string (mkB [34]), .string ⟨#[]⟩] w fun e w' => e = .returned (.tuple #[.int .i64 (((untilS [34] [] r).getD 0 : Nat) : Int), .bool (untilS [34] [] r).isSome]) ∧ Below w.heap.size w w' := until_calls r [34] [] w hG (by omega)
      replace hle := hle [34] []
      generalize titleG (34 :: r) = TT at *
      obtain ⟨UU, hUU⟩ : ∃ UU, UU = untilS [34] [] r := ⟨_, rfl⟩
      rw [← hUU] at hU hT hle
      obtain ⟨c, hc⟩ : ∃ c : UInt8, c = 34 := ⟨_, rfl⟩
      rw [← hc] at he hs hi hf hsl hU ⊢
      have hci : (c.toNat : Int) = 34 := by rw [hc]; rfl
      have hc' := Lib.hid hc; clear hc
      go_enter Tryz.func44, Tryz.ntmps44
      (
        obtain ⟨A, hA⟩ : ∃ A, UU = A := ⟨_, rfl⟩
        subst hUU
        rw [hA] at hU hT hle
        have hT' := Lib.hid hT; clear hT
        have hU' := Lib.hid hU; clear hU hA
        go_wp2_with fail
        refine hU'.out.mono ?_
        rintro e w2 ⟨rfl, hb2⟩
        cases A with
        | none =>
          have hb2' := Lib.hid hb2; clear hb2 hle
          go_wp2_with fail
          go_ret2
          exact ⟨by rw [hT'.out]; rfl, hb2'.out⟩
        | some n =>
          have hn := hle n rfl
          have hmid : ∀ W, (Instr.slice 9 (.string (mkB (c :: r))) (some (.int .i64 1)) (some (.int .i64 ((n : Int) + 1))) none).run Tryz.prog W = .ok (.string (mkB (r.take n))) W := fun W => by
            have := sl_mid (c :: r) 1 (n + 1) (by omega) (by simp only [List.length_cons]; omega) W
            exact this
          have htl : (r.take n).length ≤ 1000000000 := by rw [List.length_take]; omega
          have hUn := Lib.hid (fun W (hW : GW W) => unescape_calls (r.take n) W hW (by omega))
          have hG2 := Lib.hid (hG.below hb2)
          have hb2' := Lib.hid hb2; clear hb2 hle
          have hT2 := Lib.hid (show TT = (if blankIn (lines (r.take n)) = true then ([], 0) else (unescape (r.take n), n + 2)) from hT'.out); clear hT'
          obtain ⟨K, hK⟩ : ∃ K, K = Lib.countB (mkB (r.take n)) ⟨#[10]⟩ := ⟨_, rfl⟩
          have hKl := lines_len (r.take n)
          rw [← hK] at hKl
          have hKs := count_le (r.take n)
          rw [← hK] at hKs
          have hSp := split_any (r.take n) (by omega) w2 hG2.out
          rw [← hK] at hSp
          replace hSp := Lib.hid hSp
          have hlines := lines_le (r.take n)
          generalize r.take n = tt at *
          generalize hLL : lines tt = LL at *
          clear hK
          go_wp2_with fail
          refine hSp.out.mono ?_
          rintro e w3 ⟨rfl, rfl⟩
          have hc0 : ∀ o, (w2.alloc (.cells (LL.map fun x => Value.string (mkB x)).toArray 9)).cell? ⟨w2.heap.size, o, none⟩ = (LL.map fun x => Value.string (mkB x)).toArray[o]? := fun o => by rw [World.cell?_alloc_new]
          have hb3 := Lib.hid ((Below.refl _ w2).alloc (Nat.le_refl _) (.cells (LL.map fun x => Value.string (mkB x)).toArray 9))
          have hb4 := Lib.hid (hb2'.out.trans (hb3.out.mono hb2'.out.size))
          have hG3 := Lib.hid (hG2.out.below hb3.out)
          clear hb3
          generalize w2.alloc (.cells (LL.map fun x => Value.string (mkB x)).toArray 9) = W3 at *
          have hc0' := Lib.hid hc0; clear hc0
          go_wp2_with fail
          go_loopw [41] (fun i wr => ∃ k : Nat, k ≤ K + 1 ∧ i = .int .i64 (k : Int) ∧ Below W3.heap.size W3 wr ∧ okTo LL k) (fun i _ => K + 2 - (intOf i).toNat)
          case atStart => exact ⟨0, by omega, rfl, Below.refl _ _, okTo_zero LL⟩
          case round =>
            obtain ⟨k, hk, rfl, hbr, hok⟩ := hrel
            rcases Nat.lt_or_ge k (K + 1) with hlt | hge
            · obtain ⟨x, hx⟩ : ∃ x, LL[k]? = some x := ⟨_, List.getElem?_eq_getElem (by omega)⟩
              have hcell : wr.cell? ⟨w2.heap.size, k, none⟩ = some (.string (mkB x)) := cell_below (by rw [hc0'.out k]; simp [hx]) hbr
              have hTr := Lib.hid (trim_calls x wr (hG3.out.below hbr) (Nat.le_trans (hlines x (List.mem_of_getElem? hx)) htl))
              have hbr' := Lib.hid hbr; clear hbr
              have hok' := Lib.hid hok; clear hok
              have hx' := Lib.hid hx; clear hx
              have h0 : (0 : Int) ≤ (k : Int) := by omega
              have h1 : (k : Int) < ((K + 1 : Nat) : Int) := by omega
              rcases Nat.eq_zero_or_pos k with hk0 | hk0
              · subst hk0
                go_wp2_with fail
                exact ⟨⟨1, by omega, by first | rfl | go_num, hbr'.out, okTo_one LL⟩, by simp [intOf] <;> omega⟩
              · rcases Nat.lt_or_ge k K with hkK | hkK
                · have hpos : (0 : Int) < (k : Int) := by omega
                  have hlast : (k : Int) < (K : Int) := by omega
                  have he3 : (mkB (Lib.trimS x [32, 9])).toList.isEmpty = blankL x := by rw [mkB_toList]; rfl
                  generalize mkB (Lib.trimS x [32, 9]) = TX at *
                  generalize hbx : blankL x = bx at he3
                  have hbx' := Lib.hid hbx; clear hbx
                  go_wp2_with fail
                  refine hTr.out.mono ?_
                  rintro e w5 ⟨rfl, hb5⟩
                  have hb5' := Lib.hid (hbr'.out.trans (hb5.mono hbr'.out.size)); clear hb5
                  cases bx with
                  | true =>
                    go_wp2_with fail
                    go_ret2
                    refine ⟨?_, hb4.out.trans (hb5'.out.mono hb4.out.size)⟩
                    rw [hT2.out, if_pos (blank_hit LL k x hk0 (by omega) hx'.out hbx'.out)]
                    rfl
                  | false =>
                    go_wp2_with fail
                    exact ⟨⟨k + 1, by omega, by first | rfl | go_num, hb5'.out, okTo_next LL k x hok'.out hx'.out hbx'.out⟩, by simp [intOf] <;> omega⟩
                · obtain rfl : k = K := by omega
                  have hpos : (0 : Int) < (k : Int) := by omega
                  go_wp2_with fail
                  exact ⟨⟨k + 1, by omega, by first | rfl | go_num, hbr'.out, okTo_last LL k hok'.out (by omega)⟩, by simp [intOf] <;> omega⟩
            · obtain rfl : k = K + 1 := by omega
              have hU4 := Lib.hid (hUn.out wr (hG3.out.below hbr))
              have hbr' := Lib.hid hbr; clear hbr
              have hok' := Lib.hid hok; clear hok
              clear hUn
              go_wp2_with fail
              refine hU4.out.mono ?_
              rintro e w5 ⟨rfl, hb5⟩
              have hb6 := Lib.hid (hbr'.out.trans (hb5.mono hbr'.out.size)); clear hb5
              go_wp2_with fail
              go_ret2
              refine ⟨?_, hb4.out.trans (hb6.out.mono hb4.out.size)⟩
              rw [hT2.out, if_neg (blank_none LL (by rw [hKl]; exact hok'.out))]
              rfl)
    by_cases h39 : c = 39
    · subst h39
      have hT : titleG (39 :: r) = match untilS [39] [] r with | none => ([], 0) | some n => if blankIn (lines (r.take n)) = true then ([], 0) else (unescape (r.take n), n + 2) := rfl
      have hU : Calls Tryz.prog 82 #[.string (mkB r), .string (mkB [39]), .string ⟨#[]⟩] w fun e w' => e = .returned (.tuple #[.int .i64 (((untilS [39] [] r).getD 0 : Nat) : Int), .bool (untilS [39] [] r).isSome]) ∧ Below w.heap.size w w' := until_calls r [39] [] w hG (by omega)
      replace hle := hle [39] []
      generalize titleG (39 :: r) = TT at *
      obtain ⟨UU, hUU⟩ : ∃ UU, UU = untilS [39] [] r := ⟨_, rfl⟩
      rw [← hUU] at hU hT hle
      obtain ⟨c, hc⟩ : ∃ c : UInt8, c = 39 := ⟨_, rfl⟩
      rw [← hc] at he hs hi hf hsl hU ⊢
      have hci : (c.toNat : Int) = 39 := by rw [hc]; rfl
      have hc' := Lib.hid hc; clear hc
      go_enter Tryz.func44, Tryz.ntmps44
      (
        obtain ⟨A, hA⟩ : ∃ A, UU = A := ⟨_, rfl⟩
        subst hUU
        rw [hA] at hU hT hle
        have hT' := Lib.hid hT; clear hT
        have hU' := Lib.hid hU; clear hU hA
        go_wp2_with fail
        refine hU'.out.mono ?_
        rintro e w2 ⟨rfl, hb2⟩
        cases A with
        | none =>
          have hb2' := Lib.hid hb2; clear hb2 hle
          go_wp2_with fail
          go_ret2
          exact ⟨by rw [hT'.out]; rfl, hb2'.out⟩
        | some n =>
          have hn := hle n rfl
          have hmid : ∀ W, (Instr.slice 9 (.string (mkB (c :: r))) (some (.int .i64 1)) (some (.int .i64 ((n : Int) + 1))) none).run Tryz.prog W = .ok (.string (mkB (r.take n))) W := fun W => by
            have := sl_mid (c :: r) 1 (n + 1) (by omega) (by simp only [List.length_cons]; omega) W
            exact this
          have htl : (r.take n).length ≤ 1000000000 := by rw [List.length_take]; omega
          have hUn := Lib.hid (fun W (hW : GW W) => unescape_calls (r.take n) W hW (by omega))
          have hG2 := Lib.hid (hG.below hb2)
          have hb2' := Lib.hid hb2; clear hb2 hle
          have hT2 := Lib.hid (show TT = (if blankIn (lines (r.take n)) = true then ([], 0) else (unescape (r.take n), n + 2)) from hT'.out); clear hT'
          obtain ⟨K, hK⟩ : ∃ K, K = Lib.countB (mkB (r.take n)) ⟨#[10]⟩ := ⟨_, rfl⟩
          have hKl := lines_len (r.take n)
          rw [← hK] at hKl
          have hKs := count_le (r.take n)
          rw [← hK] at hKs
          have hSp := split_any (r.take n) (by omega) w2 hG2.out
          rw [← hK] at hSp
          replace hSp := Lib.hid hSp
          have hlines := lines_le (r.take n)
          generalize r.take n = tt at *
          generalize hLL : lines tt = LL at *
          clear hK
          go_wp2_with fail
          refine hSp.out.mono ?_
          rintro e w3 ⟨rfl, rfl⟩
          have hc0 : ∀ o, (w2.alloc (.cells (LL.map fun x => Value.string (mkB x)).toArray 9)).cell? ⟨w2.heap.size, o, none⟩ = (LL.map fun x => Value.string (mkB x)).toArray[o]? := fun o => by rw [World.cell?_alloc_new]
          have hb3 := Lib.hid ((Below.refl _ w2).alloc (Nat.le_refl _) (.cells (LL.map fun x => Value.string (mkB x)).toArray 9))
          have hb4 := Lib.hid (hb2'.out.trans (hb3.out.mono hb2'.out.size))
          have hG3 := Lib.hid (hG2.out.below hb3.out)
          clear hb3
          generalize w2.alloc (.cells (LL.map fun x => Value.string (mkB x)).toArray 9) = W3 at *
          have hc0' := Lib.hid hc0; clear hc0
          go_wp2_with fail
          go_loopw [41] (fun i wr => ∃ k : Nat, k ≤ K + 1 ∧ i = .int .i64 (k : Int) ∧ Below W3.heap.size W3 wr ∧ okTo LL k) (fun i _ => K + 2 - (intOf i).toNat)
          case atStart => exact ⟨0, by omega, rfl, Below.refl _ _, okTo_zero LL⟩
          case round =>
            obtain ⟨k, hk, rfl, hbr, hok⟩ := hrel
            rcases Nat.lt_or_ge k (K + 1) with hlt | hge
            · obtain ⟨x, hx⟩ : ∃ x, LL[k]? = some x := ⟨_, List.getElem?_eq_getElem (by omega)⟩
              have hcell : wr.cell? ⟨w2.heap.size, k, none⟩ = some (.string (mkB x)) := cell_below (by rw [hc0'.out k]; simp [hx]) hbr
              have hTr := Lib.hid (trim_calls x wr (hG3.out.below hbr) (Nat.le_trans (hlines x (List.mem_of_getElem? hx)) htl))
              have hbr' := Lib.hid hbr; clear hbr
              have hok' := Lib.hid hok; clear hok
              have hx' := Lib.hid hx; clear hx
              have h0 : (0 : Int) ≤ (k : Int) := by omega
              have h1 : (k : Int) < ((K + 1 : Nat) : Int) := by omega
              rcases Nat.eq_zero_or_pos k with hk0 | hk0
              · subst hk0
                go_wp2_with fail
                exact ⟨⟨1, by omega, by first | rfl | go_num, hbr'.out, okTo_one LL⟩, by simp [intOf] <;> omega⟩
              · rcases Nat.lt_or_ge k K with hkK | hkK
                · have hpos : (0 : Int) < (k : Int) := by omega
                  have hlast : (k : Int) < (K : Int) := by omega
                  have he3 : (mkB (Lib.trimS x [32, 9])).toList.isEmpty = blankL x := by rw [mkB_toList]; rfl
                  generalize mkB (Lib.trimS x [32, 9]) = TX at *
                  generalize hbx : blankL x = bx at he3
                  have hbx' := Lib.hid hbx; clear hbx
                  go_wp2_with fail
                  refine hTr.out.mono ?_
                  rintro e w5 ⟨rfl, hb5⟩
                  have hb5' := Lib.hid (hbr'.out.trans (hb5.mono hbr'.out.size)); clear hb5
                  cases bx with
                  | true =>
                    go_wp2_with fail
                    go_ret2
                    refine ⟨?_, hb4.out.trans (hb5'.out.mono hb4.out.size)⟩
                    rw [hT2.out, if_pos (blank_hit LL k x hk0 (by omega) hx'.out hbx'.out)]
                    rfl
                  | false =>
                    go_wp2_with fail
                    exact ⟨⟨k + 1, by omega, by first | rfl | go_num, hb5'.out, okTo_next LL k x hok'.out hx'.out hbx'.out⟩, by simp [intOf] <;> omega⟩
                · obtain rfl : k = K := by omega
                  have hpos : (0 : Int) < (k : Int) := by omega
                  go_wp2_with fail
                  exact ⟨⟨k + 1, by omega, by first | rfl | go_num, hbr'.out, okTo_last LL k hok'.out (by omega)⟩, by simp [intOf] <;> omega⟩
            · obtain rfl : k = K + 1 := by omega
              have hU4 := Lib.hid (hUn.out wr (hG3.out.below hbr))
              have hbr' := Lib.hid hbr; clear hbr
              have hok' := Lib.hid hok; clear hok
              clear hUn
              go_wp2_with fail
              refine hU4.out.mono ?_
              rintro e w5 ⟨rfl, hb5⟩
              have hb6 := Lib.hid (hbr'.out.trans (hb5.mono hbr'.out.size)); clear hb5
              go_wp2_with fail
              go_ret2
              refine ⟨?_, hb4.out.trans (hb6.out.mono hb4.out.size)⟩
              rw [hT2.out, if_neg (blank_none LL (by rw [hKl]; exact hok'.out))]
              rfl)
    have hT : titleG (c :: r) = ([], 0) := by
      have : titleEnd c = none := by unfold titleEnd; rw [if_neg h40, if_neg (by rintro (h | h); exact h34 h; exact h39 h)]
      simp only [titleG, this]
    rw [hT]
    have n40 : ¬ ((c.toNat : Int) = 40) := fun e => h40 (UInt8.toNat_inj.1 (by show c.toNat = 40; omega))
    have n34 : ¬ ((c.toNat : Int) = 34) := fun e => h34 (UInt8.toNat_inj.1 (by show c.toNat = 34; omega))
    have n39 : ¬ ((c.toNat : Int) = 39) := fun e => h39 (UInt8.toNat_inj.1 (by show c.toNat = 39; omega))
    clear hle hT
    go_enter Tryz.func44, Tryz.ntmps44
    go_wp2_with fail
    go_ret2
    exact ⟨rfl, Below.refl _ _⟩
end Go.Proofs.YthdlibgiejpjeaaGreatDoor.Given
/- The contract of link.Define at any text: the walk, over what its calls answer. -/
set_option linter.unusedVariables false
set_option linter.unusedSimpArgs false
namespace Go.Proofs.YthdlibgiejpjeaaGreatDoor.Given
open Go Go.RowKit Go.Proofs.YthdlibgiejpjeaaGreatDoor Go.Proofs.YthdlibgiejpjeaaGreatDoorW.PrintWords Go.Proofs.YthdlibgiejpjeaaGreatDoor.Spec Go.Proofs.YthdlibgiejpjeaaGreatDoor.PureAid

def defRes (n1 n2 n3 k len e1 e2 : Nat) (B b1 b2 : Bool) (FB D T : ByteArray) : ByteArray × ByteArray × ByteArray × Nat :=
  if n1 = 0 then (⟨#[]⟩, ⟨#[]⟩, ⟨#[]⟩, 0)
  else if B = false then (⟨#[]⟩, ⟨#[]⟩, ⟨#[]⟩, 0)
  else if n2 = 0 then (⟨#[]⟩, ⟨#[]⟩, ⟨#[]⟩, 0)
  else if 0 < k ∧ 0 < n3 ∧ b1 = true then (FB, D, T, len - e1)
  else if b2 = true then (FB, D, ⟨#[]⟩, len - e2)
  else (⟨#[]⟩, ⟨#[]⟩, ⟨#[]⟩, 0)
set_option maxHeartbeats 8000000 in
set_option maxRecDepth 1000000 in
theorem define_core (A0 A1 A2 A3 A4 A5 A6 A7 A8 A9 La FB D T E1 E2 : ByteArray) (n1 n2 n3 g k len e1 e2 : Nat) (B b1 b2 : Bool) (w : World) (hG : GW w)
    (hTP0 : ∀ W, Calls Tryz.prog 77 #[.string A0, .string ⟨#[32]⟩] W fun e w' => e = .returned (.string A1) ∧ w' = W)
    (hTP1 : ∀ W, Calls Tryz.prog 77 #[.string A1, .string ⟨#[32]⟩] W fun e w' => e = .returned (.string A2) ∧ w' = W)
    (hTP2 : ∀ W, Calls Tryz.prog 77 #[.string A2, .string ⟨#[32]⟩] W fun e w' => e = .returned (.string A3) ∧ w' = W)
    (hLab : ∀ W, GW W → Calls Tryz.prog 42 #[.string A3] W fun e w' => e = .returned (.tuple #[.string La, .int .i64 (n1 : Int)]) ∧ Below W.heap.size W w')
    (hs1 : 0 < n1 → ∀ W, (Instr.slice 9 (.string A3) (some (.int .i64 (n1 : Int))) none none).run Tryz.prog W = .ok (.string A4) W)
    (hHP : ∀ W, Calls Tryz.prog 76 #[.string A4, .string ⟨#[58]⟩] W fun e w' => e = .returned (.bool B) ∧ w' = W)
    (hs2 : 0 < n1 → B = true → ∀ W, (Instr.slice 9 (.string A3) (some (.int .i64 ((n1 : Int) + 1))) none none).run Tryz.prog W = .ok (.string A5) W)
    (hGap1 : ∀ W, GW W → Calls Tryz.prog 85 #[.string A5] W fun e w' => e = .returned (.int .i64 (g : Int)) ∧ Below W.heap.size W w')
    (hs3 : ∀ W, (Instr.slice 9 (.string A5) (some (.int .i64 (g : Int))) none none).run Tryz.prog W = .ok (.string A6) W)
    (hD : ∀ W, GW W → Calls Tryz.prog 43 #[.string A6] W fun e w' => e = .returned (.tuple #[.string D, .int .i64 (n2 : Int)]) ∧ Below W.heap.size W w')
    (hs4 : ∀ W, (Instr.slice 9 (.string A6) (some (.int .i64 (n2 : Int))) none none).run Tryz.prog W = .ok (.string A7) W)
    (hF : ∀ W, GW W → Calls Tryz.prog 83 #[.string La] W fun e w' => e = .returned (.string FB) ∧ Below W.heap.size W w')
    (hGap2 : ∀ W, GW W → Calls Tryz.prog 85 #[.string A7] W fun e w' => e = .returned (.int .i64 (k : Int)) ∧ Below W.heap.size W w')
    (hs5 : ∀ W, (Instr.slice 9 (.string A7) (some (.int .i64 (k : Int))) none none).run Tryz.prog W = .ok (.string A8) W)
    (hT : ∀ W, GW W → Calls Tryz.prog 44 #[.string A8] W fun e w' => e = .returned (.tuple #[.string T, .int .i64 (n3 : Int)]) ∧ Below W.heap.size W w')
    (hs6 : ∀ W, (Instr.slice 9 (.string A7) (some (.int .i64 ((k : Int) + (n3 : Int)))) none none).run Tryz.prog W = .ok (.string A9) W)
    (hLi1 : ∀ W, GW W → Calls Tryz.prog 86 #[.string A9] W fun e w' => e = .returned (.tuple #[.string E1, .bool b1]) ∧ Below W.heap.size W w')
    (hLi2 : ∀ W, GW W → Calls Tryz.prog 86 #[.string A7] W fun e w' => e = .returned (.tuple #[.string E2, .bool b2]) ∧ Below W.heap.size W w')
    (z0 : A0.size = len) (z1 : E1.size = e1) (z2 : E2.size = e2) (y1 : e1 ≤ len) (y2 : e2 ≤ len) (hl : len ≤ 1000000000) (m1 : n1 ≤ 1000000000) (mk : k ≤ 1000000000) (m3 : n3 ≤ 1000000002) :
    Calls Tryz.prog 45 #[.string A0] w fun e w' => e = .returned (.tuple #[.agg #[.string (defRes n1 n2 n3 k len e1 e2 B b1 b2 FB D T).1, .string (defRes n1 n2 n3 k len e1 e2 B b1 b2 FB D T).2.1, .string (defRes n1 n2 n3 k len e1 e2 B b1 b2 FB D T).2.2.1], .int .i64 ((defRes n1 n2 n3 k len e1 e2 B b1 b2 FB D T).2.2.2 : Int)]) ∧ Below w.heap.size w w' := by
  obtain ⟨R, hR⟩ : ∃ R, defRes n1 n2 n3 k len e1 e2 B b1 b2 FB D T = R := ⟨_, rfl⟩
  rw [hR]
  unfold defRes at hR
  replace hR := Lib.hid hR
  have y1' := Lib.hid y1; clear y1
  have y2' := Lib.hid y2; clear y2
  have hl' := Lib.hid hl; clear hl
  have m1' := Lib.hid m1; clear m1
  have mk' := Lib.hid mk; clear mk
  have m3' := Lib.hid m3; clear m3
  have z0' := Lib.hid z0; clear z0
  have z1' := Lib.hid z1; clear z1
  have z2' := Lib.hid z2; clear z2
  replace hTP0 := Lib.hid hTP0
  replace hTP1 := Lib.hid hTP1
  replace hTP2 := Lib.hid hTP2
  replace hLab := Lib.hid hLab
  replace hs1 := Lib.hid hs1
  replace hHP := Lib.hid hHP
  replace hs2 := Lib.hid hs2
  replace hGap1 := Lib.hid hGap1
  replace hs3 := Lib.hid hs3
  replace hD := Lib.hid hD
  replace hs4 := Lib.hid hs4
  replace hF := Lib.hid hF
  replace hGap2 := Lib.hid hGap2
  replace hs5 := Lib.hid hs5
  replace hT := Lib.hid hT
  replace hs6 := Lib.hid hs6
  replace hLi1 := Lib.hid hLi1
  replace hLi2 := Lib.hid hLi2
  go_enter Tryz.func45, Tryz.ntmps45
  go_wp2_with fail
  have q1 := (Below.refl w.heap.size w).alloc (Nat.le_refl _) (.cells #[.string ⟨#[]⟩, .string ⟨#[]⟩, .string ⟨#[]⟩] 48)
  have q2 := q1.alloc q1.size (.cells #[.string ⟨#[]⟩, .string ⟨#[]⟩, .string ⟨#[]⟩] 48)
  have hcell : ∀ o, ((w.alloc (.cells #[.string ⟨#[]⟩, .string ⟨#[]⟩, .string ⟨#[]⟩] 48)).alloc (.cells #[.string ⟨#[]⟩, .string ⟨#[]⟩, .string ⟨#[]⟩] 48)).cell? ⟨w.heap.size, o, none⟩ = #[Value.string ⟨#[]⟩, .string ⟨#[]⟩, .string ⟨#[]⟩][o]? := fun o => by
    rw [World.cell?_alloc_lt _ _ _ (by show w.heap.size < (w.heap.push _).size; rw [Array.size_push]; omega), World.cell?_alloc_new]
  have hsz1 : (w.alloc (.cells #[.string ⟨#[]⟩, .string ⟨#[]⟩, .string ⟨#[]⟩] 48)).heap.size = w.heap.size + 1 := by show (w.heap.push _).size = _; rw [Array.size_push]
  have hcelN : ∀ o, ((w.alloc (.cells #[.string ⟨#[]⟩, .string ⟨#[]⟩, .string ⟨#[]⟩] 48)).alloc (.cells #[.string ⟨#[]⟩, .string ⟨#[]⟩, .string ⟨#[]⟩] 48)).cell? ⟨w.heap.size + 1, o, none⟩ = #[Value.string ⟨#[]⟩, .string ⟨#[]⟩, .string ⟨#[]⟩][o]? := fun o => by
    rw [← hsz1, World.cell?_alloc_new]
  have hfro : ∀ o, ((w.alloc (.cells #[.string ⟨#[]⟩, .string ⟨#[]⟩, .string ⟨#[]⟩] 48)).alloc (.cells #[.string ⟨#[]⟩, .string ⟨#[]⟩, .string ⟨#[]⟩] 48)).frozen? ⟨w.heap.size, o, none⟩ = false := fun o => by
    rw [((Below.refl _ (w.alloc (.cells #[.string ⟨#[]⟩, .string ⟨#[]⟩, .string ⟨#[]⟩] 48))).alloc (Nat.le_refl _) _).frozen (by show w.heap.size < (w.heap.push _).size; rw [Array.size_push]; omega)]
    exact World.frozen?_alloc_new _ _ _ _
  have hblk := blk_alloc (blk_new w (.cells #[.string ⟨#[]⟩, .string ⟨#[]⟩, .string ⟨#[]⟩] 48)) (.cells #[.string ⟨#[]⟩, .string ⟨#[]⟩, .string ⟨#[]⟩] 48)
  have hG0 := hG.below q2
  generalize (w.alloc (.cells #[.string ⟨#[]⟩, .string ⟨#[]⟩, .string ⟨#[]⟩] 48)).alloc (.cells #[.string ⟨#[]⟩, .string ⟨#[]⟩, .string ⟨#[]⟩] 48) = W0 at *
  have hc0 := Lib.hid (show W0.cell? ⟨w.heap.size, 0, none⟩ = some (.string ⟨#[]⟩) from hcell 0)
  have hc1 := Lib.hid (show W0.cell? ⟨w.heap.size, 1, none⟩ = some (.string ⟨#[]⟩) from hcell 1)
  have hc2 := Lib.hid (show W0.cell? ⟨w.heap.size, 2, none⟩ = some (.string ⟨#[]⟩) from hcell 2)
  have hn0 := Lib.hid (show W0.cell? ⟨w.heap.size + 1, 0, none⟩ = some (.string ⟨#[]⟩) from hcelN 0)
  have hn1 := Lib.hid (show W0.cell? ⟨w.heap.size + 1, 1, none⟩ = some (.string ⟨#[]⟩) from hcelN 1)
  have hn2 := Lib.hid (show W0.cell? ⟨w.heap.size + 1, 2, none⟩ = some (.string ⟨#[]⟩) from hcelN 2)
  have hf0 := Lib.hid hfro
  have hblk' := Lib.hid hblk; clear hblk
  have hq := Lib.hid q2
  clear hcell hcelN hsz1 hfro q1 q2
  go_loopw [5, 18] (fun r i wr => wr = W0 ∧ ((i = .int .i64 0 ∧ r = .string A0) ∨ (i = .int .i64 1 ∧ r = .string A1) ∨ (i = .int .i64 2 ∧ r = .string A2) ∨ (i = .int .i64 3 ∧ r = .string A3))) (fun _ i _ => 4 - (intOf i).toNat)
  case atStart => exact ⟨rfl, .inl ⟨rfl, rfl⟩⟩
  case round =>
    obtain ⟨rfl, hst⟩ := hrel
    rcases hst with ⟨rfl, rfl⟩ | ⟨rfl, rfl⟩ | ⟨rfl, rfl⟩ | ⟨rfl, rfl⟩
    · go_wp2_with fail
      refine (hTP0.out _).mono ?_
      rintro e w1 ⟨rfl, hww⟩
      have hww := hww.symm
      subst hww
      go_wp2_with fail
      exact ⟨⟨by first | rfl | trivial, .inr (.inl ⟨rfl, rfl⟩)⟩, by simp [intOf]⟩
    · go_wp2_with fail
      refine (hTP1.out _).mono ?_
      rintro e w1 ⟨rfl, hww⟩
      have hww := hww.symm
      subst hww
      go_wp2_with fail
      exact ⟨⟨by first | rfl | trivial, .inr (.inr (.inl ⟨rfl, rfl⟩))⟩, by simp [intOf]⟩
    · go_wp2_with fail
      refine (hTP2.out _).mono ?_
      rintro e w1 ⟨rfl, hww⟩
      have hww := hww.symm
      subst hww
      go_wp2_with fail
      exact ⟨⟨by first | rfl | trivial, .inr (.inr (.inr ⟨rfl, rfl⟩))⟩, by simp [intOf]⟩
    · go_wp2_with fail
      refine (hLab.out _ hG0).mono ?_
      rintro e w1 ⟨rfl, hb1⟩
      have hG1 := hG0.below hb1
      have hb1' := Lib.hid hb1; clear hb1
      rcases Nat.eq_zero_or_pos n1 with h1 | h1
      · subst h1
        (
            have hRv : R = (⟨#[]⟩, ⟨#[]⟩, ⟨#[]⟩, 0) := by rw [← hR.out]; rw [if_pos rfl]
            clear hR
            subst hRv
            have c0 := cell_below hn0.out hb1'.out
            have c1 := cell_below hn1.out hb1'.out
            have c2 := cell_below hn2.out hb1'.out
            have r0 := cell_below hc0.out hb1'.out
            have r1 := cell_below hc1.out hb1'.out
            have r2 := cell_below hc2.out hb1'.out
            have f0 := frozen_below hc0.out (hf0.out 0) hb1'.out
            have f1 := frozen_below hc1.out (hf0.out 1) hb1'.out
            have f2 := frozen_below hc2.out (hf0.out 2) hb1'.out
            have hb9 := Lib.hid (blk_below hblk'.out hb1'.out)
            go_wp2_with fail
            refine bodyPost_ret (results_ct rfl _ _ w.heap.size 48 #[.string ⟨#[]⟩, .string ⟨#[]⟩, .string ⟨#[]⟩] (0, 0) _ rfl
              (blk_put (cs := #[.string ⟨#[]⟩, .string ⟨#[]⟩, .string ⟨#[]⟩]) (blk_put (cs := #[.string ⟨#[]⟩, .string ⟨#[]⟩, .string ⟨#[]⟩]) (blk_put (cs := #[.string ⟨#[]⟩, .string ⟨#[]⟩, .string ⟨#[]⟩]) hb9.out 0 _ rfl) 1 _ rfl) 2 _ rfl)
              Tryz.underlying48 rfl (by kernel_rfl)) rfl ?_
            refine ⟨rfl, ?_⟩
            have hfin := hq.out.trans (hb1'.out.mono hq.out.size)
            exact ((hfin.setCell (p := ⟨w.heap.size, 0, none⟩) (Nat.le_refl _) _).setCell (p := ⟨w.heap.size, 1, none⟩) (Nat.le_refl _) _).setCell (p := ⟨w.heap.size, 2, none⟩) (Nat.le_refl _) _)
      · have p1 : ¬ (n1 : Int) = 0 := by omega
        have hs1' := hs1.out h1
        go_wp2_with fail
        refine (hHP.out _).mono ?_
        rintro e w2 ⟨rfl, hww⟩
        have hww := hww.symm
        subst hww
        clear hs1'
        cases B with
        | false =>
          (
            have hRv : R = (⟨#[]⟩, ⟨#[]⟩, ⟨#[]⟩, 0) := by rw [← hR.out]; rw [if_neg (by omega), if_pos rfl]
            clear hR
            subst hRv
            have c0 := cell_below hn0.out hb1'.out
            have c1 := cell_below hn1.out hb1'.out
            have c2 := cell_below hn2.out hb1'.out
            have r0 := cell_below hc0.out hb1'.out
            have r1 := cell_below hc1.out hb1'.out
            have r2 := cell_below hc2.out hb1'.out
            have f0 := frozen_below hc0.out (hf0.out 0) hb1'.out
            have f1 := frozen_below hc1.out (hf0.out 1) hb1'.out
            have f2 := frozen_below hc2.out (hf0.out 2) hb1'.out
            have hb9 := Lib.hid (blk_below hblk'.out hb1'.out)
            go_wp2_with fail
            refine bodyPost_ret (results_ct rfl _ _ w.heap.size 48 #[.string ⟨#[]⟩, .string ⟨#[]⟩, .string ⟨#[]⟩] (0, 0) _ rfl
              (blk_put (cs := #[.string ⟨#[]⟩, .string ⟨#[]⟩, .string ⟨#[]⟩]) (blk_put (cs := #[.string ⟨#[]⟩, .string ⟨#[]⟩, .string ⟨#[]⟩]) (blk_put (cs := #[.string ⟨#[]⟩, .string ⟨#[]⟩, .string ⟨#[]⟩]) hb9.out 0 _ rfl) 1 _ rfl) 2 _ rfl)
              Tryz.underlying48 rfl (by kernel_rfl)) rfl ?_
            refine ⟨rfl, ?_⟩
            have hfin := hq.out.trans (hb1'.out.mono hq.out.size)
            exact ((hfin.setCell (p := ⟨w.heap.size, 0, none⟩) (Nat.le_refl _) _).setCell (p := ⟨w.heap.size, 1, none⟩) (Nat.le_refl _) _).setCell (p := ⟨w.heap.size, 2, none⟩) (Nat.le_refl _) _)
        | true =>
          have hs2' := hs2.out h1 rfl
          have m1 := m1'.out
          go_wp2_with fail
          refine (hGap1.out _ hG1).mono ?_
          rintro e w2 ⟨rfl, hb2⟩
          have hG2 := hG1.below hb2
          have hb2' := Lib.hid (hb1'.out.trans (hb2.mono hb1'.out.size)); clear hb2 hs2'
          have hs3' := hs3.out
          go_wp2_with fail
          refine (hD.out _ hG2).mono ?_
          rintro e w3 ⟨rfl, hb3⟩
          have hG3 := hG2.below hb3
          have hb3' := Lib.hid (hb2'.out.trans (hb3.mono hb2'.out.size)); clear hb3 hs3'
          rcases Nat.eq_zero_or_pos n2 with h2 | h2
          · subst h2
            (
            have hRv : R = (⟨#[]⟩, ⟨#[]⟩, ⟨#[]⟩, 0) := by rw [← hR.out]; rw [if_neg (by omega), if_neg (by decide), if_pos rfl]
            clear hR
            subst hRv
            have c0 := cell_below hn0.out hb3'.out
            have c1 := cell_below hn1.out hb3'.out
            have c2 := cell_below hn2.out hb3'.out
            have r0 := cell_below hc0.out hb3'.out
            have r1 := cell_below hc1.out hb3'.out
            have r2 := cell_below hc2.out hb3'.out
            have f0 := frozen_below hc0.out (hf0.out 0) hb3'.out
            have f1 := frozen_below hc1.out (hf0.out 1) hb3'.out
            have f2 := frozen_below hc2.out (hf0.out 2) hb3'.out
            have hb9 := Lib.hid (blk_below hblk'.out hb3'.out)
            go_wp2_with fail
            refine bodyPost_ret (results_ct rfl _ _ w.heap.size 48 #[.string ⟨#[]⟩, .string ⟨#[]⟩, .string ⟨#[]⟩] (0, 0) _ rfl
              (blk_put (cs := #[.string ⟨#[]⟩, .string ⟨#[]⟩, .string ⟨#[]⟩]) (blk_put (cs := #[.string ⟨#[]⟩, .string ⟨#[]⟩, .string ⟨#[]⟩]) (blk_put (cs := #[.string ⟨#[]⟩, .string ⟨#[]⟩, .string ⟨#[]⟩]) hb9.out 0 _ rfl) 1 _ rfl) 2 _ rfl)
              Tryz.underlying48 rfl (by kernel_rfl)) rfl ?_
            refine ⟨rfl, ?_⟩
            have hfin := hq.out.trans (hb3'.out.mono hq.out.size)
            exact ((hfin.setCell (p := ⟨w.heap.size, 0, none⟩) (Nat.le_refl _) _).setCell (p := ⟨w.heap.size, 1, none⟩) (Nat.le_refl _) _).setCell (p := ⟨w.heap.size, 2, none⟩) (Nat.le_refl _) _)
          · have p2 : ¬ (n2 : Int) = 0 := by omega
            have hs4' := hs4.out
            go_wp2_with fail
            refine (hF.out _ hG3).mono ?_
            rintro e w4 ⟨rfl, hb4⟩
            have hG4 := hG3.below hb4
            have hb4' := Lib.hid (hb3'.out.trans (hb4.mono hb3'.out.size)); clear hb4
            (
                have hD0 := World.cell?_alloc_new w4 #[Value.string FB, .string D, .string ⟨#[]⟩] 48
                have hDf := World.frozen?_alloc_new w4 #[Value.string FB, .string D, .string ⟨#[]⟩] 48
                have qa := (Below.refl _ w4).alloc (Nat.le_refl _) (.cells #[.string FB, .string D, .string ⟨#[]⟩] 48)
                have hG5 := hG4.below qa
                have hb5' := Lib.hid (hb4'.out.trans (qa.mono hb4'.out.size)); clear qa
                go_wp2_with fail
                generalize hW5 : w4.alloc (.cells #[.string FB, .string D, .string ⟨#[]⟩] 48) = W5 at *
                have hD0' := Lib.hid hD0; clear hD0
                have hDf' := Lib.hid hDf; clear hDf
                have hW5' := Lib.hid hW5; clear hW5
                refine (hGap2.out _ hG5).mono ?_
                rintro e w6 ⟨rfl, hb6⟩
                have hG6 := hG5.below hb6
                have hk6 := Lib.hid hb6; clear hb6
                rcases Nat.eq_zero_or_pos k with h3 | h3
                · subst h3
                  have hRv := Lib.hid (show R = (if b2 = true then (FB, D, ⟨#[]⟩, len - e2) else (⟨#[]⟩, ⟨#[]⟩, ⟨#[]⟩, 0)) by rw [← hR.out]; rw [if_neg (by omega), if_neg (by decide), if_neg (by omega), if_neg (by rintro ⟨h, _⟩; omega)])
                  go_wp2_with fail
                  refine (hLi2.out _ hG6).mono ?_
                  rintro e w9 ⟨rfl, hb9⟩
                  have hk9 := Lib.hid (hk6.out.trans (hb9.mono hk6.out.size)); clear hb9
                  cases b2 with
                  | false =>
                    have hRn : R = (⟨#[]⟩, ⟨#[]⟩, ⟨#[]⟩, 0) := by rw [hRv.out]; rfl
                    clear hRv hR
                    have hall := Lib.hid (hb5'.out.trans (hk9.out.mono hb5'.out.size))
                    subst hRn
                    have c0 := cell_below hn0.out hall.out
                    have c1 := cell_below hn1.out hall.out
                    have c2 := cell_below hn2.out hall.out
                    have r0 := cell_below hc0.out hall.out
                    have r1 := cell_below hc1.out hall.out
                    have r2 := cell_below hc2.out hall.out
                    have f0 := frozen_below hc0.out (hf0.out 0) hall.out
                    have f1 := frozen_below hc1.out (hf0.out 1) hall.out
                    have f2 := frozen_below hc2.out (hf0.out 2) hall.out
                    have hb9 := Lib.hid (blk_below hblk'.out hall.out)
                    go_wp2_with fail
                    refine bodyPost_ret (results_ct rfl _ _ w.heap.size 48 #[.string ⟨#[]⟩, .string ⟨#[]⟩, .string ⟨#[]⟩] (0, 0) _ rfl
                      (blk_put (cs := #[.string ⟨#[]⟩, .string ⟨#[]⟩, .string ⟨#[]⟩]) (blk_put (cs := #[.string ⟨#[]⟩, .string ⟨#[]⟩, .string ⟨#[]⟩]) (blk_put (cs := #[.string ⟨#[]⟩, .string ⟨#[]⟩, .string ⟨#[]⟩]) hb9.out 0 _ rfl) 1 _ rfl) 2 _ rfl)
                      Tryz.underlying48 rfl (by kernel_rfl)) rfl ?_
                    refine ⟨rfl, ?_⟩
                    have hfin := hq.out.trans (hall.out.mono hq.out.size)
                    exact ((hfin.setCell (p := ⟨w.heap.size, 0, none⟩) (Nat.le_refl _) _).setCell (p := ⟨w.heap.size, 1, none⟩) (Nat.le_refl _) _).setCell (p := ⟨w.heap.size, 2, none⟩) (Nat.le_refl _) _

                  | true =>
                    have hRn : R = (FB, D, ⟨#[]⟩, len - e2) := by rw [hRv.out]; rfl
                    clear hRv hR
                    subst hRn
                    have d0 := cell_below (hD0'.out 0) hk9.out
                    have d1 := cell_below (hD0'.out 1) hk9.out
                    have d2 := cell_below (hD0'.out 2) hk9.out
                    replace d0 : _ = some (Value.string FB) := d0
                    replace d1 : _ = some (Value.string D) := d1
                    replace d2 : _ = some (Value.string ⟨#[]⟩) := d2
                    have hall := Lib.hid (hb5'.out.trans (hk9.out.mono hb5'.out.size))
                    have r0 := cell_below hc0.out hall.out
                    have r1 := cell_below hc1.out hall.out
                    have r2 := cell_below hc2.out hall.out
                    have f0 := frozen_below hc0.out (hf0.out 0) hall.out
                    have f1 := frozen_below hc1.out (hf0.out 1) hall.out
                    have f2 := frozen_below hc2.out (hf0.out 2) hall.out
                    have g2 := frozen_below (hD0'.out 2) (hDf'.out 2) hk9.out
                    have rlt : w.heap.size < wr.heap.size := lt_of_cell hc0.out
                    have dne : w.heap.size < w4.heap.size := Nat.lt_of_lt_of_le rlt hb4'.out.size
                    have hb9 := Lib.hid (blk_below hblk'.out hall.out)
                    have z0 := z0'.out
                    have z2 := z2'.out
                    have hsub : wrap64 ((len : Int) - (e2 : Int)) = ((len - e2 : Nat) : Int) := by
                      have h1 := y2'.out
                      have h2 := hl'.out
                      rw [show (len : Int) - (e2 : Int) = ((len - e2 : Nat) : Int) by omega]; exact wrap_in _ (by omega)
                    go_wp2_with fail
                    refine bodyPost_ret (results_ct rfl _ _ w.heap.size 48 #[.string FB, .string D, .string ⟨#[]⟩] (0, 0) _ rfl
                      (blk_put (cs := #[.string FB, .string D, .string ⟨#[]⟩]) (blk_put (cs := #[.string FB, .string ⟨#[]⟩, .string ⟨#[]⟩]) (blk_put (cs := #[.string ⟨#[]⟩, .string ⟨#[]⟩, .string ⟨#[]⟩]) hb9.out 0 _ rfl) 1 _ rfl) 2 _ rfl)
                      Tryz.underlying48 rfl (by kernel_rfl)) rfl ?_
                    refine ⟨by first | rfl | (rw [hsub]) | (simp only [hsub]), ?_⟩
                    have hfin := hq.out.trans (hall.out.mono hq.out.size)
                    exact ((hfin.setCell (p := ⟨w.heap.size, 0, none⟩) (Nat.le_refl _) _).setCell (p := ⟨w.heap.size, 1, none⟩) (Nat.le_refl _) _).setCell (p := ⟨w.heap.size, 2, none⟩) (Nat.le_refl _) _


                · have p3 : (0 : Int) < (k : Int) := by omega
                  have hs5' := hs5.out
                  go_wp2_with fail
                  refine (hT.out _ hG6).mono ?_
                  rintro e w7 ⟨rfl, hb7⟩
                  have hG7 := hG6.below hb7
                  have hk7 := Lib.hid (hk6.out.trans (hb7.mono hk6.out.size)); clear hb7 hs5'
                  rcases Nat.eq_zero_or_pos n3 with h4 | h4
                  · subst h4
                    have hRv := Lib.hid (show R = (if b2 = true then (FB, D, ⟨#[]⟩, len - e2) else (⟨#[]⟩, ⟨#[]⟩, ⟨#[]⟩, 0)) by rw [← hR.out]; rw [if_neg (by omega), if_neg (by decide), if_neg (by omega), if_neg (by rintro ⟨_, h, _⟩; omega)])
                    go_wp2_with fail
                    refine (hLi2.out _ hG7).mono ?_
                    rintro e w9 ⟨rfl, hb9⟩
                    have hk9 := Lib.hid (hk7.out.trans (hb9.mono hk7.out.size)); clear hb9
                    cases b2 with
                    | false =>
                      have hRn : R = (⟨#[]⟩, ⟨#[]⟩, ⟨#[]⟩, 0) := by rw [hRv.out]; rfl
                      clear hRv hR
                      have hall := Lib.hid (hb5'.out.trans (hk9.out.mono hb5'.out.size))
                      subst hRn
                      have c0 := cell_below hn0.out hall.out
                      have c1 := cell_below hn1.out hall.out
                      have c2 := cell_below hn2.out hall.out
                      have r0 := cell_below hc0.out hall.out
                      have r1 := cell_below hc1.out hall.out
                      have r2 := cell_below hc2.out hall.out
                      have f0 := frozen_below hc0.out (hf0.out 0) hall.out
                      have f1 := frozen_below hc1.out (hf0.out 1) hall.out
                      have f2 := frozen_below hc2.out (hf0.out 2) hall.out
                      have hb9 := Lib.hid (blk_below hblk'.out hall.out)
                      go_wp2_with fail
                      refine bodyPost_ret (results_ct rfl _ _ w.heap.size 48 #[.string ⟨#[]⟩, .string ⟨#[]⟩, .string ⟨#[]⟩] (0, 0) _ rfl
                        (blk_put (cs := #[.string ⟨#[]⟩, .string ⟨#[]⟩, .string ⟨#[]⟩]) (blk_put (cs := #[.string ⟨#[]⟩, .string ⟨#[]⟩, .string ⟨#[]⟩]) (blk_put (cs := #[.string ⟨#[]⟩, .string ⟨#[]⟩, .string ⟨#[]⟩]) hb9.out 0 _ rfl) 1 _ rfl) 2 _ rfl)
                        Tryz.underlying48 rfl (by kernel_rfl)) rfl ?_
                      refine ⟨rfl, ?_⟩
                      have hfin := hq.out.trans (hall.out.mono hq.out.size)
                      exact ((hfin.setCell (p := ⟨w.heap.size, 0, none⟩) (Nat.le_refl _) _).setCell (p := ⟨w.heap.size, 1, none⟩) (Nat.le_refl _) _).setCell (p := ⟨w.heap.size, 2, none⟩) (Nat.le_refl _) _

                    | true =>
                      have hRn : R = (FB, D, ⟨#[]⟩, len - e2) := by rw [hRv.out]; rfl
                      clear hRv hR
                      subst hRn
                      have d0 := cell_below (hD0'.out 0) hk9.out
                      have d1 := cell_below (hD0'.out 1) hk9.out
                      have d2 := cell_below (hD0'.out 2) hk9.out
                      replace d0 : _ = some (Value.string FB) := d0
                      replace d1 : _ = some (Value.string D) := d1
                      replace d2 : _ = some (Value.string ⟨#[]⟩) := d2
                      have hall := Lib.hid (hb5'.out.trans (hk9.out.mono hb5'.out.size))
                      have r0 := cell_below hc0.out hall.out
                      have r1 := cell_below hc1.out hall.out
                      have r2 := cell_below hc2.out hall.out
                      have f0 := frozen_below hc0.out (hf0.out 0) hall.out
                      have f1 := frozen_below hc1.out (hf0.out 1) hall.out
                      have f2 := frozen_below hc2.out (hf0.out 2) hall.out
                      have g2 := frozen_below (hD0'.out 2) (hDf'.out 2) hk9.out
                      have rlt : w.heap.size < wr.heap.size := lt_of_cell hc0.out
                      have dne : w.heap.size < w4.heap.size := Nat.lt_of_lt_of_le rlt hb4'.out.size
                      have hb9 := Lib.hid (blk_below hblk'.out hall.out)
                      have z0 := z0'.out
                      have z2 := z2'.out
                      have hsub : wrap64 ((len : Int) - (e2 : Int)) = ((len - e2 : Nat) : Int) := by
                        have h1 := y2'.out
                        have h2 := hl'.out
                        rw [show (len : Int) - (e2 : Int) = ((len - e2 : Nat) : Int) by omega]; exact wrap_in _ (by omega)
                      go_wp2_with fail
                      refine bodyPost_ret (results_ct rfl _ _ w.heap.size 48 #[.string FB, .string D, .string ⟨#[]⟩] (0, 0) _ rfl
                        (blk_put (cs := #[.string FB, .string D, .string ⟨#[]⟩]) (blk_put (cs := #[.string FB, .string ⟨#[]⟩, .string ⟨#[]⟩]) (blk_put (cs := #[.string ⟨#[]⟩, .string ⟨#[]⟩, .string ⟨#[]⟩]) hb9.out 0 _ rfl) 1 _ rfl) 2 _ rfl)
                        Tryz.underlying48 rfl (by kernel_rfl)) rfl ?_
                      refine ⟨by first | rfl | (rw [hsub]) | (simp only [hsub]), ?_⟩
                      have hfin := hq.out.trans (hall.out.mono hq.out.size)
                      exact ((hfin.setCell (p := ⟨w.heap.size, 0, none⟩) (Nat.le_refl _) _).setCell (p := ⟨w.heap.size, 1, none⟩) (Nat.le_refl _) _).setCell (p := ⟨w.heap.size, 2, none⟩) (Nat.le_refl _) _


                  · have p4 : (0 : Int) < (n3 : Int) := by omega
                    have mk := mk'.out
                    have m3 := m3'.out
                    have hs6' := hs6.out
                    go_wp2_with fail
                    refine (hLi1.out _ hG7).mono ?_
                    rintro e w8 ⟨rfl, hb8⟩
                    have hG8 := hG7.below hb8
                    have hk8 := Lib.hid (hk7.out.trans (hb8.mono hk7.out.size)); clear hb8 hs6'
                    cases b1 with
                    | false =>
                      have hRv := Lib.hid (show R = (if b2 = true then (FB, D, ⟨#[]⟩, len - e2) else (⟨#[]⟩, ⟨#[]⟩, ⟨#[]⟩, 0)) by rw [← hR.out]; rw [if_neg (by omega), if_neg (by decide), if_neg (by omega), if_neg (by rintro ⟨_, _, h⟩; cases h)])
                      go_wp2_with fail
                      refine (hLi2.out _ hG8).mono ?_
                      rintro e w9 ⟨rfl, hb9⟩
                      have hk9 := Lib.hid (hk8.out.trans (hb9.mono hk8.out.size)); clear hb9
                      cases b2 with
                      | false =>
                        have hRn : R = (⟨#[]⟩, ⟨#[]⟩, ⟨#[]⟩, 0) := by rw [hRv.out]; rfl
                        clear hRv hR
                        have hall := Lib.hid (hb5'.out.trans (hk9.out.mono hb5'.out.size))
                        subst hRn
                        have c0 := cell_below hn0.out hall.out
                        have c1 := cell_below hn1.out hall.out
                        have c2 := cell_below hn2.out hall.out
                        have r0 := cell_below hc0.out hall.out
                        have r1 := cell_below hc1.out hall.out
                        have r2 := cell_below hc2.out hall.out
                        have f0 := frozen_below hc0.out (hf0.out 0) hall.out
                        have f1 := frozen_below hc1.out (hf0.out 1) hall.out
                        have f2 := frozen_below hc2.out (hf0.out 2) hall.out
                        have hb9 := Lib.hid (blk_below hblk'.out hall.out)
                        go_wp2_with fail
                        refine bodyPost_ret (results_ct rfl _ _ w.heap.size 48 #[.string ⟨#[]⟩, .string ⟨#[]⟩, .string ⟨#[]⟩] (0, 0) _ rfl
                          (blk_put (cs := #[.string ⟨#[]⟩, .string ⟨#[]⟩, .string ⟨#[]⟩]) (blk_put (cs := #[.string ⟨#[]⟩, .string ⟨#[]⟩, .string ⟨#[]⟩]) (blk_put (cs := #[.string ⟨#[]⟩, .string ⟨#[]⟩, .string ⟨#[]⟩]) hb9.out 0 _ rfl) 1 _ rfl) 2 _ rfl)
                          Tryz.underlying48 rfl (by kernel_rfl)) rfl ?_
                        refine ⟨rfl, ?_⟩
                        have hfin := hq.out.trans (hall.out.mono hq.out.size)
                        exact ((hfin.setCell (p := ⟨w.heap.size, 0, none⟩) (Nat.le_refl _) _).setCell (p := ⟨w.heap.size, 1, none⟩) (Nat.le_refl _) _).setCell (p := ⟨w.heap.size, 2, none⟩) (Nat.le_refl _) _

                      | true =>
                        have hRn : R = (FB, D, ⟨#[]⟩, len - e2) := by rw [hRv.out]; rfl
                        clear hRv hR
                        subst hRn
                        have d0 := cell_below (hD0'.out 0) hk9.out
                        have d1 := cell_below (hD0'.out 1) hk9.out
                        have d2 := cell_below (hD0'.out 2) hk9.out
                        replace d0 : _ = some (Value.string FB) := d0
                        replace d1 : _ = some (Value.string D) := d1
                        replace d2 : _ = some (Value.string ⟨#[]⟩) := d2
                        have hall := Lib.hid (hb5'.out.trans (hk9.out.mono hb5'.out.size))
                        have r0 := cell_below hc0.out hall.out
                        have r1 := cell_below hc1.out hall.out
                        have r2 := cell_below hc2.out hall.out
                        have f0 := frozen_below hc0.out (hf0.out 0) hall.out
                        have f1 := frozen_below hc1.out (hf0.out 1) hall.out
                        have f2 := frozen_below hc2.out (hf0.out 2) hall.out
                        have g2 := frozen_below (hD0'.out 2) (hDf'.out 2) hk9.out
                        have rlt : w.heap.size < wr.heap.size := lt_of_cell hc0.out
                        have dne : w.heap.size < w4.heap.size := Nat.lt_of_lt_of_le rlt hb4'.out.size
                        have hb9 := Lib.hid (blk_below hblk'.out hall.out)
                        have z0 := z0'.out
                        have z2 := z2'.out
                        have hsub : wrap64 ((len : Int) - (e2 : Int)) = ((len - e2 : Nat) : Int) := by
                          have h1 := y2'.out
                          have h2 := hl'.out
                          rw [show (len : Int) - (e2 : Int) = ((len - e2 : Nat) : Int) by omega]; exact wrap_in _ (by omega)
                        go_wp2_with fail
                        refine bodyPost_ret (results_ct rfl _ _ w.heap.size 48 #[.string FB, .string D, .string ⟨#[]⟩] (0, 0) _ rfl
                          (blk_put (cs := #[.string FB, .string D, .string ⟨#[]⟩]) (blk_put (cs := #[.string FB, .string ⟨#[]⟩, .string ⟨#[]⟩]) (blk_put (cs := #[.string ⟨#[]⟩, .string ⟨#[]⟩, .string ⟨#[]⟩]) hb9.out 0 _ rfl) 1 _ rfl) 2 _ rfl)
                          Tryz.underlying48 rfl (by kernel_rfl)) rfl ?_
                        refine ⟨by first | rfl | (rw [hsub]) | (simp only [hsub]), ?_⟩
                        have hfin := hq.out.trans (hall.out.mono hq.out.size)
                        exact ((hfin.setCell (p := ⟨w.heap.size, 0, none⟩) (Nat.le_refl _) _).setCell (p := ⟨w.heap.size, 1, none⟩) (Nat.le_refl _) _).setCell (p := ⟨w.heap.size, 2, none⟩) (Nat.le_refl _) _


                    | true =>
                      have hRn : R = (FB, D, T, len - e1) := by rw [← hR.out]; rw [if_neg (by omega), if_neg (by decide), if_neg (by omega), if_pos ⟨h3, h4, rfl⟩]
                      clear hR
                      subst hRn
                      have d0 := cell_below (hD0'.out 0) hk8.out
                      have d1 := cell_below (hD0'.out 1) hk8.out
                      have d2 := cell_below (hD0'.out 2) hk8.out
                      replace d0 : _ = some (Value.string FB) := d0
                      replace d1 : _ = some (Value.string D) := d1
                      replace d2 : _ = some (Value.string ⟨#[]⟩) := d2
                      have hall := Lib.hid (hb5'.out.trans (hk8.out.mono hb5'.out.size))
                      have r0 := cell_below hc0.out hall.out
                      have r1 := cell_below hc1.out hall.out
                      have r2 := cell_below hc2.out hall.out
                      have f0 := frozen_below hc0.out (hf0.out 0) hall.out
                      have f1 := frozen_below hc1.out (hf0.out 1) hall.out
                      have f2 := frozen_below hc2.out (hf0.out 2) hall.out
                      have g2 := frozen_below (hD0'.out 2) (hDf'.out 2) hk8.out
                      have rlt : w.heap.size < wr.heap.size := lt_of_cell hc0.out
                      have dne : w.heap.size < w4.heap.size := Nat.lt_of_lt_of_le rlt hb4'.out.size
                      have hb9 := Lib.hid (blk_below hblk'.out hall.out)
                      have z0 := z0'.out
                      have z1 := z1'.out
                      have hsub : wrap64 ((len : Int) - (e1 : Int)) = ((len - e1 : Nat) : Int) := by
                        have h1 := y1'.out
                        have h2 := hl'.out
                        rw [show (len : Int) - (e1 : Int) = ((len - e1 : Nat) : Int) by omega]; exact wrap_in _ (by omega)
                      go_wp2_with fail
                      refine bodyPost_ret (results_ct rfl _ _ w.heap.size 48 #[.string FB, .string D, .string T] (0, 0) _ rfl
                        (blk_put (cs := #[.string FB, .string D, .string ⟨#[]⟩]) (blk_put (cs := #[.string FB, .string ⟨#[]⟩, .string ⟨#[]⟩]) (blk_put (cs := #[.string ⟨#[]⟩, .string ⟨#[]⟩, .string ⟨#[]⟩]) (blk_far hb9.out (show w.heap.size ≠ w4.heap.size by omega) _) 0 _ rfl) 1 _ rfl) 2 _ rfl)
                        Tryz.underlying48 rfl (by kernel_rfl)) rfl ?_
                      refine ⟨by first | rfl | (rw [hsub]) | (simp only [hsub]), ?_⟩
                      have hfin := hq.out.trans (hall.out.mono hq.out.size)
                      exact (((hfin.setCell (p := ⟨w4.heap.size, 2, none⟩) (Nat.le_of_lt dne) _).setCell (p := ⟨w.heap.size, 0, none⟩) (Nat.le_refl _) _).setCell (p := ⟨w.heap.size, 1, none⟩) (Nat.le_refl _) _).setCell (p := ⟨w.heap.size, 2, none⟩) (Nat.le_refl _) _)
end Go.Proofs.YthdlibgiejpjeaaGreatDoor.Given
/- The contract of link.Define at any text. -/
set_option linter.unusedVariables false
set_option linter.unusedSimpArgs false
namespace Go.Proofs.YthdlibgiejpjeaaGreatDoor.Spec
open Go
def strip1 (l : List UInt8) : List UInt8 := Lib.trimPrefix l [32]
theorem strip1_len (l : List UInt8) : (strip1 l).length ≤ l.length := by
  unfold strip1 Lib.trimPrefix
  split
  · rw [List.length_drop]; omega
  · omega
theorem trimBT_drop (l : List UInt8) : l.drop (l.length - (trimBT l).length) = trimBT l :=
  (List.suffix_iff_eq_drop.1 (List.dropWhile_suffix _)).symm
theorem gapRest_suffix (l : List UInt8) : gapRest l <:+ l := by
  rcases head_lf (trimBT l) with h | ⟨t, h⟩
  · rw [gapRest_no l h]; exact List.dropWhile_suffix _
  · rw [gapRest_lf l t h]
    have h1 : trimBT l <:+ l := List.dropWhile_suffix _
    rw [h] at h1
    exact (List.dropWhile_suffix _).trans ((List.suffix_cons 10 t).trans h1)
theorem gapRest_drop (l : List UInt8) : l.drop (l.length - (gapRest l).length) = gapRest l := (List.suffix_iff_eq_drop.1 (gapRest_suffix l)).symm
theorem lineS_len (l : List UInt8) : (lineS l).1.length ≤ l.length := by
  have h1 := trimBT_len l
  rcases head_lf (trimBT l) with h | ⟨t, h⟩
  · rw [lineS_no l h]; exact h1
  · rw [lineS_lf l t h]
    rw [h] at h1; simp only [List.length_cons] at h1
    show t.length ≤ _; omega
theorem label_le (l : List UInt8) : (label l).2 ≤ l.length ∧ (label l).1.length ≤ 999 := by
  cases l with
  | nil => exact ⟨Nat.le_refl _, by decide⟩
  | cons c r =>
    show (if c = 91 then _ else _ : List UInt8 × Nat).2 ≤ _ ∧ (if c = 91 then _ else _ : List UInt8 × Nat).1.length ≤ 999
    split
    · cases h : untilS [93] [91] r with
      | none => exact ⟨Nat.zero_le _, Nat.zero_le _⟩
      | some n =>
        have := untilS_le _ _ r n h
        show (if n ≤ 999 ∧ Fold.fold (r.take n) ≠ [] then (r.take n, n + 2) else ([], 0)).2 ≤ _ ∧ (if n ≤ 999 ∧ Fold.fold (r.take n) ≠ [] then (r.take n, n + 2) else ([], 0)).1.length ≤ 999
        split
        · next hc => exact ⟨by simp only [List.length_cons]; omega, by rw [List.length_take]; omega⟩
        · exact ⟨Nat.zero_le _, by decide⟩
    · exact ⟨Nat.zero_le _, by decide⟩
theorem titleG_le (l : List UInt8) : (titleG l).2 ≤ l.length := by
  cases l with
  | nil => exact Nat.le_refl _
  | cons c r =>
    cases h : titleEnd c with
    | none => simp only [titleG, h]; exact Nat.zero_le _
    | some p =>
      obtain ⟨fin, stop⟩ := p
      simp only [titleG, h]
      cases h2 : untilS fin stop r with
      | none => exact Nat.zero_le _
      | some n =>
        have := untilS_le fin stop r n h2
        dsimp only
        split
        · exact Nat.zero_le _
        · simp only [List.length_cons]; omega
theorem bare_le (l : List UInt8) (o n x y : Nat) (h : bare l o n = some (x, y)) : y ≤ n + l.length := by
  fun_induction bare l o n
  all_goals first
    | (cases h; done)
    | (simp only [Option.some.injEq, Prod.mk.injEq] at h; simp only [List.length_cons, List.length_nil]; omega)
    | (rename_i ih; have := ih h; simp only [List.length_cons] at this ⊢; omega)
theorem dest_le (l : List UInt8) : (dest l).2 ≤ l.length := by
  by_cases h : l.head? = some 60
  · cases l with
    | nil => cases h
    | cons c r =>
      obtain rfl : c = 60 := by simpa using h
      show (match untilS [62] [60, 10] r with | none => ([], 0) | some n => (unescape (r.take n), n + 2) : List UInt8 × Nat).2 ≤ _
      cases h2 : untilS [62] [60, 10] r with
      | none => exact Nat.zero_le _
      | some n =>
        have := untilS_le _ _ r n h2
        show n + 2 ≤ (60 :: r).length
        simp only [List.length_cons]; omega
  · rw [dest_eq l h]
    cases hb : bare l 0 0 with
    | none => exact Nat.zero_le _
    | some p =>
      obtain ⟨o, n⟩ := p
      have := bare_le l 0 0 o n hb
      show (if n = 0 ∨ 0 < o then ([], 0) else (unescape (l.take n), n)).2 ≤ _
      split
      · exact Nat.zero_le _
      · show n ≤ _; omega
/-- A definition: its label, place and title, and how many bytes it has; 0: none. -/
def defineS (l : List UInt8) : List UInt8 × List UInt8 × List UInt8 × Nat :=
  let x := strip1 (strip1 (strip1 l))
  let r := x.drop ((label x).2 + 1)
  let y := gapRest r
  let z := y.drop (dest y).2
  let q := gapRest z
  if (label x).2 = 0 then ([], [], [], 0)
  else if Lib.hasPrefix (x.drop (label x).2) [58] = false then ([], [], [], 0)
  else if (dest y).2 = 0 then ([], [], [], 0)
  else if 0 < z.length - q.length ∧ 0 < (titleG q).2 ∧ (lineS (q.drop (titleG q).2)).2 = true then (Fold.fold (label x).1, (dest y).1, (titleG q).1, l.length - (lineS (q.drop (titleG q).2)).1.length)
  else if (lineS z).2 = true then (Fold.fold (label x).1, (dest y).1, [], l.length - (lineS z).1.length)
  else ([], [], [], 0)
end Go.Proofs.YthdlibgiejpjeaaGreatDoor.Spec
namespace Go.Proofs.YthdlibgiejpjeaaGreatDoor.Given
open Go Go.RowKit Go.Proofs.YthdlibgiejpjeaaGreatDoor Go.Proofs.YthdlibgiejpjeaaGreatDoorW.PrintWords Go.Proofs.YthdlibgiejpjeaaGreatDoor.Spec Go.Proofs.YthdlibgiejpjeaaGreatDoor.PureAid

theorem strip1_calls (l : List UInt8) (W : World) : Calls Tryz.prog 77 #[.string (mkB l), .string ⟨#[32]⟩] W fun e w' => e = .returned (.string (mkB (strip1 l))) ∧ w' = W := by
  have h := Tryz.strings_TrimPrefix (mkB l) ⟨#[32]⟩ W
  rw [mkB_data] at h
  exact h
theorem defineG_calls (l : List UInt8) (w : World) (hG : GW w) (hl : l.length ≤ 1000000000) :
    Calls Tryz.prog 45 #[.string (mkB l)] w fun e w' => e = .returned (.tuple #[.agg #[.string (mkB (defineS l).1), .string (mkB (defineS l).2.1), .string (mkB (defineS l).2.2.1)], .int .i64 (((defineS l).2.2.2 : Nat) : Int)]) ∧ Below w.heap.size w w' := by
  have l1 := strip1_len l
  have l2 := strip1_len (strip1 l)
  have l3 := strip1_len (strip1 (strip1 l))
  obtain ⟨x, hx⟩ : ∃ x, strip1 (strip1 (strip1 l)) = x := ⟨_, rfl⟩
  have hdef : defineS l = (let r := x.drop ((label x).2 + 1)
      let y := gapRest r
      let z := y.drop (dest y).2
      let q := gapRest z
      if (label x).2 = 0 then ([], [], [], 0)
      else if Lib.hasPrefix (x.drop (label x).2) [58] = false then ([], [], [], 0)
      else if (dest y).2 = 0 then ([], [], [], 0)
      else if 0 < z.length - q.length ∧ 0 < (titleG q).2 ∧ (lineS (q.drop (titleG q).2)).2 = true then (Fold.fold (label x).1, (dest y).1, (titleG q).1, l.length - (lineS (q.drop (titleG q).2)).1.length)
      else if (lineS z).2 = true then (Fold.fold (label x).1, (dest y).1, [], l.length - (lineS z).1.length)
      else ([], [], [], 0)) := by subst hx; rfl
  obtain ⟨r, hr⟩ : ∃ r, x.drop ((label x).2 + 1) = r := ⟨_, rfl⟩
  obtain ⟨y, hy⟩ : ∃ y, gapRest r = y := ⟨_, rfl⟩
  obtain ⟨z, hz⟩ : ∃ z, y.drop (dest y).2 = z := ⟨_, rfl⟩
  obtain ⟨q, hq⟩ : ∃ q, gapRest z = q := ⟨_, rfl⟩
  obtain ⟨ll, lf⟩ := label_le x
  have lr : r.length ≤ x.length := by rw [← hr, List.length_drop]; omega
  have ly : y.length ≤ r.length := by rw [← hy]; exact gapRest_len r
  have lz : z.length ≤ y.length := by rw [← hz, List.length_drop]; omega
  have lq : q.length ≤ z.length := by rw [← hq]; exact gapRest_len z
  have ld := dest_le y
  have lt := titleG_le q
  have lu := lineS_len (q.drop (titleG q).2)
  have lv := lineS_len z
  have lqd : (q.drop (titleG q).2).length ≤ q.length := by rw [List.length_drop]; omega
  rw [hx] at l3
  have hxl : x.length ≤ l.length := by omega
  have core := define_core (mkB l) (mkB (strip1 l)) (mkB (strip1 (strip1 l))) (mkB x) (mkB (x.drop (label x).2)) (mkB r) (mkB y) (mkB z) (mkB q) (mkB (q.drop (titleG q).2)) (mkB (label x).1) (mkB (Fold.fold (label x).1)) (mkB (dest y).1) (mkB (titleG q).1) (mkB (lineS (q.drop (titleG q).2)).1) (mkB (lineS z).1)
    (label x).2 (dest y).2 (titleG q).2 (r.length - y.length) (z.length - q.length) l.length (lineS (q.drop (titleG q).2)).1.length (lineS z).1.length (Lib.hasPrefix (x.drop (label x).2) [58]) (lineS (q.drop (titleG q).2)).2 (lineS z).2 w hG
    (fun W => strip1_calls l W) (fun W => strip1_calls (strip1 l) W) (fun W => by have := strip1_calls (strip1 (strip1 l)) W; rw [hx] at this; exact this)
    (fun W hW => label_calls x W hW (by omega))
    (fun _ W => sl_from x (label x).2 ll W)
    (fun W => by have h := Tryz.strings_HasPrefix (mkB (x.drop (label x).2)) ⟨#[58]⟩ W; rw [mkB_data] at h; exact h)
    (fun h1 hb W => by
      have hp : ([58] : List UInt8).length ≤ (x.drop (label x).2).length := (List.isPrefixOf_iff_prefix.1 hb).length_le
      rw [List.length_drop] at hp
      have := sl_from x ((label x).2 + 1) (by simp only [List.length_cons, List.length_nil] at hp; omega) W
      rw [hr] at this; exact this)
    (fun W hW => by have := gap_calls r W hW (by omega); rw [hy] at this; exact this)
    (fun W => by
      have := sl_from r (r.length - y.length) (by omega) W
      have hd := gapRest_drop r
      rw [hy] at hd; rw [hd] at this; exact this)
    (fun W hW => dest_calls y W hW (by omega))
    (fun W => by have := sl_from y (dest y).2 ld W; rw [hz] at this; exact this)
    (fun W hW => Gen.fold_calls (label x).1 W hW (by omega))
    (fun W hW => by have := gap_calls z W hW (by omega); rw [hq] at this; exact this)
    (fun W => by
      have := sl_from z (z.length - q.length) (by omega) W
      have hd := gapRest_drop z
      rw [hq] at hd; rw [hd] at this; exact this)
    (fun W hW => titleG_calls q W hW (by omega))
    (fun W => by
      have := sl_from z (z.length - q.length + (titleG q).2) (by omega) W
      have hd := gapRest_drop z
      rw [hq] at hd; rw [← List.drop_drop, hd] at this; exact this)
    (fun W hW => line_calls (q.drop (titleG q).2) W hW)
    (fun W hW => line_calls z W hW)
    (mkB_size _) (mkB_size _) (mkB_size _) (by omega) (by omega) hl (by omega) (by omega) (by omega)
  have hres : ∀ R, defRes (label x).2 (dest y).2 (titleG q).2 (z.length - q.length) l.length (lineS (q.drop (titleG q).2)).1.length (lineS z).1.length (Lib.hasPrefix (x.drop (label x).2) [58]) (lineS (q.drop (titleG q).2)).2 (lineS z).2 (mkB (Fold.fold (label x).1)) (mkB (dest y).1) (mkB (titleG q).1) = R →
      R = (mkB (defineS l).1, mkB (defineS l).2.1, mkB (defineS l).2.2.1, (defineS l).2.2.2) := by
    rintro R rfl
    rw [hdef]
    simp only [hr, hy, hz, hq]
    unfold defRes
    by_cases c1 : (label x).2 = 0
    · rw [if_pos c1, if_pos c1]; rfl
    rw [if_neg c1, if_neg c1]
    by_cases c2 : Lib.hasPrefix (x.drop (label x).2) [58] = false
    · rw [if_pos c2, if_pos c2]; rfl
    rw [if_neg c2, if_neg c2]
    by_cases c3 : (dest y).2 = 0
    · rw [if_pos c3, if_pos c3]; rfl
    rw [if_neg c3, if_neg c3]
    by_cases c4 : 0 < z.length - q.length ∧ 0 < (titleG q).2 ∧ (lineS (q.drop (titleG q).2)).2 = true
    · rw [if_pos c4, if_pos c4]
    rw [if_neg c4, if_neg c4]
    by_cases c5 : (lineS z).2 = true
    · rw [if_pos c5, if_pos c5]; rfl
    · rw [if_neg c5, if_neg c5]; rfl
  rw [hres _ rfl] at core
  exact core
end Go.Proofs.YthdlibgiejpjeaaGreatDoor.Given
/- runes.Fold, link.until, link.Dest and link.Title in the form in which printed texts call them. -/
set_option linter.unusedVariables false
set_option linter.unusedSimpArgs false
namespace Go.Proofs.YthdlibgiejpjeaaGreatDoor.Given
open Go Go.RowKit Go.Proofs.YthdlibgiejpjeaaGreatDoor Go.Proofs.YthdlibgiejpjeaaGreatDoorW.PrintWords Go.Proofs.YthdlibgiejpjeaaGreatDoor.Spec

def runes_Fold.f (a0 : ByteArray) : Option (ByteArray) := if a0.size ≤ 10000000 then some (mkB (Fold.fold a0.data.toList)) else none
def link_until.f (a0 a1 a2 : ByteArray) : Option (Int × Bool) := if a0.size ≤ 1000000000 then some ((((untilS a1.data.toList a2.data.toList a0.data.toList).getD 0 : Nat) : Int), (untilS a1.data.toList a2.data.toList a0.data.toList).isSome) else none
def link_Dest.f (a0 : ByteArray) : Option (ByteArray × Int) := if a0.size ≤ 1000000000 then some (mkB (dest a0.data.toList).1, (((dest a0.data.toList).2 : Nat) : Int)) else none
def link_Title.f (a0 : ByteArray) : Option (ByteArray × Int) := if a0.size ≤ 1000000000 then some (mkB (titleG a0.data.toList).1, (((titleG a0.data.toList).2 : Nat) : Int)) else none
theorem len_list (a : ByteArray) : a.data.toList.length = a.size := by rw [Array.length_toList]; rfl
theorem runes_Fold.calls (a0 : ByteArray) (r : ByteArray) (w : World) (hG : GW w) (h : runes_Fold.f a0 = some r) :
    Calls Tryz.prog 83 #[.string a0] w fun e w' => e = .returned (.string r) ∧ Below w.heap.size w w' := by
  unfold runes_Fold.f at h
  split at h
  · rename_i h1
    obtain rfl := Option.some.inj h
    exact Gen.fold_calls a0.data.toList w hG (by rw [len_list]; exact h1)
  · cases h
theorem link_until.calls (a0 a1 a2 : ByteArray) (r1 : Int) (r2 : Bool) (w : World) (hG : GW w) (h : link_until.f a0 a1 a2 = some (r1, r2)) :
    Calls Tryz.prog 82 #[.string a0, .string a1, .string a2] w fun e w' => e = .returned (.tuple #[.int .i64 r1, .bool r2]) ∧ Below w.heap.size w w' := by
  unfold link_until.f at h
  split at h
  · rename_i h1
    simp only [Option.some.injEq, Prod.mk.injEq] at h
    obtain ⟨rfl, rfl⟩ := h
    exact until_calls a0.data.toList a1.data.toList a2.data.toList w hG (by rw [len_list]; exact h1)
  · cases h
theorem link_Dest.calls (a0 : ByteArray) (r1 : ByteArray) (r2 : Int) (w : World) (hG : GW w) (h : link_Dest.f a0 = some (r1, r2)) :
    Calls Tryz.prog 43 #[.string a0] w fun e w' => e = .returned (.tuple #[.string r1, .int .i64 r2]) ∧ Below w.heap.size w w' := by
  unfold link_Dest.f at h
  split at h
  · rename_i h1
    simp only [Option.some.injEq, Prod.mk.injEq] at h
    obtain ⟨rfl, rfl⟩ := h
    exact dest_calls a0.data.toList w hG (by rw [len_list]; exact h1)
  · cases h
theorem link_Title.calls (a0 : ByteArray) (r1 : ByteArray) (r2 : Int) (w : World) (hG : GW w) (h : link_Title.f a0 = some (r1, r2)) :
    Calls Tryz.prog 44 #[.string a0] w fun e w' => e = .returned (.tuple #[.string r1, .int .i64 r2]) ∧ Below w.heap.size w w' := by
  unfold link_Title.f at h
  split at h
  · rename_i h1
    simp only [Option.some.injEq, Prod.mk.injEq] at h
    obtain ⟨rfl, rfl⟩ := h
    exact titleG_calls a0.data.toList w hG (by rw [len_list]; exact h1)
  · cases h
def link_Label.f (a0 : ByteArray) : Option (ByteArray × Int) := if a0.size ≤ 1000000000 then some (mkB (label a0.data.toList).1, (((label a0.data.toList).2 : Nat) : Int)) else none
theorem link_Label.calls (a0 : ByteArray) (r1 : ByteArray) (r2 : Int) (w : World) (hG : GW w) (h : link_Label.f a0 = some (r1, r2)) :
    Calls Tryz.prog 42 #[.string a0] w fun e w' => e = .returned (.tuple #[.string r1, .int .i64 r2]) ∧ Below w.heap.size w w' := by
  unfold link_Label.f at h
  split at h
  · rename_i h1
    simp only [Option.some.injEq, Prod.mk.injEq] at h
    obtain ⟨rfl, rfl⟩ := h
    exact label_calls a0.data.toList w hG (by rw [len_list]; exact h1)
  · cases h
def link_Define.f (a0 : ByteArray) : Option (ByteArray × ByteArray × ByteArray × Int) := if a0.size ≤ 1000000000 then some (mkB (defineS a0.data.toList).1, mkB (defineS a0.data.toList).2.1, mkB (defineS a0.data.toList).2.2.1, (((defineS a0.data.toList).2.2.2 : Nat) : Int)) else none
theorem link_Define.calls (a0 : ByteArray) (r1 r2 r3 : ByteArray) (r4 : Int) (w : World) (hG : GW w) (h : link_Define.f a0 = some (r1, r2, r3, r4)) :
    Calls Tryz.prog 45 #[.string a0] w fun e w' => e = .returned (.tuple #[.agg #[.string r1, .string r2, .string r3], .int .i64 r4]) ∧ Below w.heap.size w w' := by
  unfold link_Define.f at h
  split at h
  · rename_i h1
    simp only [Option.some.injEq, Prod.mk.injEq] at h
    obtain ⟨rfl, rfl, rfl, rfl⟩ := h
    exact defineG_calls a0.data.toList w hG (by rw [len_list]; exact h1)
  · cases h
end Go.Proofs.YthdlibgiejpjeaaGreatDoor.Given

