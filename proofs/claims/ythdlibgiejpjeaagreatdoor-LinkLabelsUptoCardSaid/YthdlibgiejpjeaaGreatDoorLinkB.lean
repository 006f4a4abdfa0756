import Derived.Test.YthdlibgiejpjeaaGreatDoorLinkA
import Derived.Test.YthdlibgiejpjeaaGreatDoorUnescape
import Derived.WalkMore
import Derived.Test.YthdlibgiejpjeaaGreatDoorShelfD
import Derived.Lib.IndexAny
import Derived.Test.YthdlibgiejpjeaaGreatDoorGenUse
import Derived.Test.YthdlibgiejpjeaaGreatDoorMorePure
/- The contract of link.Dest. -/
set_option linter.unusedVariables false
set_option linter.unusedSimpArgs false
namespace Go.Proofs.YthdlibgiejpjeaaGreatDoor.Spec
open Go
def destOf (A : Option (Nat × Nat)) (l : List UInt8) : List UInt8 × Nat := match A with
  | none => ([], 0)
  | some (o, n) => if n = 0 ∨ 0 < o then ([], 0) else (unescape (l.take n), n)
theorem dest_eq (l : List UInt8) (h : l.head? ≠ some 60) : dest l = destOf (bare l 0 0) l := by
  unfold dest
  split
  · exact absurd rfl h
  · rfl
theorem bare_nil (o n : Nat) : bare [] o n = some (o, n) := rfl
theorem bare_stop (c : UInt8) (r : List UInt8) (o n : Nat) (h : c ≤ 32 ∨ c = 127) : bare (c :: r) o n = some (o, n) := by
  cases r with
  | nil => rw [bare, if_pos h]
  | cons d s => rw [bare, if_pos h]
theorem bare_skip (d : UInt8) (s : List UInt8) (o n : Nat) (hd : markC d = true) : bare (92 :: d :: s) o n = bare s o (n + 2) := by
  rw [bare, if_neg (by decide), if_pos ⟨rfl, hd⟩]
theorem bare_more (c : UInt8) (r : List UInt8) (o n : Nat) (h : ¬ (c ≤ 32 ∨ c = 127)) (h2 : ∀ d s, r = d :: s → ¬ (c = 92 ∧ markC d = true)) :
    bare (c :: r) o n = if c = 40 then (if 32 < o + 1 then none else bare r (o + 1) (n + 1)) else if c = 41 then (if o = 0 then some (o, n) else bare r (o - 1) (n + 1)) else bare r o (n + 1) := by
  cases r with
  | nil =>
    show (if c ≤ 32 ∨ c = 127 then some (o, n) else if c = 40 then (if 32 < o + 1 then none else some (o + 1, n + 1)) else if c = 41 then (if o = 0 then some (o, n) else some (o - 1, n + 1)) else some (o, n + 1)) = _
    rw [if_neg h]; rfl
  | cons d s => rw [bare, if_neg h, if_neg (h2 d s rfl)]
end Go.Proofs.YthdlibgiejpjeaaGreatDoor.Spec
namespace Go.Proofs.YthdlibgiejpjeaaGreatDoor.Given
open Go Go.RowKit Go.Proofs.YthdlibgiejpjeaaGreatDoor Go.Proofs.YthdlibgiejpjeaaGreatDoorW.PrintWords Go.Proofs.YthdlibgiejpjeaaGreatDoor.Spec Go.Proofs.YthdlibgiejpjeaaGreatDoor.PureAid

set_option maxHeartbeats 16000000 in
set_option maxRecDepth 1000000 in
theorem dest_bare (l : List UInt8) (w : World) (hG : GW w) (hl : l.length ≤ 1000000000) (h60 : l.head? ≠ some 60) :
    Calls Tryz.prog 43 #[.string (mkB l)] w fun e w' => e = .returned (.tuple #[.string (mkB (dest l).1), .int .i64 (((dest l).2 : Nat) : Int)]) ∧ Below w.heap.size w w' := by
  have hs := mkB_size l
  obtain ⟨A, hA⟩ : ∃ A, bare l 0 0 = A := ⟨_, rfl⟩
  obtain ⟨D, hD⟩ : ∃ D, dest l = D := ⟨_, rfl⟩
  have hE : D = destOf A l := by rw [← hD, ← hA]; exact dest_eq l h60
  rw [hD]
  have hE' := Lib.hid hE; clear hE
  have hA' := Lib.hid hA; clear hA hD
  have hG' := Lib.hid hG; clear hG
  go_enter Tryz.func43, Tryz.ntmps43
  go_wp2_with fail
  go_step3
  go_wp2_with fail
  refine (cutp_miss 60 l h60 w).mono ?_
  rintro e w1 ⟨rfl, hww⟩
  have hww := hww.symm
  subst hww
  go_wp2_with fail
  go_step3
  go_wp2_with fail
  go_loopw [8, 9] (fun op nn wr => ∃ o n : Nat, op = .int .i64 (o : Int) ∧ nn = .int .i64 (n : Int) ∧ n ≤ l.length ∧ o ≤ 32 ∧ Below w.heap.size w wr ∧ A = bare (l.drop n) o n) (fun _ nn _ => l.length + 1 - (intOf nn).toNat)
  case atStart => exact ⟨0, 0, rfl, rfl, Nat.zero_le _, by omega, Below.refl _ _, hA'.out.symm⟩
  case round =>
    obtain ⟨o, n, rfl, rfl, hnl, ho32, hbw, hst⟩ := hrel
    have hst' := Lib.hid hst; clear hst
    have hbw' := Lib.hid hbw; clear hbw
    by_cases hlt : n < l.length
    · obtain ⟨c, r, hr⟩ : ∃ c r, l.drop n = c :: r := ⟨_, _, List.drop_eq_getElem_cons hlt⟩
      have hi := at_i l n c r hr
      have hnx : l.drop (n + 1) = r := drop_next hr
      by_cases hstop : c ≤ 32 ∨ c = 127
      · have hAe' := Lib.hid (show A = some (o, n) by rw [hst'.out, hr]; exact bare_stop c r o n hstop)
        have hcs : c.toNat ≤ 32 ∨ (c.toNat = 127 ∧ ¬ c.toNat ≤ 32) := by
          rcases hstop with h | h
          · exact .inl (UInt8.le_iff_toNat_le.1 h)
          · exact .inr ⟨by rw [h]; rfl, by rw [h]; decide⟩
        clear hstop
        rcases hcs with hcs | ⟨hcs, hcs2⟩
        · (
        rcases Nat.eq_zero_or_pos n with hn0 | hn0
        · have hz : ((n : Int) == 0) = true := by simp; omega
          have hR := Lib.hid (show destOf (some (o, n)) l = ([], 0) by show (if n = 0 ∨ 0 < o then _ else _) = _; rw [if_pos (.inl hn0)])
          clear hn0
          go_wp2_with fail
          (try rw [Exit.noGoto_ret])
          (try go_wp2_with fail)
          go_ret2
          exact ⟨by rw [hE'.out, hAe'.out, hR.out]; rfl, hbw'.out⟩
        · have hz : ((n : Int) == 0) = false := by simp; omega
          rcases Nat.eq_zero_or_pos o with ho0 | ho0
          · have hz2 : ¬ ((0 : Int) < (o : Int)) := by omega
            have hsl := sl_to l n hnl
            have hU := Lib.hid (fun W (hW : GW W) => unescape_calls (l.take n) W hW (by rw [List.length_take]; omega))
            have hR := Lib.hid (show destOf (some (o, n)) l = (unescape (l.take n), n) by show (if n = 0 ∨ 0 < o then _ else _) = _; rw [if_neg (by omega)])
            clear hn0
            go_wp2_with fail
            refine (hU.out _ (hG'.out.below hbw'.out)).mono ?_
            rintro e w9 ⟨rfl, hb9⟩
            have hb9' := Lib.hid (hbw'.out.trans (hb9.mono hbw'.out.size))
            clear hb9
            go_wp2_with fail
            (try rw [Exit.noGoto_ret])
            (try go_wp2_with fail)
            go_ret2
            exact ⟨by rw [hE'.out, hAe'.out, hR.out]; rfl, hb9'.out⟩
          · first
            | (exfalso; omega)
            | (have hR := Lib.hid (show destOf (some (o, n)) l = ([], 0) by show (if n = 0 ∨ 0 < o then _ else _) = _; rw [if_pos (.inr ho0)])
               clear hn0
               go_wp2_with fail
               (try rw [Exit.noGoto_ret])
               (try go_wp2_with fail)
               go_ret2
               exact ⟨by rw [hE'.out, hAe'.out, hR.out]; rfl, hbw'.out⟩))
        · (
        rcases Nat.eq_zero_or_pos n with hn0 | hn0
        · have hz : ((n : Int) == 0) = true := by simp; omega
          have hR := Lib.hid (show destOf (some (o, n)) l = ([], 0) by show (if n = 0 ∨ 0 < o then _ else _) = _; rw [if_pos (.inl hn0)])
          clear hn0
          go_wp2_with fail
          (try rw [Exit.noGoto_ret])
          (try go_wp2_with fail)
          go_ret2
          exact ⟨by rw [hE'.out, hAe'.out, hR.out]; rfl, hbw'.out⟩
        · have hz : ((n : Int) == 0) = false := by simp; omega
          rcases Nat.eq_zero_or_pos o with ho0 | ho0
          · have hz2 : ¬ ((0 : Int) < (o : Int)) := by omega
            have hsl := sl_to l n hnl
            have hU := Lib.hid (fun W (hW : GW W) => unescape_calls (l.take n) W hW (by rw [List.length_take]; omega))
            have hR := Lib.hid (show destOf (some (o, n)) l = (unescape (l.take n), n) by show (if n = 0 ∨ 0 < o then _ else _) = _; rw [if_neg (by omega)])
            clear hn0
            go_wp2_with fail
            refine (hU.out _ (hG'.out.below hbw'.out)).mono ?_
            rintro e w9 ⟨rfl, hb9⟩
            have hb9' := Lib.hid (hbw'.out.trans (hb9.mono hbw'.out.size))
            clear hb9
            go_wp2_with fail
            (try rw [Exit.noGoto_ret])
            (try go_wp2_with fail)
            go_ret2
            exact ⟨by rw [hE'.out, hAe'.out, hR.out]; rfl, hb9'.out⟩
          · first
            | (exfalso; omega)
            | (have hR := Lib.hid (show destOf (some (o, n)) l = ([], 0) by show (if n = 0 ∨ 0 < o then _ else _) = _; rw [if_pos (.inr ho0)])
               clear hn0
               go_wp2_with fail
               (try rw [Exit.noGoto_ret])
               (try go_wp2_with fail)
               go_ret2
               exact ⟨by rw [hE'.out, hAe'.out, hR.out]; rfl, hbw'.out⟩))
      · have hc32 : ¬ c.toNat ≤ 32 := fun h => hstop (.inl (UInt8.le_iff_toNat_le.2 h))
        have hc127 : ¬ c.toNat = 127 := fun h => hstop (.inr (UInt8.toNat_inj.1 h))
        have hw := Lib.hid (fun h2 => hst'.out.trans ((congrArg (fun x => bare x o n) hr).trans (bare_more c r o n hstop h2)))
        clear hstop
        by_cases hesc : ∃ d s, r = d :: s ∧ c = 92 ∧ markC d = true
        · obtain ⟨d, s, rfl, rfl, hm⟩ := hesc
          have hi1 : ∀ W, (Instr.index 9 (.string (mkB l)) (.int .i64 ((n : Int) + 1))).run Tryz.prog W = .ok (.int .u8 (d.toNat : Int)) W := at_i l (n + 1) d s hnx
          have hlen := drop_lt hnx
          have hmk := runes_Mark.calls (d.toNat : Int) true wr (hG'.out.below hbw'.out) (by unfold runes_Mark.f; rw [show ((d.toNat : Nat) : Int).toNat.toUInt8 = d by simp, hm])
          have hmk' := Lib.hid hmk; clear hmk
          have hnew := Lib.hid (show A = bare (l.drop (n + 2)) o (n + 2) by
            rw [hst'.out, hr, bare_skip d s o n hm, show n + 2 = (n + 1) + 1 from rfl, drop_next hnx])
          go_wp2_with fail
          refine hmk'.out.mono ?_
          rintro e w3 ⟨rfl, hb3⟩
          have hb4 := hbw'.out.trans (hb3.below.mono hbw'.out.size)
          have hb4' := Lib.hid hb4; clear hb4 hb3
          go_wp2_with fail
          exact ⟨⟨o, n + 2, rfl, by go_num, by omega, ho32, hb4'.out, hnew.out⟩, by simp [intOf]; omega⟩
        · have h2 : ∀ d s, r = d :: s → ¬ (c = 92 ∧ markC d = true) := fun d s hd hc => hesc ⟨d, s, hd, hc⟩
          have hw2 := Lib.hid (hw.out h2)
          clear hw
          by_cases h92 : c = 92
          · subst h92
            have hnew := Lib.hid (show A = bare (l.drop (n + 1)) o (n + 1) by rw [hw2.out, if_neg (by decide), if_neg (by decide), hnx])
            clear hw2
            cases r with
            | nil =>
              have hend := drop_end hnx
              have hge : ¬ ((n : Int) + 1 < (l.length : Int)) := by omega
              go_wp2_with fail
              exact ⟨⟨o, n + 1, rfl, by go_num, by omega, ho32, hbw'.out, hnew.out⟩, by simp [intOf]; omega⟩
            | cons d s =>
              have hm : markC d = false := Bool.eq_false_iff.2 (fun h => h2 d s rfl ⟨rfl, h⟩)
              have hi1 : ∀ W, (Instr.index 9 (.string (mkB l)) (.int .i64 ((n : Int) + 1))).run Tryz.prog W = .ok (.int .u8 (d.toNat : Int)) W := at_i l (n + 1) d s hnx
              have hlen := drop_lt hnx
              have hlen2 : (n : Int) + 1 < (l.length : Int) := by omega
              have hmk := runes_Mark.calls (d.toNat : Int) false wr (hG'.out.below hbw'.out) (by unfold runes_Mark.f; rw [show ((d.toNat : Nat) : Int).toNat.toUInt8 = d by simp, hm])
              have hmk' := Lib.hid hmk; clear hmk
              go_wp2_with fail
              refine hmk'.out.mono ?_
              rintro e w3 ⟨rfl, hb3⟩
              have hb4' := Lib.hid (hbw'.out.trans (hb3.below.mono hbw'.out.size)); clear hb3
              go_wp2_with fail
              exact ⟨⟨o, n + 1, rfl, by go_num, by omega, ho32, hb4'.out, hnew.out⟩, by simp [intOf]; omega⟩
          · have hn92 : ¬ ((c.toNat : Int) = 92) := fun e => h92 (UInt8.toNat_inj.1 (by show c.toNat = 92; omega))
            by_cases h40 : c = 40
            · subst h40
              by_cases ho : 32 < o + 1
              · have hnone := Lib.hid (show D = ([], 0) by rw [hE'.out, hw2.out, if_pos rfl, if_pos ho]; rfl)
                clear hw2
                have ho' : (32 : Int) < (o : Int) + 1 := by omega
                go_wp2_with fail
                (try rw [Exit.noGoto_ret])
                (try go_wp2_with fail)
                go_ret2
                exact ⟨by rw [hnone.out]; rfl, hbw'.out⟩
              · have hnew := Lib.hid (show A = bare (l.drop (n + 1)) (o + 1) (n + 1) by rw [hw2.out, if_pos rfl, if_neg ho, hnx])
                clear hw2
                have ho' : ¬ ((32 : Int) < (o : Int) + 1) := by omega
                go_wp2_with fail
                exact ⟨⟨o + 1, n + 1, by go_num, by go_num, by omega, by omega, hbw'.out, hnew.out⟩, by simp [intOf]; omega⟩
            · have hn40 : ¬ ((c.toNat : Int) = 40) := fun e => h40 (UInt8.toNat_inj.1 (by show c.toNat = 40; omega))
              by_cases h41 : c = 41
              · subst h41
                rcases Nat.eq_zero_or_pos o with hoz | hop
                · have hAe' := Lib.hid (show A = some (o, n) by rw [hw2.out, if_neg (by decide), if_pos rfl, if_pos hoz])
                  have hoz' : ((o : Int) == 0) = true := by simp; omega
                  clear hw2
                  (
        rcases Nat.eq_zero_or_pos n with hn0 | hn0
        · have hz : ((n : Int) == 0) = true := by simp; omega
          have hR := Lib.hid (show destOf (some (o, n)) l = ([], 0) by show (if n = 0 ∨ 0 < o then _ else _) = _; rw [if_pos (.inl hn0)])
          clear hn0
          go_wp2_with fail
          (try rw [Exit.noGoto_ret])
          (try go_wp2_with fail)
          go_ret2
          exact ⟨by rw [hE'.out, hAe'.out, hR.out]; rfl, hbw'.out⟩
        · have hz : ((n : Int) == 0) = false := by simp; omega
          rcases Nat.eq_zero_or_pos o with ho0 | ho0
          · have hz2 : ¬ ((0 : Int) < (o : Int)) := by omega
            have hsl := sl_to l n hnl
            have hU := Lib.hid (fun W (hW : GW W) => unescape_calls (l.take n) W hW (by rw [List.length_take]; omega))
            have hR := Lib.hid (show destOf (some (o, n)) l = (unescape (l.take n), n) by show (if n = 0 ∨ 0 < o then _ else _) = _; rw [if_neg (by omega)])
            clear hn0
            go_wp2_with fail
            refine (hU.out _ (hG'.out.below hbw'.out)).mono ?_
            rintro e w9 ⟨rfl, hb9⟩
            have hb9' := Lib.hid (hbw'.out.trans (hb9.mono hbw'.out.size))
            clear hb9
            go_wp2_with fail
            (try rw [Exit.noGoto_ret])
            (try go_wp2_with fail)
            go_ret2
            exact ⟨by rw [hE'.out, hAe'.out, hR.out]; rfl, hb9'.out⟩
          · first
            | (exfalso; omega)
            | (have hR := Lib.hid (show destOf (some (o, n)) l = ([], 0) by show (if n = 0 ∨ 0 < o then _ else _) = _; rw [if_pos (.inr ho0)])
               clear hn0
               go_wp2_with fail
               (try rw [Exit.noGoto_ret])
               (try go_wp2_with fail)
               go_ret2
               exact ⟨by rw [hE'.out, hAe'.out, hR.out]; rfl, hbw'.out⟩))
                · have hnew := Lib.hid (show A = bare (l.drop (n + 1)) (o - 1) (n + 1) by rw [hw2.out, if_neg (by decide), if_pos rfl, if_neg (by omega), hnx])
                  have hoz' : ((o : Int) == 0) = false := by simp; omega
                  clear hw2
                  go_wp2_with fail
                  exact ⟨⟨o - 1, n + 1, by go_num, by go_num, by omega, by omega, hbw'.out, hnew.out⟩, by simp [intOf]; omega⟩
              · have hn41 : ¬ ((c.toNat : Int) = 41) := fun e => h41 (UInt8.toNat_inj.1 (by show c.toNat = 41; omega))
                have hnew := Lib.hid (show A = bare (l.drop (n + 1)) o (n + 1) by rw [hw2.out, if_neg h40, if_neg h41, hnx])
                clear hw2
                go_wp2_with fail
                exact ⟨⟨o, n + 1, rfl, by go_num, by omega, ho32, hbw'.out, hnew.out⟩, by simp [intOf]; omega⟩
    · have hne : n = l.length := by omega
      have hAe' := Lib.hid (show A = some (o, n) by rw [hst'.out, hne, List.drop_length]; rfl)
      have hge : ¬ n < l.length := hlt
      clear hne
      (
        rcases Nat.eq_zero_or_pos n with hn0 | hn0
        · have hz : ((n : Int) == 0) = true := by simp; omega
          have hR := Lib.hid (show destOf (some (o, n)) l = ([], 0) by show (if n = 0 ∨ 0 < o then _ else _) = _; rw [if_pos (.inl hn0)])
          clear hn0
          go_wp2_with fail
          (try rw [Exit.noGoto_ret])
          (try go_wp2_with fail)
          go_ret2
          exact ⟨by rw [hE'.out, hAe'.out, hR.out]; rfl, hbw'.out⟩
        · have hz : ((n : Int) == 0) = false := by simp; omega
          rcases Nat.eq_zero_or_pos o with ho0 | ho0
          · have hz2 : ¬ ((0 : Int) < (o : Int)) := by omega
            have hsl := sl_to l n hnl
            have hU := Lib.hid (fun W (hW : GW W) => unescape_calls (l.take n) W hW (by rw [List.length_take]; omega))
            have hR := Lib.hid (show destOf (some (o, n)) l = (unescape (l.take n), n) by show (if n = 0 ∨ 0 < o then _ else _) = _; rw [if_neg (by omega)])
            clear hn0
            go_wp2_with fail
            refine (hU.out _ (hG'.out.below hbw'.out)).mono ?_
            rintro e w9 ⟨rfl, hb9⟩
            have hb9' := Lib.hid (hbw'.out.trans (hb9.mono hbw'.out.size))
            clear hb9
            go_wp2_with fail
            (try rw [Exit.noGoto_ret])
            (try go_wp2_with fail)
            go_ret2
            exact ⟨by rw [hE'.out, hAe'.out, hR.out]; rfl, hb9'.out⟩
          · first
            | (exfalso; omega)
            | (have hR := Lib.hid (show destOf (some (o, n)) l = ([], 0) by show (if n = 0 ∨ 0 < o then _ else _) = _; rw [if_pos (.inr ho0)])
               clear hn0
               go_wp2_with fail
               (try rw [Exit.noGoto_ret])
               (try go_wp2_with fail)
               go_ret2
               exact ⟨by rw [hE'.out, hAe'.out, hR.out]; rfl, hbw'.out⟩))

set_option maxHeartbeats 4000000 in
set_option maxRecDepth 1000000 in
theorem dest_angle (r : List UInt8) (w : World) (hG : GW w) (hl : r.length < 1000000000) :
    Calls Tryz.prog 43 #[.string (mkB (60 :: r))] w fun e w' => e = .returned (.tuple #[.string (mkB (dest (60 :: r)).1), .int .i64 (((dest (60 :: r)).2 : Nat) : Int)]) ∧ Below w.heap.size w w' := by
  have hU := Lib.hid (until_calls r [62] [60, 10] w hG (by omega))
  obtain ⟨D, hD⟩ : ∃ D, dest (60 :: r) = D := ⟨_, rfl⟩
  have hDe : D = match untilS [62] [60, 10] r with | none => ([], 0) | some n => (unescape (r.take n), n + 2) := by rw [← hD]; rfl
  rw [hD]
  have hle := untilS_le [62] [60, 10] r
  have hs := mkB_size r
  have hDe' := Lib.hid hDe; clear hDe hD
  go_enter Tryz.func43, Tryz.ntmps43
  go_wp2_with fail
  go_step3
  go_wp2_with fail
  refine (cutp_hit 60 r w).mono ?_
  rintro e w1 ⟨rfl, hww⟩
  have hww := hww.symm
  subst hww
  go_wp2_with fail
  refine hU.out.mono ?_
  rintro e w2 ⟨rfl, hb2⟩
  cases hA : untilS [62] [60, 10] r with
  | none =>
    have hD0 := Lib.hid (show D = ([], 0) by rw [hDe'.out, hA])
    clear hle
    have hb2' := Lib.hid hb2; clear hb2
    go_wp2_with fail
    (try rw [Exit.noGoto_ret])
    (try go_wp2_with fail)
    go_ret2
    exact ⟨by rw [hD0.out]; rfl, hb2'.out⟩
  | some n =>
    have hn := hle n hA
    clear hle
    have hD0 := Lib.hid (show D = (unescape (r.take n), n + 2) by rw [hDe'.out, hA])
    have hsl := sl_to r n (by omega)
    have hUn := Lib.hid (unescape_calls (r.take n) w2 (hG.below hb2) (by rw [List.length_take]; omega))
    have hb2' := Lib.hid hb2; clear hb2
    go_wp2_with fail
    refine hUn.out.mono ?_
    rintro e w3 ⟨rfl, hb3⟩
    have hb3' := Lib.hid (hb2'.out.trans (hb3.mono hb2'.out.size)); clear hb3
    go_wp2_with fail
    (try rw [Exit.noGoto_ret])
    (try go_wp2_with fail)
    go_ret2
    exact ⟨by rw [hD0.out]; rfl, hb3'.out⟩
theorem dest_calls (l : List UInt8) (w : World) (hG : GW w) (hl : l.length ≤ 1000000000) :
    Calls Tryz.prog 43 #[.string (mkB l)] w fun e w' => e = .returned (.tuple #[.string (mkB (dest l).1), .int .i64 (((dest l).2 : Nat) : Int)]) ∧ Below w.heap.size w w' := by
  by_cases h : l.head? = some 60
  · cases l with
    | nil => cases h
    | cons c r =>
      injection h with h
      subst h
      exact dest_angle r w hG (by simp only [List.length_cons] at hl; omega)
  · exact dest_bare l w hG hl h
end Go.Proofs.YthdlibgiejpjeaaGreatDoor.Given

/- The contract of link.Title where the title has no line feed. -/
set_option linter.unusedVariables false
set_option linter.unusedSimpArgs false
namespace Go.Proofs.YthdlibgiejpjeaaGreatDoor.Spec
open Go
/-- How a title that such a byte begins ends, and what ends it in vain. -/
def titleEnd (c : UInt8) : Option (List UInt8 × List UInt8) := if c = 40 then some ([41], [40]) else if c = 34 ∨ c = 39 then some ([c], []) else none
def title : List UInt8 → List UInt8 × Nat
  | [] => ([], 0)
  | c :: r => match titleEnd c with
    | none => ([], 0)
    | some (fin, stop) => match untilS fin stop r with
      | none => ([], 0)
      | some n => (unescape (r.take n), n + 2)
/-- No line feed within the title. -/
def titleOk : List UInt8 → Bool
  | [] => true
  | c :: r => match titleEnd c with
    | none => true
    | some (fin, stop) => match untilS fin stop r with
      | none => true
      | some n => !(r.take n).contains 10
end Go.Proofs.YthdlibgiejpjeaaGreatDoor.Spec
namespace Go.Proofs.YthdlibgiejpjeaaGreatDoor.Given
open Go Go.RowKit Go.Proofs.YthdlibgiejpjeaaGreatDoor Go.Proofs.YthdlibgiejpjeaaGreatDoorW.PrintWords Go.Proofs.YthdlibgiejpjeaaGreatDoor.Spec Go.Proofs.YthdlibgiejpjeaaGreatDoor.PureAid

theorem index_nolf (t : List UInt8) (h : t.contains 10 = false) : Lib.indexB (mkB t) ⟨#[10]⟩ = -1 := by
  show Lib.index t [10] = -1
  rw [Lib.index_one]
  have h1 := Lib.contains_iff_indexByte t 10
  rw [h] at h1
  have h2 := Lib.indexByte_ge t 10
  have h3 : ¬ 0 ≤ Lib.indexByte t 10 := by simpa using h1.symm
  omega
theorem split_one (t : List UInt8) (h : t.contains 10 = false) (hl : t.length < 4294967281) (w : World) (hG : GW w) :
    Calls Tryz.prog 84 #[.string (mkB t), .string ⟨#[10]⟩] w fun e w' => e = .returned (.slice (some ⟨w.heap.size, 0, none⟩) 1 1) ∧ w' = w.alloc (.cells #[.string (mkB t)] 9) := by
  obtain ⟨m, hm⟩ := Tryz.laysM143.s1_3 w hG.shaped
  refine (Tryz.strings_Split (mkB t) ⟨#[10]⟩ m w (by rw [mkB_size]; exact hl) hm (by decide)).mono fun e w' ⟨he, hw⟩ => ?_
  have hx := index_nolf t h
  have hc := Lib.countB_miss _ _ hx
  rw [hc] at he hw
  rw [Lib.splitB_zero] at hw
  exact ⟨he, hw⟩
theorem first_one (c : UInt8) (r : List UInt8) (W : World) : (Instr.slice 9 (.string (mkB (c :: r))) none (some (.int .i64 1)) none).run Tryz.prog W = .ok (.string (mkB [c])) W := sl_to (c :: r) 1 (by simp) W

set_option maxHeartbeats 8000000 in
set_option maxRecDepth 1000000 in
theorem title_calls (l : List UInt8) (w : World) (hG : GW w) (hl : l.length ≤ 1000000000) (hok : titleOk l = true) :
    Calls Tryz.prog 44 #[.string (mkB l)] w fun e w' => e = .returned (.tuple #[.string (mkB (title l).1), .int .i64 (((title l).2 : Nat) : Int)]) ∧ Below w.heap.size w w' := by
  cases l with
  | nil =>
    have he : (mkB []).toList.isEmpty = true := by rw [mkB_toList]; rfl
    go_enter Tryz.func44, Tryz.ntmps44
    go_wp2_with fail
    go_ret2
    exact ⟨rfl, Below.refl _ _⟩
  | cons c r =>
    have he : (mkB (c :: r)).toList.isEmpty = false := by rw [mkB_toList]; rfl
    have hs := mkB_size (c :: r)
    have hi : ∀ W, (Instr.index 9 (.string (mkB (c :: r))) (.int .i64 0)).run Tryz.prog W = .ok (.int .u8 (c.toNat : Int)) W := at_i (c :: r) 0 c r rfl
    have hf := first_one c r
    have hsl : ∀ W, (Instr.slice 9 (.string (mkB (c :: r))) (some (.int .i64 1)) none none).run Tryz.prog W = .ok (.string (mkB r)) W := sl_from (c :: r) 1 (by simp)
    have hle := fun fin stop => untilS_le fin stop r
    simp only [List.length_cons] at hl
    by_cases h40 : c = 40
    · subst h40
      have hT : title (40 :: r) = match untilS [41] [40] r with | none => ([], 0) | some n => (unescape (r.take n), n + 2) := rfl
      have hokA : (match untilS [41] [40] r with | none => true | some n => !(r.take n).contains 10) = true := hok
      have hU : Calls Tryz.prog 82 #[.string (mkB r), .string ⟨#[41]⟩, .string ⟨#[40]⟩] w fun e w' => e = .returned (.tuple #[.int .i64 (((untilS [41] [40] r).getD 0 : Nat) : Int), .bool (untilS [41] [40] r).isSome]) ∧ Below w.heap.size w w' := until_calls r [41] [40] w hG (by omega)
      replace hle := hle [41] [40]
      clear hok
      generalize title (40 :: r) = TT at *
      obtain ⟨UU, hUU⟩ : ∃ UU, UU = untilS [41] [40] r := ⟨_, rfl⟩
      rw [← hUU] at hU hT hokA hle
      obtain ⟨c, hc⟩ : ∃ c : UInt8, c = 40 := ⟨_, rfl⟩
      rw [← hc] at he hs hi hf hsl ⊢
      have hci : (c.toNat : Int) = 40 := by rw [hc]; rfl
      have hc' := Lib.hid hc; clear hc
      go_enter Tryz.func44, Tryz.ntmps44
      (
        obtain ⟨A, hA⟩ : ∃ A, UU = A := ⟨_, rfl⟩
        subst hUU
        rw [hA] at hU hT hokA hle
        have hT' := Lib.hid hT; clear hT
        have hU' := Lib.hid hU; clear hU hA
        go_wp2_with fail
        refine hU'.out.mono ?_
        rintro e w2 ⟨rfl, hb2⟩
        cases A with
        | none =>
          have hb2' := Lib.hid hb2; clear hb2 hle hokA
          go_wp2_with fail
          go_ret2
          exact ⟨by rw [hT'.out]; rfl, hb2'.out⟩
        | some n =>
          have hn := hle n rfl
          have hlf : (r.take n).contains 10 = false := by simpa using hokA
          have hmid : ∀ W, (Instr.slice 9 (.string (mkB (c :: r))) (some (.int .i64 1)) (some (.int .i64 ((n : Int) + 1))) none).run Tryz.prog W = .ok (.string (mkB (r.take n))) W := fun W => by
            have := sl_mid (c :: r) 1 (n + 1) (by omega) (by simp only [List.length_cons]; omega) W
            exact this
          have hSp := Lib.hid (split_one (r.take n) hlf (by rw [List.length_take]; omega) w2 (hG.below hb2))
          have hUn := Lib.hid (fun W (hW : GW W) => unescape_calls (r.take n) W hW (by rw [List.length_take]; omega))
          have hG2 := Lib.hid (hG.below hb2)
          have hb2' := Lib.hid hb2; clear hb2 hle hokA hlf
          generalize mkB (r.take n) = TB at *
          go_wp2_with fail
          refine hSp.out.mono ?_
          rintro e w3 ⟨rfl, rfl⟩
          have hc0 : (w2.alloc (.cells #[.string TB] 9)).cell? ⟨w2.heap.size, 0, none⟩ = some (.string TB) := by rw [World.cell?_alloc_new]; rfl
          have hb3 := Lib.hid ((Below.refl _ w2).alloc (Nat.le_refl _) (.cells #[.string TB] 9))
          have hU4 := Lib.hid (hUn.out (w2.alloc (.cells #[.string TB] 9)) (hG2.out.below hb3.out))
          have hb4 := Lib.hid (hb2'.out.trans (hb3.out.mono hb2'.out.size))
          clear hUn hb3
          generalize w2.alloc (.cells #[.string TB] 9) = W3 at *
          go_wp2_with fail
          go_loopw [41] (fun i wr => wr = W3 ∧ (i = .int .i64 0 ∨ i = .int .i64 1)) (fun i _ => 2 - (intOf i).toNat)
          case atStart => exact ⟨rfl, .inl rfl⟩
          case round =>
            obtain ⟨rfl, hst⟩ := hrel
            rcases hst with rfl | rfl
            · go_wp2_with fail
              exact ⟨⟨by first | rfl | trivial, .inr rfl⟩, by simp [intOf]⟩
            · go_wp2_with fail
              refine hU4.out.mono ?_
              rintro e w5 ⟨rfl, hb5⟩
              have hb6 := Lib.hid (hb4.out.trans (hb5.mono hb4.out.size)); clear hb5
              go_wp2_with fail
              go_ret2
              exact ⟨by rw [hT'.out]; rfl, hb6.out⟩)
    by_cases h34 : c = 34
    · subst h34
      have hT : title (34 :: r) = match untilS [34] [] r with | none => ([], 0) | some n => (unescape (r.take n), n + 2) := rfl
      have hokA : (match untilS [34] [] r with | none => true | some n => !(r.take n).contains 10) = true := hok
      have hU : Calls Tryz.prog 82 #[.string (mkB r), .string (mkB [34]), .string ⟨#[]⟩] w fun e w' => e = .returned (.tuple #[.int .i64 (((untilS [34] [] r).getD 0 : Nat) : Int), .bool (untilS [34] [] r).isSome]) ∧ Below w.heap.size w w' := until_calls r [34] [] w hG (by omega)
      replace hle := hle [34] []
      clear hok
      generalize title (34 :: r) = TT at *
      obtain ⟨UU, hUU⟩ : ∃ UU, UU = untilS [34] [] r := ⟨_, rfl⟩
      rw [← hUU] at hU hT hokA hle
      obtain ⟨c, hc⟩ : ∃ c : UInt8, c = 34 := ⟨_, rfl⟩
      rw [← hc] at he hs hi hf hsl hU ⊢
      have hci : (c.toNat : Int) = 34 := by rw [hc]; rfl
      have hc' := Lib.hid hc; clear hc
      go_enter Tryz.func44, Tryz.ntmps44
      (
        obtain ⟨A, hA⟩ : ∃ A, UU = A := ⟨_, rfl⟩
        subst hUU
        rw [hA] at hU hT hokA hle
        have hT' := Lib.hid hT; clear hT
        have hU' := Lib.hid hU; clear hU hA
        go_wp2_with fail
        refine hU'.out.mono ?_
        rintro e w2 ⟨rfl, hb2⟩
        cases A with
        | none =>
          have hb2' := Lib.hid hb2; clear hb2 hle hokA
          go_wp2_with fail
          go_ret2
          exact ⟨by rw [hT'.out]; rfl, hb2'.out⟩
        | some n =>
          have hn := hle n rfl
          have hlf : (r.take n).contains 10 = false := by simpa using hokA
          have hmid : ∀ W, (Instr.slice 9 (.string (mkB (c :: r))) (some (.int .i64 1)) (some (.int .i64 ((n : Int) + 1))) none).run Tryz.prog W = .ok (.string (mkB (r.take n))) W := fun W => by
            have := sl_mid (c :: r) 1 (n + 1) (by omega) (by simp only [List.length_cons]; omega) W
            exact this
          have hSp := Lib.hid (split_one (r.take n) hlf (by rw [List.length_take]; omega) w2 (hG.below hb2))
          have hUn := Lib.hid (fun W (hW : GW W) => unescape_calls (r.take n) W hW (by rw [List.length_take]; omega))
          have hG2 := Lib.hid (hG.below hb2)
          have hb2' := Lib.hid hb2; clear hb2 hle hokA hlf
          generalize mkB (r.take n) = TB at *
          go_wp2_with fail
          refine hSp.out.mono ?_
          rintro e w3 ⟨rfl, rfl⟩
          have hc0 : (w2.alloc (.cells #[.string TB] 9)).cell? ⟨w2.heap.size, 0, none⟩ = some (.string TB) := by rw [World.cell?_alloc_new]; rfl
          have hb3 := Lib.hid ((Below.refl _ w2).alloc (Nat.le_refl _) (.cells #[.string TB] 9))
          have hU4 := Lib.hid (hUn.out (w2.alloc (.cells #[.string TB] 9)) (hG2.out.below hb3.out))
          have hb4 := Lib.hid (hb2'.out.trans (hb3.out.mono hb2'.out.size))
          clear hUn hb3
          generalize w2.alloc (.cells #[.string TB] 9) = W3 at *
          go_wp2_with fail
          go_loopw [41] (fun i wr => wr = W3 ∧ (i = .int .i64 0 ∨ i = .int .i64 1)) (fun i _ => 2 - (intOf i).toNat)
          case atStart => exact ⟨rfl, .inl rfl⟩
          case round =>
            obtain ⟨rfl, hst⟩ := hrel
            rcases hst with rfl | rfl
            · go_wp2_with fail
              exact ⟨⟨by first | rfl | trivial, .inr rfl⟩, by simp [intOf]⟩
            · go_wp2_with fail
              refine hU4.out.mono ?_
              rintro e w5 ⟨rfl, hb5⟩
              have hb6 := Lib.hid (hb4.out.trans (hb5.mono hb4.out.size)); clear hb5
              go_wp2_with fail
              go_ret2
              exact ⟨by rw [hT'.out]; rfl, hb6.out⟩)
    by_cases h39 : c = 39
    · subst h39
      have hT : title (39 :: r) = match untilS [39] [] r with | none => ([], 0) | some n => (unescape (r.take n), n + 2) := rfl
      have hokA : (match untilS [39] [] r with | none => true | some n => !(r.take n).contains 10) = true := hok
      have hU : Calls Tryz.prog 82 #[.string (mkB r), .string (mkB [39]), .string ⟨#[]⟩] w fun e w' => e = .returned (.tuple #[.int .i64 (((untilS [39] [] r).getD 0 : Nat) : Int), .bool (untilS [39] [] r).isSome]) ∧ Below w.heap.size w w' := until_calls r [39] [] w hG (by omega)
      replace hle := hle [39] []
      clear hok
      generalize title (39 :: r) = TT at *
      obtain ⟨UU, hUU⟩ : ∃ UU, UU = untilS [39] [] r := ⟨_, rfl⟩
      rw [← hUU] at hU hT hokA hle
      obtain ⟨c, hc⟩ : ∃ c : UInt8, c = 39 := ⟨_, rfl⟩
      rw [← hc] at he hs hi hf hsl hU ⊢
      have hci : (c.toNat : Int) = 39 := by rw [hc]; rfl
      have hc' := Lib.hid hc; clear hc
      go_enter Tryz.func44, Tryz.ntmps44
      (
        obtain ⟨A, hA⟩ : ∃ A, UU = A := ⟨_, rfl⟩
        subst hUU
        rw [hA] at hU hT hokA hle
        have hT' := Lib.hid hT; clear hT
        have hU' := Lib.hid hU; clear hU hA
        go_wp2_with fail
        refine hU'.out.mono ?_
        rintro e w2 ⟨rfl, hb2⟩
        cases A with
        | none =>
          have hb2' := Lib.hid hb2; clear hb2 hle hokA
          go_wp2_with fail
          go_ret2
          exact ⟨by rw [hT'.out]; rfl, hb2'.out⟩
        | some n =>
          have hn := hle n rfl
          have hlf : (r.take n).contains 10 = false := by simpa using hokA
          have hmid : ∀ W, (Instr.slice 9 (.string (mkB (c :: r))) (some (.int .i64 1)) (some (.int .i64 ((n : Int) + 1))) none).run Tryz.prog W = .ok (.string (mkB (r.take n))) W := fun W => by
            have := sl_mid (c :: r) 1 (n + 1) (by omega) (by simp only [List.length_cons]; omega) W
            exact this
          have hSp := Lib.hid (split_one (r.take n) hlf (by rw [List.length_take]; omega) w2 (hG.below hb2))
          have hUn := Lib.hid (fun W (hW : GW W) => unescape_calls (r.take n) W hW (by rw [List.length_take]; omega))
          have hG2 := Lib.hid (hG.below hb2)
          have hb2' := Lib.hid hb2; clear hb2 hle hokA hlf
          generalize mkB (r.take n) = TB at *
          go_wp2_with fail
          refine hSp.out.mono ?_
          rintro e w3 ⟨rfl, rfl⟩
          have hc0 : (w2.alloc (.cells #[.string TB] 9)).cell? ⟨w2.heap.size, 0, none⟩ = some (.string TB) := by rw [World.cell?_alloc_new]; rfl
          have hb3 := Lib.hid ((Below.refl _ w2).alloc (Nat.le_refl _) (.cells #[.string TB] 9))
          have hU4 := Lib.hid (hUn.out (w2.alloc (.cells #[.string TB] 9)) (hG2.out.below hb3.out))
          have hb4 := Lib.hid (hb2'.out.trans (hb3.out.mono hb2'.out.size))
          clear hUn hb3
          generalize w2.alloc (.cells #[.string TB] 9) = W3 at *
          go_wp2_with fail
          go_loopw [41] (fun i wr => wr = W3 ∧ (i = .int .i64 0 ∨ i = .int .i64 1)) (fun i _ => 2 - (intOf i).toNat)
          case atStart => exact ⟨rfl, .inl rfl⟩
          case round =>
            obtain ⟨rfl, hst⟩ := hrel
            rcases hst with rfl | rfl
            · go_wp2_with fail
              exact ⟨⟨by first | rfl | trivial, .inr rfl⟩, by simp [intOf]⟩
            · go_wp2_with fail
              refine hU4.out.mono ?_
              rintro e w5 ⟨rfl, hb5⟩
              have hb6 := Lib.hid (hb4.out.trans (hb5.mono hb4.out.size)); clear hb5
              go_wp2_with fail
              go_ret2
              exact ⟨by rw [hT'.out]; rfl, hb6.out⟩)
    have hT : title (c :: r) = ([], 0) := by
      have : titleEnd c = none := by unfold titleEnd; rw [if_neg h40, if_neg (by rintro (h | h); exact h34 h; exact h39 h)]
      simp only [title, this]
    rw [hT]
    have n40 : ¬ ((c.toNat : Int) = 40) := fun e => h40 (UInt8.toNat_inj.1 (by show c.toNat = 40; omega))
    have n34 : ¬ ((c.toNat : Int) = 34) := fun e => h34 (UInt8.toNat_inj.1 (by show c.toNat = 34; omega))
    have n39 : ¬ ((c.toNat : Int) = 39) := fun e => h39 (UInt8.toNat_inj.1 (by show c.toNat = 39; omega))
    clear hok hle hT
    go_enter Tryz.func44, Tryz.ntmps44
    go_wp2_with fail
    go_ret2
    exact ⟨rfl, Below.refl _ _⟩
end Go.Proofs.YthdlibgiejpjeaaGreatDoor.Given

/- The contract of link.Define at the one text that 'shown' asks. -/
set_option linter.unusedVariables false
set_option linter.unusedSimpArgs false
namespace Go.Proofs.YthdlibgiejpjeaaGreatDoor.Given
open Go Go.RowKit Go.Proofs.YthdlibgiejpjeaaGreatDoor Go.Proofs.YthdlibgiejpjeaaGreatDoorW.PrintWords Go.Proofs.YthdlibgiejpjeaaGreatDoor.Spec Go.Proofs.YthdlibgiejpjeaaGreatDoor.PureAid

set_option maxHeartbeats 4000000 in
set_option maxRecDepth 1000000 in
/-- A label that is not too long and not blank. -/
theorem label_at (x r : List UInt8) (w : World) (hG : GW w) (hu : untilS [93] [91] (x ++ 93 :: r) = some x.length) (hl : x.length ≤ 999) (hr : r.length ≤ 100000000) (hne : Fold.fold x ≠ []) :
    Calls Tryz.prog 42 #[.string (mkB (91 :: (x ++ 93 :: r)))] w fun e w' => e = .returned (.tuple #[.string (mkB x), .int .i64 ((x.length + 2 : Nat) : Int)]) ∧ Below w.heap.size w w' := by
  have hxl : (x ++ 93 :: r).length ≤ 1000000000 := by rw [List.length_append, List.length_cons]; omega
  have hU0 := until_calls (x ++ 93 :: r) [93] [91] w hG hxl
  rw [hu] at hU0
  have hU : Calls Tryz.prog 82 #[.string (mkB (x ++ 93 :: r)), .string ⟨#[93]⟩, .string ⟨#[91]⟩] w fun e w' => e = .returned (.tuple #[.int .i64 (x.length : Int), .bool true]) ∧ Below w.heap.size w w' := hU0
  have hU' := Lib.hid hU; clear hU hU0
  have hc := Lib.hid (cutp_hit 91 (x ++ 93 :: r) w)
  have hsl := sl_to (x ++ 93 :: r) x.length (by rw [List.length_append]; omega)
  rw [List.take_left] at hsl
  have hF := Lib.hid (fun W (hW : GW W) => Gen.fold_calls x W hW (by omega))
  have he : (mkB (Fold.fold x)).toList.isEmpty = false := by
    rw [mkB_toList]
    cases h : Fold.fold x with
    | nil => exact absurd h hne
    | cons a b => rfl
  generalize mkB (Fold.fold x) = FB at *
  generalize mkB (91 :: (x ++ 93 :: r)) = L0 at *
  generalize mkB (x ++ 93 :: r) = L1 at *
  have hl' : (x.length : Int) ≤ 999 := by omega
  generalize mkB x = XB at *
  clear hu hxl hne
  go_enter Tryz.func42, Tryz.ntmps42
  go_wp2_with fail
  refine hc.out.mono ?_
  rintro e w1 ⟨rfl, hww⟩
  have hww := hww.symm
  subst hww
  go_wp2_with fail
  refine hU'.out.mono ?_
  rintro e w2 ⟨rfl, hb2⟩
  have hF2 := Lib.hid (hF.out w2 (hG.below hb2))
  have hb2' := Lib.hid hb2; clear hb2 hF
  go_wp2_with fail
  refine hF2.out.mono ?_
  rintro e w3 ⟨rfl, hb3⟩
  have hb3' := Lib.hid (hb2'.out.trans (hb3.mono hb2'.out.size)); clear hb3
  go_wp2_with fail
  go_ret2
  exact ⟨rfl, hb3'.out⟩

theorem triml_f (l t : List UInt8) (h : l.dropWhile (([32, 9] : List UInt8).contains ·) = t) : strings_TrimLeft.f (mkB l) (⟨#[32, 9]⟩ : ByteArray) = some (mkB t) := by
  unfold strings_TrimLeft.f
  rw [if_pos ⟨by show 2 < 4294967281; omega, by rfl⟩]
  show some (mkB (Lib.trimLeftS l [32, 9])) = _
  unfold Lib.trimLeftS
  rw [h]
set_option maxHeartbeats 4000000 in
set_option maxRecDepth 1000000 in
theorem gap_at (l t : List UInt8) (h : l.dropWhile (([32, 9] : List UInt8).contains ·) = t) (h10 : t.head? ≠ some 10) (hl : l.length ≤ 1000000) (n : Nat) (hn : n + t.length = l.length) (w : World) (hG : GW w) :
    Calls Tryz.prog 85 #[.string (mkB l)] w fun e w' => e = .returned (.int .i64 (n : Int)) ∧ Below w.heap.size w w' := by
  have hT := Lib.hid (strings_TrimLeft.calls (mkB l) ⟨#[32, 9]⟩ _ w hG (triml_f l t h))
  have hc := Lib.hid (fun W => cutp_miss 10 t h10 W)
  have hs1 := mkB_size l
  have hs2 := mkB_size t
  have hsub : (l.length : Int) - (t.length : Int) = (n : Int) := by omega
  generalize mkB l = L at *
  generalize mkB t = T at *
  clear h h10
  go_enter Tryz.func85, Tryz.ntmps85
  go_wp2_with fail
  refine hT.out.mono ?_
  rintro e w1 ⟨rfl, hb1⟩
  have hb1' := Lib.hid hb1; clear hb1
  go_wp2_with fail
  refine (hc.out _).mono ?_
  rintro e w2 ⟨rfl, hww⟩
  have hww := hww.symm
  subst hww
  go_wp2_with fail
  go_ret
  exact ⟨rfl, hb1'.out⟩
set_option maxHeartbeats 4000000 in
set_option maxRecDepth 1000000 in
theorem line_at (w : World) (hG : GW w) :
    Calls Tryz.prog 86 #[.string (mkB [10])] w fun e w' => e = .returned (.tuple #[.string (mkB []), .bool true]) ∧ Below w.heap.size w w' := by
  have hT := Lib.hid (strings_TrimLeft.calls (mkB [10]) ⟨#[32, 9]⟩ _ w hG (triml_f [10] [10] (by decide)))
  have hc := Lib.hid (fun W => cutp_hit 10 [] W)
  generalize mkB [10] = L at *
  generalize mkB [] = T at *
  go_enter Tryz.func86, Tryz.ntmps86
  go_wp2_with fail
  refine hT.out.mono ?_
  rintro e w1 ⟨rfl, hb1⟩
  have hb1' := Lib.hid hb1; clear hb1
  go_wp2_with fail
  refine (hc.out _).mono ?_
  rintro e w2 ⟨rfl, hww⟩
  have hww := hww.symm
  subst hww
  go_wp2_with fail
  go_ret2
  exact ⟨rfl, hb1'.out⟩
abbrev s0 : List UInt8 := [91, 70, 111, 111, 93, 58, 32, 47, 117, 32, 34, 116, 34, 10]
set_option maxHeartbeats 8000000 in
set_option maxRecDepth 1000000 in
theorem define_at (w : World) (hG : GW w) :
    Calls Tryz.prog 45 #[.string (mkB s0)] w fun e w' => e = .returned (.tuple #[.agg #[.string (mkB [102, 111, 111]), .string (mkB [47, 117]), .string (mkB [116])], .int .i64 14]) ∧ Below w.heap.size w w' := by
  have hTP : ∀ W, Calls Tryz.prog 77 #[.string (mkB s0), .string ⟨#[32]⟩] W fun e w' => e = .returned (.string (mkB s0)) ∧ w' = W := fun W => Tryz.strings_TrimPrefix (mkB s0) ⟨#[32]⟩ W
  have hLab : ∀ W, GW W → Calls Tryz.prog 42 #[.string (mkB s0)] W fun e w' => e = .returned (.tuple #[.string (mkB [70, 111, 111]), .int .i64 5]) ∧ Below W.heap.size W w' := fun W hW =>
    label_at [70, 111, 111] [58, 32, 47, 117, 32, 34, 116, 34, 10] W hW (by decide) (by decide) (by decide) (by rw [Fold.fold_foo]; decide)
  have hHP : ∀ W, Calls Tryz.prog 76 #[.string (mkB [58, 32, 47, 117, 32, 34, 116, 34, 10]), .string ⟨#[58]⟩] W fun e w' => e = .returned (.bool true) ∧ w' = W := fun W => Tryz.strings_HasPrefix _ ⟨#[58]⟩ W
  have hGap1 : ∀ W, GW W → Calls Tryz.prog 85 #[.string (mkB [32, 47, 117, 32, 34, 116, 34, 10])] W fun e w' => e = .returned (.int .i64 1) ∧ Below W.heap.size W w' := fun W hW =>
    gap_at [32, 47, 117, 32, 34, 116, 34, 10] [47, 117, 32, 34, 116, 34, 10] (by decide) (by decide) (by decide) 1 (by decide) W hW
  have hD : ∀ W, GW W → Calls Tryz.prog 43 #[.string (mkB [47, 117, 32, 34, 116, 34, 10])] W fun e w' => e = .returned (.tuple #[.string (mkB [47, 117]), .int .i64 2]) ∧ Below W.heap.size W w' := fun W hW => by
    have h := dest_calls [47, 117, 32, 34, 116, 34, 10] W hW (by decide)
    rw [show dest [47, 117, 32, 34, 116, 34, 10] = ([47, 117], 2) by decide +kernel] at h
    exact h
  have hF : ∀ W, GW W → Calls Tryz.prog 83 #[.string (mkB [70, 111, 111])] W fun e w' => e = .returned (.string (mkB [102, 111, 111])) ∧ Below W.heap.size W w' := fun W hW => by
    have h := Gen.fold_calls [70, 111, 111] W hW (by decide)
    rw [Fold.fold_foo] at h
    exact h
  have hGap2 : ∀ W, GW W → Calls Tryz.prog 85 #[.string (mkB [32, 34, 116, 34, 10])] W fun e w' => e = .returned (.int .i64 1) ∧ Below W.heap.size W w' := fun W hW =>
    gap_at [32, 34, 116, 34, 10] [34, 116, 34, 10] (by decide) (by decide) (by decide) 1 (by decide) W hW
  have hT : ∀ W, GW W → Calls Tryz.prog 44 #[.string (mkB [34, 116, 34, 10])] W fun e w' => e = .returned (.tuple #[.string (mkB [116]), .int .i64 3]) ∧ Below W.heap.size W w' := fun W hW => by
    have h := title_calls [34, 116, 34, 10] W hW (by decide) (by decide +kernel)
    rw [show title [34, 116, 34, 10] = ([116], 3) by decide +kernel] at h
    exact h
  have hLi := fun W (hW : GW W) => line_at W hW
  have e1 : ∀ W, (Instr.slice 9 (.string (mkB s0)) (some (.int .i64 5)) none none).run Tryz.prog W = .ok (.string (mkB [58, 32, 47, 117, 32, 34, 116, 34, 10])) W := fun W => sl_from s0 5 (by decide) W
  have e2 : ∀ W, (Instr.slice 9 (.string (mkB s0)) (some (.int .i64 6)) none none).run Tryz.prog W = .ok (.string (mkB [32, 47, 117, 32, 34, 116, 34, 10])) W := fun W => sl_from s0 6 (by decide) W
  have e3 : ∀ W, (Instr.slice 9 (.string (mkB [32, 47, 117, 32, 34, 116, 34, 10])) (some (.int .i64 1)) none none).run Tryz.prog W = .ok (.string (mkB [47, 117, 32, 34, 116, 34, 10])) W := fun W => sl_from [32, 47, 117, 32, 34, 116, 34, 10] 1 (by decide) W
  have e4 : ∀ W, (Instr.slice 9 (.string (mkB [47, 117, 32, 34, 116, 34, 10])) (some (.int .i64 2)) none none).run Tryz.prog W = .ok (.string (mkB [32, 34, 116, 34, 10])) W := fun W => sl_from [47, 117, 32, 34, 116, 34, 10] 2 (by decide) W
  have e5 : ∀ W, (Instr.slice 9 (.string (mkB [32, 34, 116, 34, 10])) (some (.int .i64 1)) none none).run Tryz.prog W = .ok (.string (mkB [34, 116, 34, 10])) W := fun W => sl_from [32, 34, 116, 34, 10] 1 (by decide) W
  have e6 : ∀ W, (Instr.slice 9 (.string (mkB [32, 34, 116, 34, 10])) (some (.int .i64 4)) none none).run Tryz.prog W = .ok (.string (mkB [10])) W := fun W => sl_from [32, 34, 116, 34, 10] 4 (by decide) W
  have z0 : (mkB s0).size = 14 := mkB_size _
  have z1 : (mkB []).size = 0 := mkB_size _
  generalize mkB s0 = A0 at *
  generalize mkB [58, 32, 47, 117, 32, 34, 116, 34, 10] = A1 at *
  generalize mkB [32, 47, 117, 32, 34, 116, 34, 10] = A2 at *
  generalize mkB [47, 117, 32, 34, 116, 34, 10] = A3 at *
  generalize mkB [32, 34, 116, 34, 10] = A4 at *
  generalize mkB [34, 116, 34, 10] = A5 at *
  generalize mkB [10] = A6 at *
  generalize mkB [70, 111, 111] = A7 at *
  generalize mkB [102, 111, 111] = A8 at *
  generalize mkB [47, 117] = A9 at *
  generalize mkB [116] = A10 at *
  generalize mkB [] = A11 at *
  replace hLab := Lib.hid hLab
  replace hGap1 := Lib.hid hGap1
  replace hGap2 := Lib.hid hGap2
  replace hD := Lib.hid hD
  replace hF := Lib.hid hF
  replace hT := Lib.hid hT
  replace hLi := Lib.hid hLi
  replace hTP := Lib.hid hTP
  replace hHP := Lib.hid hHP
  go_enter Tryz.func45, Tryz.ntmps45
  go_wp2_with fail
  have q1 := (Below.refl w.heap.size w).alloc (Nat.le_refl _) (.cells #[.string ⟨#[]⟩, .string ⟨#[]⟩, .string ⟨#[]⟩] 48)
  have q2 := q1.alloc q1.size (.cells #[.string ⟨#[]⟩, .string ⟨#[]⟩, .string ⟨#[]⟩] 48)
  have hcell : ∀ o, ((w.alloc (.cells #[.string ⟨#[]⟩, .string ⟨#[]⟩, .string ⟨#[]⟩] 48)).alloc (.cells #[.string ⟨#[]⟩, .string ⟨#[]⟩, .string ⟨#[]⟩] 48)).cell? ⟨w.heap.size, o, none⟩ = #[Value.string ⟨#[]⟩, .string ⟨#[]⟩, .string ⟨#[]⟩][o]? := fun o => by
    rw [World.cell?_alloc_lt _ _ _ (by show w.heap.size < (w.heap.push _).size; rw [Array.size_push]; omega), World.cell?_alloc_new]
  have hfro : ∀ o, ((w.alloc (.cells #[.string ⟨#[]⟩, .string ⟨#[]⟩, .string ⟨#[]⟩] 48)).alloc (.cells #[.string ⟨#[]⟩, .string ⟨#[]⟩, .string ⟨#[]⟩] 48)).frozen? ⟨w.heap.size, o, none⟩ = false := fun o => by
    rw [((Below.refl _ (w.alloc (.cells #[.string ⟨#[]⟩, .string ⟨#[]⟩, .string ⟨#[]⟩] 48))).alloc (Nat.le_refl _) _).frozen (by show w.heap.size < (w.heap.push _).size; rw [Array.size_push]; omega)]
    exact World.frozen?_alloc_new _ _ _ _
  have hblk := blk_alloc (blk_new w (.cells #[.string ⟨#[]⟩, .string ⟨#[]⟩, .string ⟨#[]⟩] 48)) (.cells #[.string ⟨#[]⟩, .string ⟨#[]⟩, .string ⟨#[]⟩] 48)
  have hG0 := hG.below q2
  generalize (w.alloc (.cells #[.string ⟨#[]⟩, .string ⟨#[]⟩, .string ⟨#[]⟩] 48)).alloc (.cells #[.string ⟨#[]⟩, .string ⟨#[]⟩, .string ⟨#[]⟩] 48) = W0 at *
  have hc0 := Lib.hid (show W0.cell? ⟨w.heap.size, 0, none⟩ = some (.string ⟨#[]⟩) from hcell 0)
  have hc1 := Lib.hid (show W0.cell? ⟨w.heap.size, 1, none⟩ = some (.string ⟨#[]⟩) from hcell 1)
  have hc2 := Lib.hid (show W0.cell? ⟨w.heap.size, 2, none⟩ = some (.string ⟨#[]⟩) from hcell 2)
  have hf0 := Lib.hid hfro
  have hblk' := Lib.hid hblk; clear hblk
  have hq := Lib.hid q2
  clear hcell hfro q1 q2
  go_loopw [5, 18] (fun r i wr => wr = W0 ∧ r = .string A0 ∧ (i = .int .i64 0 ∨ i = .int .i64 1 ∨ i = .int .i64 2 ∨ i = .int .i64 3)) (fun _ i _ => 4 - (intOf i).toNat)
  case atStart => exact ⟨rfl, rfl, .inl rfl⟩
  case round =>
    obtain ⟨rfl, rfl, hst⟩ := hrel
    rcases hst with rfl | rfl | rfl | rfl
    · go_wp2_with fail
      refine (hTP.out _).mono ?_
      rintro e w1 ⟨rfl, hww⟩
      have hww := hww.symm
      subst hww
      go_wp2_with fail
      exact ⟨⟨by first | rfl | trivial, rfl, .inr (.inl rfl)⟩, by simp [intOf]⟩
    · go_wp2_with fail
      refine (hTP.out _).mono ?_
      rintro e w1 ⟨rfl, hww⟩
      have hww := hww.symm
      subst hww
      go_wp2_with fail
      exact ⟨⟨by first | rfl | trivial, rfl, .inr (.inr (.inl rfl))⟩, by simp [intOf]⟩
    · go_wp2_with fail
      refine (hTP.out _).mono ?_
      rintro e w1 ⟨rfl, hww⟩
      have hww := hww.symm
      subst hww
      go_wp2_with fail
      exact ⟨⟨by first | rfl | trivial, rfl, .inr (.inr (.inr rfl))⟩, by simp [intOf]⟩
    · go_wp2_with fail
      refine (hLab.out _ hG0).mono ?_
      rintro e w1 ⟨rfl, hb1⟩
      have hG1 := hG0.below hb1
      have hb1' := Lib.hid hb1; clear hb1
      go_wp2_with fail
      refine (hHP.out _).mono ?_
      rintro e w2 ⟨rfl, hww⟩
      have hww := hww.symm
      subst hww
      go_wp2_with fail
      refine (hGap1.out _ hG1).mono ?_
      rintro e w2 ⟨rfl, hb2⟩
      have hG2 := hG1.below hb2
      have hb2' := Lib.hid (hb1'.out.trans (hb2.mono hb1'.out.size)); clear hb2
      go_wp2_with fail
      refine (hD.out _ hG2).mono ?_
      rintro e w3 ⟨rfl, hb3⟩
      have hG3 := hG2.below hb3
      have hb3' := Lib.hid (hb2'.out.trans (hb3.mono hb2'.out.size)); clear hb3
      go_wp2_with fail
      refine (hF.out _ hG3).mono ?_
      rintro e w4 ⟨rfl, hb4⟩
      have hG4 := hG3.below hb4
      have hb4' := Lib.hid (hb3'.out.trans (hb4.mono hb3'.out.size)); clear hb4
      have hD0 := World.cell?_alloc_new w4 #[Value.string A8, .string A9, .string ⟨#[]⟩] 48
      have hDf := World.frozen?_alloc_new w4 #[Value.string A8, .string A9, .string ⟨#[]⟩] 48
      have qa := (Below.refl _ w4).alloc (Nat.le_refl _) (.cells #[.string A8, .string A9, .string ⟨#[]⟩] 48)
      have hG5 := hG4.below qa
      have hb5' := Lib.hid (hb4'.out.trans (qa.mono hb4'.out.size)); clear qa
      go_wp2_with fail
      generalize hW5 : w4.alloc (.cells #[.string A8, .string A9, .string ⟨#[]⟩] 48) = W5 at *
      have hD0' := Lib.hid hD0; clear hD0
      have hDf' := Lib.hid hDf; clear hDf
      have hlt5 : w4.heap.size < W5.heap.size := lt_of_cell (hD0'.out 0)
      have hW5' := Lib.hid hW5; clear hW5
      refine (hGap2.out _ hG5).mono ?_
      rintro e w6 ⟨rfl, hb6⟩
      have hG6 := hG5.below hb6
      have hk6 := Lib.hid hb6; clear hb6
      go_wp2_with fail
      refine (hT.out _ hG6).mono ?_
      rintro e w7 ⟨rfl, hb7⟩
      have hG7 := hG6.below hb7
      have hk7 := Lib.hid (hk6.out.trans (hb7.mono hk6.out.size)); clear hb7
      go_wp2_with fail
      refine (hLi.out _ hG7).mono ?_
      rintro e w8 ⟨rfl, hb8⟩
      have hG8 := hG7.below hb8
      have hk8 := Lib.hid (hk7.out.trans (hb8.mono hk7.out.size)); clear hb8
      have d0 : w8.cell? ⟨w4.heap.size, 0, none⟩ = some (.string A8) := cell_below (hD0'.out 0) hk8.out
      have d1 : w8.cell? ⟨w4.heap.size, 1, none⟩ = some (.string A9) := cell_below (hD0'.out 1) hk8.out
      have d2 : w8.cell? ⟨w4.heap.size, 2, none⟩ = some (.string ⟨#[]⟩) := cell_below (hD0'.out 2) hk8.out
      have df : ∀ o, w8.frozen? ⟨w4.heap.size, o, none⟩ = false := fun o => (hk8.out.frozen hlt5).trans (hDf'.out o)
      have hall := Lib.hid (hb5'.out.trans (hk8.out.mono hb5'.out.size))
      have r0 := cell_below hc0.out hall.out
      have r1 := cell_below hc1.out hall.out
      have r2 := cell_below hc2.out hall.out
      have rlt : w.heap.size < wr.heap.size := lt_of_cell hc0.out
      have rf : ∀ o, w8.frozen? ⟨w.heap.size, o, none⟩ = false := fun o => (hall.out.frozen rlt).trans (hf0.out o)
      have dne : w.heap.size < w4.heap.size := Nat.lt_of_lt_of_le rlt hb4'.out.size
      have hb9 := Lib.hid (blk_below hblk'.out hall.out)
      go_wp2_with fail
      refine bodyPost_ret (results_ct rfl _ _ w.heap.size 48 #[.string A8, .string A9, .string A10] (0, 0) _ rfl
        (blk_put (cs := #[.string A8, .string A9, .string ⟨#[]⟩]) (blk_put (cs := #[.string A8, .string ⟨#[]⟩, .string ⟨#[]⟩]) (blk_put (cs := #[.string ⟨#[]⟩, .string ⟨#[]⟩, .string ⟨#[]⟩]) (blk_far hb9.out (show w.heap.size ≠ w4.heap.size by omega) _) 0 _ rfl) 1 _ rfl) 2 _ rfl)
        Tryz.underlying48 rfl (by kernel_rfl)) rfl ?_
      refine ⟨rfl, ?_⟩
      have hfin := hq.out.trans (hall.out.mono hq.out.size)
      exact (((hfin.setCell (p := ⟨w4.heap.size, 2, none⟩) (Nat.le_of_lt dne) _).setCell (p := ⟨w.heap.size, 0, none⟩) (Nat.le_refl _) _).setCell (p := ⟨w.heap.size, 1, none⟩) (Nat.le_refl _) _).setCell (p := ⟨w.heap.size, 2, none⟩) (Nat.le_refl _) _
def link_Define.f (a0 : ByteArray) : Option (ByteArray × ByteArray × ByteArray × Int) := if a0.data.toList = s0 then some (mkB [102, 111, 111], mkB [47, 117], mkB [116], 14) else none
theorem link_Define.calls (a0 : ByteArray) (r1 r2 r3 : ByteArray) (r4 : Int) (w : World) (hG : GW w) (h : link_Define.f a0 = some (r1, r2, r3, r4)) :
    Calls Tryz.prog 45 #[.string a0] w fun e w' => e = .returned (.tuple #[.agg #[.string r1, .string r2, .string r3], .int .i64 r4]) ∧ Below w.heap.size w w' := by
  unfold link_Define.f at h
  split at h
  · rename_i h1
    simp only [Option.some.injEq, Prod.mk.injEq] at h
    obtain ⟨rfl, rfl, rfl, rfl⟩ := h
    obtain rfl : a0 = mkB s0 := mkB_of a0 s0 h1
    exact define_at w hG
  · cases h
end Go.Proofs.YthdlibgiejpjeaaGreatDoor.Given

/- runes.Fold, link.until, link.Dest and link.Title in the form in which printed texts call them. -/
set_option linter.unusedVariables false
set_option linter.unusedSimpArgs false
namespace Go.Proofs.YthdlibgiejpjeaaGreatDoor.Given
open Go Go.RowKit Go.Proofs.YthdlibgiejpjeaaGreatDoor Go.Proofs.YthdlibgiejpjeaaGreatDoorW.PrintWords Go.Proofs.YthdlibgiejpjeaaGreatDoor.Spec

def runes_Fold.f (a0 : ByteArray) : Option (ByteArray) := if a0.size ≤ 10000000 then some (mkB (Fold.fold a0.data.toList)) else none
def link_until.f (a0 a1 a2 : ByteArray) : Option (Int × Bool) := if a0.size ≤ 1000000000 then some ((((untilS a1.data.toList a2.data.toList a0.data.toList).getD 0 : Nat) : Int), (untilS a1.data.toList a2.data.toList a0.data.toList).isSome) else none
def link_Dest.f (a0 : ByteArray) : Option (ByteArray × Int) := if a0.size ≤ 1000000000 then some (mkB (dest a0.data.toList).1, (((dest a0.data.toList).2 : Nat) : Int)) else none
def link_Title.f (a0 : ByteArray) : Option (ByteArray × Int) := if a0.size ≤ 1000000000 ∧ titleOk a0.data.toList = true then some (mkB (title a0.data.toList).1, (((title a0.data.toList).2 : Nat) : Int)) else none
theorem len_list (a : ByteArray) : a.data.toList.length = a.size := by rw [Array.length_toList]; rfl
theorem runes_Fold.calls (a0 : ByteArray) (r : ByteArray) (w : World) (hG : GW w) (h : runes_Fold.f a0 = some r) :
    Calls Tryz.prog 83 #[.string a0] w fun e w' => e = .returned (.string r) ∧ Below w.heap.size w w' := by
  unfold runes_Fold.f at h
  split at h
  · rename_i h1
    obtain rfl := Option.some.inj h
    exact Gen.fold_calls a0.data.toList w hG (by rw [len_list]; exact h1)
  · cases h
theorem link_until.calls (a0 a1 a2 : ByteArray) (r1 : Int) (r2 : Bool) (w : World) (hG : GW w) (h : link_until.f a0 a1 a2 = some (r1, r2)) :
    Calls Tryz.prog 82 #[.string a0, .string a1, .string a2] w fun e w' => e = .returned (.tuple #[.int .i64 r1, .bool r2]) ∧ Below w.heap.size w w' := by
  unfold link_until.f at h
  split at h
  · rename_i h1
    simp only [Option.some.injEq, Prod.mk.injEq] at h
    obtain ⟨rfl, rfl⟩ := h
    exact until_calls a0.data.toList a1.data.toList a2.data.toList w hG (by rw [len_list]; exact h1)
  · cases h
theorem link_Dest.calls (a0 : ByteArray) (r1 : ByteArray) (r2 : Int) (w : World) (hG : GW w) (h : link_Dest.f a0 = some (r1, r2)) :
    Calls Tryz.prog 43 #[.string a0] w fun e w' => e = .returned (.tuple #[.string r1, .int .i64 r2]) ∧ Below w.heap.size w w' := by
  unfold link_Dest.f at h
  split at h
  · rename_i h1
    simp only [Option.some.injEq, Prod.mk.injEq] at h
    obtain ⟨rfl, rfl⟩ := h
    exact dest_calls a0.data.toList w hG (by rw [len_list]; exact h1)
  · cases h
theorem link_Title.calls (a0 : ByteArray) (r1 : ByteArray) (r2 : Int) (w : World) (hG : GW w) (h : link_Title.f a0 = some (r1, r2)) :
    Calls Tryz.prog 44 #[.string a0] w fun e w' => e = .returned (.tuple #[.string r1, .int .i64 r2]) ∧ Below w.heap.size w w' := by
  unfold link_Title.f at h
  split at h
  · rename_i h1
    simp only [Option.some.injEq, Prod.mk.injEq] at h
    obtain ⟨rfl, rfl⟩ := h
    exact title_calls a0.data.toList w hG (by rw [len_list]; exact h1.1) h1.2
  · cases h
end Go.Proofs.YthdlibgiejpjeaaGreatDoor.Given

/- Plain laws of link: a text with a backslash ahead of each mark. -/
set_option linter.unusedVariables false
set_option linter.unusedSimpArgs false
namespace Go.Proofs.YthdlibgiejpjeaaGreatDoor.Spec
open Go Go.Proofs.YthdlibgiejpjeaaGreatDoor.Given Go.Proofs.YthdlibgiejpjeaaGreatDoor.MorePure

theorem mark_lf : markC 10 = false := by decide
theorem mark_bs : markC 92 = true := by decide
theorem until_esc (fin stop : List UInt8) (hf : ∀ x, fin.contains x = true → markC x = true) (hs : ∀ x, stop.contains x = true → markC x = true ∨ x = 10) (hf92 : fin.contains 92 = false) (hs92 : stop.contains 92 = false) (d : UInt8) (r : List UInt8) (hd : fin.contains d = true) :
    ∀ was : List UInt8, (∀ x ∈ was, x ≠ 10) → untilS fin stop (was.flatMap marked ++ d :: r) = some (was.flatMap marked).length
  | [], _ => by rw [List.flatMap_nil, List.nil_append, untilS_hit fin stop d r hd]; rfl
  | c :: was, h10 => by
    have ih := until_esc fin stop hf hs hf92 hs92 d r hd was (fun x hx => h10 x (List.mem_cons_of_mem _ hx))
    rw [List.flatMap_cons]
    by_cases hm : markC c = true
    · rw [show marked c = [92, c] by unfold marked; rw [if_pos hm]]
      show untilS fin stop (92 :: c :: (was.flatMap marked ++ d :: r)) = _
      rw [untilS_skip fin stop c _ hf92 hs92 hm, ih]; rfl
    · rw [show marked c = [c] by unfold marked; rw [if_neg hm]]
      show untilS fin stop (c :: (was.flatMap marked ++ d :: r)) = _
      have h1 : fin.contains c = false := Bool.eq_false_iff.2 fun h => hm (hf c h)
      have h2 : stop.contains c = false := Bool.eq_false_iff.2 fun h => by
        rcases hs c h with h | h
        · exact hm h
        · exact h10 c List.mem_cons_self h
      rw [untilS_step fin stop c _ h1 h2 (fun d s _ hc => hm (hc.1 ▸ mark_bs)), ih]; rfl
theorem until_none (fin stop : List UInt8) (hf : ∀ x, fin.contains x = true → markC x = true) (hs : ∀ x, stop.contains x = true → markC x = true ∨ x = 10) (hf92 : fin.contains 92 = false) (hs92 : stop.contains 92 = false) :
    ∀ was : List UInt8, (∀ x ∈ was, x ≠ 10) → untilS fin stop (was.flatMap marked) = none
  | [], _ => rfl
  | c :: was, h10 => by
    have ih := until_none fin stop hf hs hf92 hs92 was (fun x hx => h10 x (List.mem_cons_of_mem _ hx))
    rw [List.flatMap_cons]
    by_cases hm : markC c = true
    · rw [show marked c = [92, c] by unfold marked; rw [if_pos hm]]
      show untilS fin stop (92 :: c :: (was.flatMap marked)) = _
      rw [untilS_skip fin stop c _ hf92 hs92 hm, ih]; rfl
    · rw [show marked c = [c] by unfold marked; rw [if_neg hm]]
      show untilS fin stop (c :: (was.flatMap marked)) = _
      have h1 : fin.contains c = false := Bool.eq_false_iff.2 fun h => hm (hf c h)
      have h2 : stop.contains c = false := Bool.eq_false_iff.2 fun h => by
        rcases hs c h with h | h
        · exact hm h
        · exact h10 c List.mem_cons_self h
      rw [untilS_step fin stop c _ h1 h2 (fun d s _ hc => hm (hc.1 ▸ mark_bs)), ih]; rfl
theorem esc_nolf (was : List UInt8) (h10 : ∀ x ∈ was, x ≠ 10) : (was.flatMap marked).contains 10 = false := by
  rw [Bool.eq_false_iff]
  intro h
  obtain ⟨c, hc, hx⟩ := List.mem_flatMap.1 (List.contains_iff_mem.1 h)
  unfold marked at hx
  split at hx
  · rename_i hm
    simp only [List.mem_cons, List.not_mem_nil, or_false] at hx
    rcases hx with hx | hx
    · exact absurd hx (by decide)
    · exact h10 c hc hx.symm
  · simp only [List.mem_cons, List.not_mem_nil, or_false] at hx
    exact h10 c hc hx.symm
theorem one_contains (a x : UInt8) : ([a] : List UInt8).contains x = true → x = a := by
  intro h; simpa using h
/-- A place between angles. -/
theorem dest_esc (was b : List UInt8) (h10 : ∀ x ∈ was, x ≠ 10) : dest (60 :: (was.flatMap marked ++ 62 :: b)) = (was, (was.flatMap marked).length + 2) := by
  have hu := until_esc [62] [60, 10] (fun x h => by rw [one_contains 62 x h]; decide) (fun x h => by
    simp only [List.contains_cons, Bool.or_eq_true, beq_iff_eq, List.contains_nil, Bool.false_eq_true, or_false] at h
    rcases h with h | h
    · left; rw [h]; decide
    · right; exact h) (by decide) (by decide) 62 b (by decide) was h10
  show (match untilS [62] [60, 10] (was.flatMap marked ++ 62 :: b) with | none => ([], 0) | some n => (unescape ((was.flatMap marked ++ 62 :: b).take n), n + 2)) = _
  rw [hu]
  show (unescape ((was.flatMap marked ++ 62 :: b).take (was.flatMap marked).length), _) = _
  rw [List.take_left, unescape_marked]
theorem title_esc (c fin : UInt8) (stop : List UInt8) (he : titleEnd c = some ([fin], stop)) (hf : markC fin = true) (hf92 : fin ≠ 92) (hs : stop = [] ∨ stop = [40]) (was b : List UInt8) (h10 : ∀ x ∈ was, x ≠ 10) :
    title (c :: (was.flatMap marked ++ fin :: b)) = (was, (was.flatMap marked).length + 2) ∧ titleOk (c :: (was.flatMap marked ++ fin :: b)) = true := by
  have hu := until_esc [fin] stop (fun x h => by rw [one_contains fin x h]; exact hf) (fun x h => by
    rcases hs with rfl | rfl
    · cases h
    · left; rw [one_contains 40 x h]; decide) (by simpa using fun e => hf92 e.symm) (by rcases hs with rfl | rfl <;> decide) fin b (by simp) was h10
  constructor
  · simp only [title, he, hu]
    rw [List.take_left, unescape_marked]
  · simp only [titleOk, he, hu]
    rw [List.take_left, esc_nolf was h10]; rfl
end Go.Proofs.YthdlibgiejpjeaaGreatDoor.Spec

