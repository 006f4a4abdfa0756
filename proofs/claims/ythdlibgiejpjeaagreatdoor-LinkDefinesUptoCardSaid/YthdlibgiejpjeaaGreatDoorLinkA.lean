import Derived.Test.YthdlibgiejpjeaaGreatDoorSpecLaws
import Derived.Test.YthdlibgiejpjeaaGreatDoorGivM
import Derived.Test.YthdlibgiejpjeaaGreatDoorPureAid
/- link.until and link.Dest as plain functions. -/
set_option linter.unusedVariables false
set_option linter.unusedSimpArgs false
namespace Go.Proofs.YthdlibgiejpjeaaGreatDoor.Spec
open Go

/-- Where one of the bytes 'fin' stands first that is behind no backslash; 'stop' end the search in vain. -/
def untilS (fin stop : List UInt8) : List UInt8 → Option Nat
  | [] => none
  | [c] => if fin.contains c then some 0 else none
  | c :: d :: r =>
    if fin.contains c then some 0
    else if stop.contains c then none
    else if c = 92 ∧ markC d = true then (untilS fin stop r).map (· + 2)
    else (untilS fin stop (d :: r)).map (· + 1)
theorem untilS_le (fin stop : List UInt8) : ∀ (l : List UInt8) (n : Nat), untilS fin stop l = some n → n < l.length
  | [], n, h => by simp [untilS] at h
  | [c], n, h => by
    rw [untilS] at h
    split at h
    · injection h with h; simp; omega
    · cases h
  | c :: d :: r, n, h => by
    rw [untilS] at h
    split at h
    · injection h with h; simp; omega
    · split at h
      · cases h
      · split at h
        · obtain ⟨m, hm, rfl⟩ := Option.map_eq_some_iff.1 h
          have := untilS_le fin stop r m hm
          simp only [List.length_cons]; omega
        · obtain ⟨m, hm, rfl⟩ := Option.map_eq_some_iff.1 h
          have := untilS_le fin stop (d :: r) m hm
          simp only [List.length_cons] at this ⊢; omega
/-- A place without angles: how many brackets are open and how far it goes; none: too many. -/
def bare : List UInt8 → Nat → Nat → Option (Nat × Nat)
  | [], o, n => some (o, n)
  | [c], o, n =>
    if c ≤ 32 ∨ c = 127 then some (o, n)
    else if c = 40 then (if 32 < o + 1 then none else some (o + 1, n + 1))
    else if c = 41 then (if o = 0 then some (o, n) else some (o - 1, n + 1))
    else some (o, n + 1)
  | c :: d :: r, o, n =>
    if c ≤ 32 ∨ c = 127 then some (o, n)
    else if c = 92 ∧ markC d = true then bare r o (n + 2)
    else if c = 40 then (if 32 < o + 1 then none else bare (d :: r) (o + 1) (n + 1))
    else if c = 41 then (if o = 0 then some (o, n) else bare (d :: r) (o - 1) (n + 1))
    else bare (d :: r) o (n + 1)
def dest : List UInt8 → List UInt8 × Nat
  | 60 :: r => match untilS [62] [60, 10] r with
    | none => ([], 0)
    | some n => (unescape (r.take n), n + 2)
  | l => match bare l 0 0 with
    | none => ([], 0)
    | some (o, n) => if n = 0 ∨ 0 < o then ([], 0) else (unescape (l.take n), n)
end Go.Proofs.YthdlibgiejpjeaaGreatDoor.Spec

/- The contract of link.until. -/
set_option linter.unusedVariables false
set_option linter.unusedSimpArgs false
namespace Go.Proofs.YthdlibgiejpjeaaGreatDoor.Given
open Go Go.RowKit Go.Proofs.YthdlibgiejpjeaaGreatDoor Go.Proofs.YthdlibgiejpjeaaGreatDoorW.PrintWords Go.Proofs.YthdlibgiejpjeaaGreatDoor.Spec

theorem untilS_step (fin stop : List UInt8) (c : UInt8) (r : List UInt8) (h1 : fin.contains c = false) (h2 : stop.contains c = false) (h3 : ∀ d s, r = d :: s → ¬ (c = 92 ∧ markC d = true)) :
    untilS fin stop (c :: r) = (untilS fin stop r).map (· + 1) := by
  cases r with
  | nil => simp only [untilS, h1]; rfl
  | cons d s => rw [untilS, if_neg (by rw [h1]; simp), if_neg (by rw [h2]; simp), if_neg (h3 d s rfl)]
theorem untilS_skip (fin stop : List UInt8) (d : UInt8) (r : List UInt8) (h1 : fin.contains 92 = false) (h2 : stop.contains 92 = false) (h3 : markC d = true) :
    untilS fin stop (92 :: d :: r) = (untilS fin stop r).map (· + 2) := by
  rw [untilS, if_neg (by rw [h1]; simp), if_neg (by rw [h2]; simp), if_pos ⟨rfl, h3⟩]
theorem untilS_hit (fin stop : List UInt8) (c : UInt8) (r : List UInt8) (h1 : fin.contains c = true) : untilS fin stop (c :: r) = some 0 := by
  cases r with
  | nil => rw [untilS, if_pos h1]
  | cons d s => rw [untilS, if_pos h1]
theorem untilS_stop (fin stop : List UInt8) (c : UInt8) (r : List UInt8) (h1 : fin.contains c = false) (h2 : stop.contains c = true) : untilS fin stop (c :: r) = none := by
  cases r with
  | nil => rw [untilS, if_neg (by rw [h1]; simp)]
  | cons d s => rw [untilS, if_neg (by rw [h1]; simp), if_pos h2]
theorem ixA (l : List UInt8) (c : UInt8) (w : World) : Calls Tryz.prog 52 #[.string (mkB l), .int .u8 (c.toNat : Int)] w fun e w' => (∃ z : Int, e = .returned (.int .i64 z) ∧ (l.contains c = true → 0 ≤ z) ∧ (l.contains c = false → z < 0)) ∧ w' = w := by
  refine (Tryz.strings_IndexByte (mkB l) (c.toNat : Int) w).mono ?_
  rintro e w' ⟨rfl, rfl⟩
  have hcc : ((c.toNat : Nat) : Int).toNat.toUInt8 = c := by simp
  rw [hcc, mkB_data]
  have hn := Lib.contains_iff_indexByte l c
  refine ⟨⟨_, rfl, fun h => ?_, fun h => ?_⟩, rfl⟩
  · rw [hn] at h; simpa using h
  · rw [hn] at h; simpa using h
theorem at_i (l : List UInt8) (j : Nat) (c : UInt8) (r : List UInt8) (h : l.drop j = c :: r) (W : World) : (Instr.index 9 (.string (mkB l)) (.int .i64 (j : Int))).run Tryz.prog W = .ok (.int .u8 (c.toNat : Int)) W := by
  have hj : j < l.length := by
    rcases Nat.lt_or_ge j l.length with h' | h'
    · exact h'
    · rw [List.drop_eq_nil_of_le h'] at h; cases h
  rw [run_index_string _ _ _ _ _ Tryz.underlying9, dif_pos ⟨by omega, by rw [mkB_size]; omega⟩]
  have hc : l[j] = c := by
    have := List.drop_eq_getElem_cons hj
    rw [h] at this; injection this with a b; exact a.symm
  congr 2
  rw [← hc]; rfl

set_option maxHeartbeats 4000000 in
set_option maxRecDepth 1000000 in
theorem until_calls (l fin stop : List UInt8) (w : World) (hG : GW w) (hl : l.length ≤ 1000000000) :
    Calls Tryz.prog 82 #[.string (mkB l), .string (mkB fin), .string (mkB stop)] w fun e w' => e = .returned (.tuple #[.int .i64 (((untilS fin stop l).getD 0 : Nat) : Int), .bool (untilS fin stop l).isSome]) ∧ Below w.heap.size w w' := by
  obtain ⟨A, hA⟩ : ∃ A, untilS fin stop l = A := ⟨_, rfl⟩
  rw [hA]
  go_enter Tryz.func82, Tryz.ntmps82
  have hs := mkB_size l
  go_wp2
  go_loopw [8] (fun i wr => ∃ j : Nat, j ≤ l.length ∧ i = .int .i64 j ∧ Below w.heap.size w wr ∧ A = (untilS fin stop (l.drop j)).map (· + j)) (fun i _ => l.length + 1 - (intOf i).toNat)
  case atStart => exact ⟨0, Nat.zero_le _, rfl, Below.refl _ _, by rw [List.drop_zero, hA]; simp⟩
  case round =>
    obtain ⟨j, hj, rfl, hbw, hst⟩ := hrel
    have hst' := Lib.hid hst; clear hst
    have hbw' := Lib.hid hbw; clear hbw
    by_cases hlt : j < l.length
    · obtain ⟨c, r, hr⟩ : ∃ c r, l.drop j = c :: r := ⟨_, _, List.drop_eq_getElem_cons hlt⟩
      have hi := at_i l j c r hr
      go_wp2_with fail
      refine (ixA fin c wr).mono ?_
      rintro e w1 ⟨⟨z, rfl, hz1, hz2⟩, rfl⟩
      cases h1 : fin.contains c
      · have hz := hz2 h1
        clear hz1 hz2
        go_wp2_with fail
        refine (ixA stop c _).mono ?_
        rintro e w2 ⟨⟨z2, rfl, hy1, hy2⟩, rfl⟩
        cases h2 : stop.contains c
        · have hy := hy2 h2
          clear hy1 hy2
          by_cases h92 : c = 92
          · subst h92
            cases r with
            | nil =>
              have hje : ¬ ((j : Int) + 1 < (l.length : Int)) := by
                have := congrArg List.length hr
                rw [List.length_drop] at this; simp at this; omega
              go_wp2_with fail
              refine ⟨⟨j + 1, by omega, by go_num, hbw'.out, ?_⟩, by simp [intOf]; omega⟩
              rw [hst'.out, hr, untilS_step _ _ _ _ h1 h2 (fun d s h => by cases h)]
              have : l.drop (j + 1) = [] := by rw [← List.drop_drop, hr]; rfl
              rw [this]; rfl
            | cons d r =>
              have hd1 : l.drop (j + 1) = d :: r := by rw [← List.drop_drop, hr]; rfl
              have hd2 : l.drop (j + 2) = r := by rw [← List.drop_drop, hr]; rfl
              have hje : (j : Int) + 1 < (l.length : Int) := by
                have := congrArg List.length hr
                rw [List.length_drop] at this; simp at this; omega
              have hi1 : ∀ W, (Instr.index 9 (.string (mkB l)) (.int .i64 ((j : Int) + 1))).run Tryz.prog W = .ok (.int .u8 (d.toNat : Int)) W := at_i l (j + 1) d r hd1
              have hGr := hG.below hbw'.out
              have hmk := runes_Mark.calls (d.toNat : Int) (markC d) w2 hGr (by unfold runes_Mark.f; rw [show ((d.toNat : Nat) : Int).toNat.toUInt8 = d by simp])
              have hmk' := Lib.hid hmk; clear hmk
              cases hm : markC d
              · rw [hm] at hmk'
                go_wp2_with fail
                refine hmk'.out.mono ?_
                rintro e w3 ⟨rfl, hb3⟩
                have hb4 := hbw'.out.trans (hb3.below.mono hbw'.out.size)
                go_wp2_with fail
                refine ⟨⟨j + 1, by omega, by go_num, hb4, ?_⟩, by simp [intOf]; omega⟩
                rw [hst'.out, hr, untilS_step _ _ _ _ h1 h2 (fun d' s h hc => by injection h with ha hb; rw [← ha, hm] at hc; exact absurd hc.2 (by decide)), hd1]
                simp only [Option.map_map]
                congr 1
                funext x; simp only [Function.comp]; omega
              · rw [hm] at hmk'
                go_wp2_with fail
                refine hmk'.out.mono ?_
                rintro e w3 ⟨rfl, hb3⟩
                have hb4 := hbw'.out.trans (hb3.below.mono hbw'.out.size)
                go_wp2_with fail
                refine ⟨⟨j + 2, by omega, by go_num, hb4, ?_⟩, by simp [intOf]; omega⟩
                rw [hst'.out, hr, untilS_skip _ _ _ _ h1 h2 hm, hd2]
                simp only [Option.map_map]
                congr 1
                funext x; simp only [Function.comp]; omega
          · have h92i : ¬ ((c.toNat : Int) = 92) := fun e => h92 (UInt8.toNat_inj.1 (by show c.toNat = 92; omega))
            go_wp2_with fail
            refine ⟨⟨j + 1, by omega, by go_num, hbw'.out, ?_⟩, by simp [intOf]; omega⟩
            have : l.drop (j + 1) = r := by rw [← List.drop_drop, hr]; rfl
            rw [hst'.out, hr, untilS_step _ _ _ _ h1 h2 (fun d s h hc => h92 hc.1), this]
            simp only [Option.map_map]
            congr 1
            funext x; simp only [Function.comp]; omega
        · have hy := hy1 h2
          clear hy1 hy2
          go_wp2_with fail
          go_ret2
          have hA0 : A = none := by rw [hst'.out, hr, untilS_stop _ _ _ _ h1 h2]; rfl
          rw [hA0]
          exact ⟨rfl, hbw'.out⟩
      · have hz := hz1 h1
        clear hz1 hz2
        go_wp2_with fail
        go_ret2
        have hA0 : A = some j := by rw [hst'.out, hr, untilS_hit _ _ _ _ h1]; simp
        rw [hA0]
        exact ⟨rfl, hbw'.out⟩
    · have hje : j = l.length := by omega
      have hA0 : A = none := by rw [hst'.out, hje, List.drop_length]; rfl
      go_wp2_with fail
      go_ret2
      rw [hA0]
      exact ⟨rfl, hbw'.out⟩
end Go.Proofs.YthdlibgiejpjeaaGreatDoor.Given

