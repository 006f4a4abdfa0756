/- The reference's runes as plain functions. -/
import Derived.Test.YthdlibgiejpjeaaGreatDoorLN
import Derived.Test.YthdlibgiejpjeaaGreatDoorFoldTwo
set_option linter.unusedVariables false
set_option linter.unusedSimpArgs false
namespace Go.Proofs.YthdlibgiejpjeaaGreatDoor.RefPure
open Go Go.RowKit Go.Proofs.YthdlibgiejpjeaaGreatDoor Go.Proofs.YthdlibgiejpjeaaGreatDoor.Given Go.Proofs.YthdlibgiejpjeaaGreatDoor.LN Go.Proofs.YthdlibgiejpjeaaGreatDoorW.PrintWords Go.Proofs.YthdlibgiejpjeaaGreatDoor.Spec Go.Proofs.YthdlibgiejpjeaaGreatDoor.PureAid Go.Proofs.YthdlibgiejpjeaaGreatDoor.MorePure
theorem space_f (r : Nat) : scriptoriumref01_Space.f (r : Int) = some (Fold.space r) := by
  unfold scriptoriumref01_Space.f Fold.space
  repeat' split
  all_goals first
    | (congr 1; symm; simp only [Bool.or_eq_true, Bool.and_eq_true, beq_iff_eq, decide_eq_true_eq]; omega)
    | (congr 1; rw [Bool.eq_iff_iff]; simp only [Bool.or_eq_true, Bool.and_eq_true, beq_iff_eq, decide_eq_true_eq]; omega)
    | (congr 1; symm; simp only [Bool.or_eq_false_iff, Bool.and_eq_false_iff, beq_eq_false_iff_ne, decide_eq_false_iff_not, ne_eq]; omega)
theorem num256 (x y : Int) (h : x = y) (h0 : 0 ≤ y) (h1 : y < 256) : (x % 256 : Int) = y := by omega
theorem put_f (q : Nat) (hv : q < 55296 ∨ (57343 < q ∧ q ≤ 1114111)) : scriptoriumref01_Put.f (q : Int) = some (mkB (Lib.encodeRune (q : Int))) := by
  unfold scriptoriumref01_Put.f Lib.encodeRune
  have w64 : wrap64 (Int.tdiv (q : Int) 64) = (q : Int) / 64 := by rw [Int.tdiv_eq_ediv_of_nonneg (by omega)]; exact wrap_in _ (by omega)
  have w4096 : wrap64 (Int.tdiv (q : Int) 4096) = (q : Int) / 4096 := by rw [Int.tdiv_eq_ediv_of_nonneg (by omega)]; exact wrap_in _ (by omega)
  have w262 : wrap64 (Int.tdiv (q : Int) 262144) = (q : Int) / 262144 := by rw [Int.tdiv_eq_ediv_of_nonneg (by omega)]; exact wrap_in _ (by omega)
  have t0 : Int.tmod (q : Int) 64 = (q : Int) % 64 := Int.tmod_eq_emod_of_nonneg (by omega)
  have t1 : Int.tmod ((q : Int) / 64) 64 = (q : Int) / 64 % 64 := Int.tmod_eq_emod_of_nonneg (by omega)
  have t2 : Int.tmod ((q : Int) / 4096) 64 = (q : Int) / 4096 % 64 := Int.tmod_eq_emod_of_nonneg (by omega)
  rw [w64, w4096, w262, t0, t1, t2]
  have str : ∀ l : List Int, strOfNums l = mkB (l.map fun x => x.toNat.toUInt8) := fun l => rfl
  by_cases h1 : (q : Int) < 128
  · rw [if_pos h1, str, Lib.encodeRuneZ_one (by omega) (by omega), num256 _ _ rfl (by omega) (by omega)]
  rw [if_neg h1]
  by_cases h2 : (q : Int) < 2048
  · rw [if_pos h2, str, Lib.encodeRuneZ_two (by omega) (by omega), num256 _ (192 + (q : Int) / 64) (wrap_in _ (by omega)) (by omega) (by omega), num256 _ (128 + (q : Int) % 64) (wrap_in _ (by omega)) (by omega) (by omega)]
  rw [if_neg h2]
  by_cases h3 : (q : Int) < 65536
  · rw [if_pos h3, str, Lib.encodeRuneZ_three (by omega), num256 _ (224 + (q : Int) / 4096) (wrap_in _ (by omega)) (by omega) (by omega), num256 _ (128 + (q : Int) / 64 % 64) (wrap_in _ (by omega)) (by omega) (by omega), num256 _ (128 + (q : Int) % 64) (wrap_in _ (by omega)) (by omega) (by omega)]
  rw [if_neg h3, str, Lib.encodeRuneZ_four (by omega) (by omega), num256 _ (240 + (q : Int) / 262144) (wrap_in _ (by omega)) (by omega) (by omega), num256 _ (128 + (q : Int) / 4096 % 64) (wrap_in _ (by omega)) (by omega) (by omega), num256 _ (128 + (q : Int) / 64 % 64) (wrap_in _ (by omega)) (by omega) (by omega), num256 _ (128 + (q : Int) % 64) (wrap_in _ (by omega)) (by omega) (by omega)]
theorem in_f (a lo hi : Int) : scriptoriumref01_in.f a lo hi = some (decide (lo ≤ a ∧ a ≤ hi)) := by
  unfold scriptoriumref01_in.f
  by_cases h : a ≥ lo
  · rw [if_pos h]; congr 1; simp [show lo ≤ a from h]
  · rw [if_neg h]; congr 1; symm; rw [decide_eq_false_iff_not]; rintro ⟨h1, _⟩; exact h h1
def up32 (r : Int) : Prop := (65 ≤ r ∧ r ≤ 90) ∨ (192 ≤ r ∧ r ≤ 222 ∧ r ≠ 215) ∨ (913 ≤ r ∧ r ≤ 937) ∨ (1040 ≤ r ∧ r ≤ 1071)
theorem j0_f (k : Nat) (r : Int) : (up32 r → scriptoriumref01_small.j0 (k + 1) r false = scriptoriumref01_small.j1 k r true) ∧ (¬ up32 r → scriptoriumref01_small.j0 (k + 1) r false = scriptoriumref01_small.j1 k r false) := by
  rw [scriptoriumref01_small.j0]
  simp only [in_f, Option.bind_some, decide_eq_true_eq]
  unfold up32
  constructor
  · intro h
    repeat' split
    all_goals first | rfl | contradiction | (exfalso; omega) | (rw [decide_eq_true (by omega)])
  · intro h
    repeat' split
    all_goals first | rfl | contradiction | (exfalso; omega) | (rw [decide_eq_false (by omega)])
theorem small_f (k r : Nat) (hv : r < 55296 ∨ (57343 < r ∧ r ≤ 1114111)) : scriptoriumref01_small.f (k + 2) (r : Int) = some (mkB (Fold.sm r)) := by
  have hss : r = 223 ∨ r = 7838 → scriptoriumref01_small.j0 (k + 2) (r : Int) true = some (mkB (Fold.sm r)) := fun h => by
    rw [scriptoriumref01_small.j0, if_pos rfl]
    rcases h with rfl | rfl <;> rfl
  unfold scriptoriumref01_small.f
  by_cases h1 : (r : Int) = 223
  · rw [if_pos h1]; exact hss (.inl (by omega))
  rw [if_neg h1]
  by_cases h2 : (r : Int) = 7838
  · rw [show ((r : Int) == 7838) = true from beq_iff_eq.2 h2]; exact hss (.inr (by omega))
  rw [show ((r : Int) == 7838) = false from beq_eq_false_iff_ne.2 h2]
  obtain ⟨ja, jb⟩ := j0_f (k + 1) (r : Int)
  by_cases hu : up32 (r : Int)
  · rw [ja hu, scriptoriumref01_small.j1, if_pos rfl]
    have hs : Fold.small r = ((r + 32 : Nat) : Int) := by unfold Fold.small; unfold up32 at hu; rw [if_pos hu]; rfl
    unfold up32 at hu
    rw [show wrap64 ((r : Int) + 32) = ((r + 32 : Nat) : Int) by rw [wrap_in _ (by omega)]; rfl, put_f _ (by omega), Option.bind_some]
    unfold Fold.sm; rw [hs, if_neg (by omega)]
  · rw [jb hu, scriptoriumref01_small.j1, if_neg (by decide), in_f, Option.bind_some]
    have hu' := hu
    unfold up32 at hu'
    by_cases h3 : (1024 : Int) ≤ r ∧ (r : Int) ≤ 1039
    · have hs : Fold.small r = ((r + 80 : Nat) : Int) := by unfold Fold.small; rw [if_neg hu', if_pos h3]; rfl
      rw [if_pos (decide_eq_true h3), show wrap64 ((r : Int) + 80) = ((r + 80 : Nat) : Int) by rw [wrap_in _ (by omega)]; rfl, put_f _ (by omega), Option.bind_some]
      unfold Fold.sm; rw [hs, if_neg (by omega)]
    · have hs : Fold.small r = (r : Int) := by unfold Fold.small; rw [if_neg hu', if_neg h3]
      rw [if_neg (by rw [decide_eq_true_eq]; exact h3), put_f _ hv, Option.bind_some]
      unfold Fold.sm; rw [hs, if_neg (by omega)]
set_option maxRecDepth 100000 in
theorem tail_f (c : UInt8) : scriptoriumref01_tail.f (c.toNat : Int) = some (decide (c.toNat / 64 = 2)) := by
  have := UInt8.toNat_lt c
  unfold scriptoriumref01_tail.f
  split
  · congr 1; rw [decide_eq_decide]; omega
  · congr 1; symm; rw [decide_eq_false_iff_not]; omega
theorem l0_next (k : Nat) (l : List UInt8) (n i : Nat) (v least : Int) (hn : n ≤ 4) (hi : i < n) (hl : n ≤ l.length) (h0 : 0 ≤ v) (hv : v < 1000000) :
    scriptoriumref01_First.l0 (k + 1) (mkB l) (n : Int) v least (i : Int) = if (l.getD i 0).toNat / 64 = 2 then scriptoriumref01_First.l0 k (mkB l) (n : Int) (64 * v + ((l.getD i 0).toNat : Int) - 128) least ((i + 1 : Nat) : Int) else some (65533, 1) := by
  obtain ⟨c, r, hr⟩ : ∃ c r, l.drop i = c :: r := ⟨_, _, List.drop_eq_getElem_cons (show i < l.length by omega)⟩
  have hb := bt_drop l i c r hr
  have hg : l.getD i 0 = c := by
    have := congrArg (fun x => x.getD 0 0) hr
    simpa [List.getD_eq_getElem?_getD, List.getElem?_drop] using this
  have hc := UInt8.toNat_lt c
  rw [scriptoriumref01_First.l0, if_pos (by omega), if_pos (by omega), if_pos (by rw [mkB_size]; omega), hb, tail_f, Option.bind_some, hg]
  by_cases h : c.toNat / 64 = 2
  · rw [if_pos (decide_eq_true h), if_pos h, wrap_in (64 * v) (by omega), wrap_in (c.toNat : Int) (by omega), wrap_in (64 * v + (c.toNat : Int)) (by omega), wrap_in _ (by omega), wrap_in _ (by omega)]; rfl
  · rw [if_neg (by rw [decide_eq_true_eq]; exact h), if_neg h]
theorem l0_end (k : Nat) (l : List UInt8) (n : Nat) (v least : Int) :
    scriptoriumref01_First.l0 (k + 1) (mkB l) (n : Int) v least (n : Int) = if v < least ∨ (55296 ≤ v ∧ v ≤ 57343) ∨ 1114111 < v then some (65533, 1) else some (v, (n : Int)) := by
  rw [scriptoriumref01_First.l0, if_neg (by omega)]
  repeat' split
  all_goals first | rfl | (exfalso; omega)
theorem j2_f (k : Nat) (l : List UInt8) (n : Nat) (v least : Int) : scriptoriumref01_First.j2 (k + 1) (mkB l) (n : Int) v least = if (l.length : Int) < n then some (65533, 1) else scriptoriumref01_First.l0 k (mkB l) (n : Int) v least ((1 : Nat) : Int) := by
  rw [scriptoriumref01_First.j2, mkB_size]; rfl
set_option maxRecDepth 100000 in
set_option maxHeartbeats 4000000 in
theorem first_f (l : List UInt8) (hl : l ≠ []) (k : Nat) : scriptoriumref01_First.f (k + 8) (mkB l) = some (((Lib.decodeL l).1 : Int), ((Lib.decodeL l).2 : Int)) := by
  have hlen : 0 < l.length := List.length_pos_iff.2 hl
  obtain ⟨c, r, hr⟩ : ∃ c r, l.drop 0 = c :: r := ⟨_, _, List.drop_eq_getElem_cons hlen⟩
  have hb : bt (mkB l) 0 = (c.toNat : Int) := bt_drop l 0 c r hr
  have hg : l.getD 0 0 = c := by rw [List.drop_zero] at hr; rw [hr]; rfl
  rw [Fold.decodeL_N, hg]
  have hc := UInt8.toNat_lt c
  have h1 := UInt8.toNat_lt (l.getD 1 0)
  have h2 := UInt8.toNat_lt (l.getD 2 0)
  have h3 := UInt8.toNat_lt (l.getD 3 0)
  unfold scriptoriumref01_First.f
  rw [hb, mkB_size, if_pos (by omega), wrap_in _ (by omega)]
  by_cases c1 : c.toNat < 128
  · rw [if_pos (by omega)]
    unfold Lib.decodeN; rw [if_pos c1]; rfl
  rw [if_neg (by omega)]
  by_cases c2 : c.toNat < 194
  · rw [if_neg (by omega), scriptoriumref01_First.j0, if_neg (by decide), if_neg (by omega), scriptoriumref01_First.j1, if_neg (by decide), if_neg (by omega)]
    have : Lib.decodeN l.length c.toNat (l.getD 1 0).toNat (l.getD 2 0).toNat (l.getD 3 0).toNat = (65533, 1) := by
      unfold Lib.decodeN
      repeat' split
      all_goals first | rfl | (exfalso; omega)
    rw [this]; rfl
  rw [if_pos (by omega)]
  by_cases c3 : c.toNat < 224
  · rw [show decide ((c.toNat : Int) < 224) = true from decide_eq_true (by omega), scriptoriumref01_First.j0, if_pos rfl]
    rw [show (2 : Int) = ((2 : Nat) : Int) from rfl, j2_f, wrap_in _ (by omega)]
    have : Lib.decodeN l.length c.toNat (l.getD 1 0).toNat (l.getD 2 0).toNat (l.getD 3 0).toNat = if 1 < l.length ∧ (l.getD 1 0).toNat / 64 = 2 then (c.toNat % 32 * 64 + (l.getD 1 0).toNat % 64, 2) else (65533, 1) := by
      unfold Lib.decodeN
      repeat' split
      all_goals first | rfl | (exfalso; omega)
    rw [this]
    by_cases d1 : 1 < l.length
    · rw [if_neg (by omega), l0_next _ l 2 1 _ _ (by omega) (by omega) (by omega) (by omega) (by omega)]
      by_cases d2 : (l.getD 1 0).toNat / 64 = 2
      · rw [if_pos d2, if_pos ⟨d1, d2⟩, l0_end, if_neg (by omega)]
        congr 2; omega
      · rw [if_neg d2, if_neg (fun h => d2 h.2)]; rfl
    · rw [if_pos (by omega), if_neg (fun h => d1 h.1)]; rfl
  rw [show decide ((c.toNat : Int) < 224) = false from decide_eq_false (by omega), scriptoriumref01_First.j0, if_neg (by decide), if_pos (by omega)]
  by_cases c4 : c.toNat < 240
  · rw [show decide ((c.toNat : Int) < 240) = true from decide_eq_true (by omega), scriptoriumref01_First.j1, if_pos rfl]
    rw [show (3 : Int) = ((3 : Nat) : Int) from rfl, j2_f, wrap_in _ (by omega)]
    have : Lib.decodeN l.length c.toNat (l.getD 1 0).toNat (l.getD 2 0).toNat (l.getD 3 0).toNat = if (1 < l.length ∧ (l.getD 1 0).toNat / 64 = 2) ∧ (2 < l.length ∧ (l.getD 2 0).toNat / 64 = 2) then
        (if c.toNat % 16 * 4096 + (l.getD 1 0).toNat % 64 * 64 + (l.getD 2 0).toNat % 64 ≥ 2048 ∧ (c.toNat % 16 * 4096 + (l.getD 1 0).toNat % 64 * 64 + (l.getD 2 0).toNat % 64 < 55296 ∨ (57344 ≤ c.toNat % 16 * 4096 + (l.getD 1 0).toNat % 64 * 64 + (l.getD 2 0).toNat % 64 ∧ c.toNat % 16 * 4096 + (l.getD 1 0).toNat % 64 * 64 + (l.getD 2 0).toNat % 64 ≤ 1114111))
          then (c.toNat % 16 * 4096 + (l.getD 1 0).toNat % 64 * 64 + (l.getD 2 0).toNat % 64, 3) else (65533, 1)) else (65533, 1) := by
      unfold Lib.decodeN
      rw [if_neg (by omega), if_neg (by omega)]
      by_cases d : (1 < l.length ∧ (l.getD 1 0).toNat / 64 = 2) ∧ (2 < l.length ∧ (l.getD 2 0).toNat / 64 = 2)
      · rw [if_pos ⟨by omega, d.1, d.2⟩, if_pos d]
      · rw [if_neg (fun h => d ⟨h.2.1, h.2.2⟩), if_neg (by omega), if_neg d]
    rw [this]
    by_cases d1 : 2 < l.length
    · rw [if_neg (by omega), l0_next _ l 3 1 _ _ (by omega) (by omega) (by omega) (by omega) (by omega)]
      by_cases d2 : (l.getD 1 0).toNat / 64 = 2
      · rw [if_pos d2, l0_next _ l 3 2 _ _ (by omega) (by omega) (by omega) (by omega) (by omega)]
        by_cases d3 : (l.getD 2 0).toNat / 64 = 2
        · rw [if_pos d3, if_pos ⟨⟨by omega, d2⟩, d1, d3⟩, l0_end]
          split
          · rw [if_neg (by omega)]; rfl
          · rw [if_pos (by omega)]; congr 2; omega
        · rw [if_neg d3, if_neg (fun h => d3 h.2.2)]; rfl
      · rw [if_neg d2, if_neg (fun h => d2 h.1.2)]; rfl
    · rw [if_pos (by omega), if_neg (fun h => d1 h.2.1)]; rfl
  rw [show decide ((c.toNat : Int) < 240) = false from decide_eq_false (by omega), scriptoriumref01_First.j1, if_neg (by decide), if_pos (by omega)]
  by_cases c5 : c.toNat < 245
  · rw [if_pos (by omega)]
    rw [show (4 : Int) = ((4 : Nat) : Int) from rfl, j2_f, wrap_in _ (by omega)]
    have : Lib.decodeN l.length c.toNat (l.getD 1 0).toNat (l.getD 2 0).toNat (l.getD 3 0).toNat = if (1 < l.length ∧ (l.getD 1 0).toNat / 64 = 2) ∧ (2 < l.length ∧ (l.getD 2 0).toNat / 64 = 2) ∧ (3 < l.length ∧ (l.getD 3 0).toNat / 64 = 2) then
        (if (c.toNat % 8 * 262144 + (l.getD 1 0).toNat % 64 * 4096 + (l.getD 2 0).toNat % 64 * 64 + (l.getD 3 0).toNat % 64) ≥ 65536 ∧ ((c.toNat % 8 * 262144 + (l.getD 1 0).toNat % 64 * 4096 + (l.getD 2 0).toNat % 64 * 64 + (l.getD 3 0).toNat % 64) < 55296 ∨ (57344 ≤ (c.toNat % 8 * 262144 + (l.getD 1 0).toNat % 64 * 4096 + (l.getD 2 0).toNat % 64 * 64 + (l.getD 3 0).toNat % 64) ∧ (c.toNat % 8 * 262144 + (l.getD 1 0).toNat % 64 * 4096 + (l.getD 2 0).toNat % 64 * 64 + (l.getD 3 0).toNat % 64) ≤ 1114111)) then ((c.toNat % 8 * 262144 + (l.getD 1 0).toNat % 64 * 4096 + (l.getD 2 0).toNat % 64 * 64 + (l.getD 3 0).toNat % 64), 4) else (65533, 1)) else (65533, 1) := by
      unfold Lib.decodeN
      rw [if_neg (by omega), if_neg (by omega), if_neg (by omega)]
      by_cases d : (1 < l.length ∧ (l.getD 1 0).toNat / 64 = 2) ∧ (2 < l.length ∧ (l.getD 2 0).toNat / 64 = 2) ∧ (3 < l.length ∧ (l.getD 3 0).toNat / 64 = 2)
      · rw [if_pos ⟨by omega, d⟩, if_pos d]
      · rw [if_neg (fun h => d h.2), if_neg d]
    rw [this]
    by_cases d1 : 3 < l.length
    · rw [if_neg (by omega), l0_next _ l 4 1 _ _ (by omega) (by omega) (by omega) (by omega) (by omega)]
      by_cases d2 : (l.getD 1 0).toNat / 64 = 2
      · rw [if_pos d2, l0_next _ l 4 2 _ _ (by omega) (by omega) (by omega) (by omega) (by omega)]
        by_cases d3 : (l.getD 2 0).toNat / 64 = 2
        · rw [if_pos d3, l0_next _ l 4 3 _ _ (by omega) (by omega) (by omega) (by omega) (by omega)]
          by_cases d4 : (l.getD 3 0).toNat / 64 = 2
          · rw [if_pos d4, if_pos ⟨⟨by omega, d2⟩, ⟨by omega, d3⟩, d1, d4⟩, l0_end]
            split
            · rw [if_neg (by omega)]; rfl
            · rw [if_pos (by omega)]; congr 2; omega
          · rw [if_neg d4, if_neg (fun h => d4 h.2.2.2)]; rfl
        · rw [if_neg d3, if_neg (fun h => d3 h.2.1.2)]; rfl
      · rw [if_neg d2, if_neg (fun h => d2 h.1.2)]; rfl
    · rw [if_pos (by omega), if_neg (fun h => d1 h.2.2.1)]; rfl
  · rw [if_neg (by omega)]
    have : Lib.decodeN l.length c.toNat (l.getD 1 0).toNat (l.getD 2 0).toNat (l.getD 3 0).toNat = (65533, 1) := by
      unfold Lib.decodeN
      repeat' split
      all_goals first | rfl | (exfalso; omega)
    rw [this]; rfl
theorem sm_len (r : Nat) : (Fold.sm r).length ≤ 4 := by
  unfold Fold.sm
  split
  · simp
  · unfold Lib.encodeRune Lib.encodeRuneZ
    repeat' split
    all_goals simp
theorem fold_l0 (l : List UInt8) (hl : l.length ≤ 1000000000) : ∀ (d i : Nat) (gap : Bool) (o : List UInt8) (K : Nat), i + d = l.length → o.length ≤ 5 * i → d + 9 ≤ K →
    scriptoriumref01_Fold.l0 K (mkB l) (bnums o) gap (i : Int) = some (mkB (Fold.rg gap o (l.drop i))) := by
  intro d
  induction d using Nat.strongRecOn with
  | _ d ih =>
    intro i gap o K hi ho hK
    obtain ⟨k, rfl⟩ : ∃ k, K = (k + 8) + 1 := ⟨K - 9, by omega⟩
    rw [scriptoriumref01_Fold.l0, mkB_size]
    by_cases hlt : i < l.length
    · have hne : l.drop i ≠ [] := fun e => by
        have := congrArg List.length e
        rw [List.length_drop] at this; simp at this; omega
      have hpc : (mkB l).extract (i : Int).toNat l.length = mkB (l.drop i) := by
        have := mkB_piece l i l.length
        rw [Int.toNat_natCast, this]
        rw [List.take_of_length_le (by rw [List.length_drop]; omega)]
      have hw := Lib.decodeL_width (l.drop i)
      have hle := Lib.decodeL_le (l.drop i) hne
      rw [List.length_drop] at hle
      have hstep := Fold.rg_step gap o (l.drop i) hne
      have hv := Fold.decodeL_valid (l.drop i)
      have hdd : (l.drop i).drop (Lib.decodeL (l.drop i)).2 = l.drop (i + (Lib.decodeL (l.drop i)).2) := by rw [List.drop_drop]
      rw [hdd] at hstep
      have hsl := sm_len (Lib.decodeL (l.drop i)).1
      rw [if_pos (by omega), if_pos (by omega), if_pos (by omega), hpc, first_f _ hne k, Option.bind_some, hstep]
      dsimp only
      have hsm : scriptoriumref01_small.f (k + 8) ((Lib.decodeL (l.drop i)).1 : Int) = some (mkB (Fold.sm (Lib.decodeL (l.drop i)).1)) := small_f (k + 6) _ hv
      generalize (Lib.decodeL (l.drop i)).1 = r at *
      generalize (Lib.decodeL (l.drop i)).2 = m at *
      rw [space_f, Option.bind_some]
      have hwr : wrap64 ((i : Int) + (m : Int)) = ((i + m : Nat) : Int) := by rw [wrap_in _ (by omega)]; rfl
      rw [hwr]
      have hnl := nums_len o
      by_cases hsp : Fold.space r = true
      · rw [if_pos hsp, if_pos hsp]
        exact ih (d - m) (by omega) (i + m) true o (k + 8) (by omega) (by omega) (by omega)
      rw [if_neg hsp, if_neg hsp]
      have next : ∀ o', o'.length ≤ o.length + 1 → (if (bnums o').length + (mkB (Fold.sm r)).size < 140737488355328 then scriptoriumref01_Fold.l0 (k + 8) (mkB l) (bnums o' ++ bytesOf (mkB (Fold.sm r))) false ((i + m : Nat) : Int) else none) = some (mkB (Fold.rg false (o' ++ Fold.sm r) (l.drop (i + m)))) := fun o' hl' => by
        rw [if_pos (by rw [nums_len, mkB_size]; omega), nums_app]
        exact ih (d - m) (by omega) (i + m) false _ (k + 8) (by omega) (by rw [List.length_append]; omega) (by omega)
      have h32 : bnums o ++ [32] = bnums (o ++ [32]) := nums_snoc o 32
      by_cases hg : gap = true
      · rw [if_pos hg]
        by_cases ho' : o = []
        · rw [if_neg (by rw [hnl, ho']; simp), if_neg (fun h => h.2 ho'), hsm, Option.bind_some]
          exact next o (by omega)
        · have : 0 < o.length := List.length_pos_iff.2 ho'
          rw [if_pos (by rw [hnl]; omega), if_pos (by rw [hnl]; omega), if_pos ⟨hg, ho'⟩, Option.bind_some, hsm, Option.bind_some, h32]
          exact next (o ++ [32]) (by simp)
      · rw [if_neg hg, if_neg (fun h => hg h.1), hsm, Option.bind_some]
        exact next o (by omega)
    · rw [if_neg (by omega), nums_str, List.drop_eq_nil_of_le (by omega)]
      rfl
theorem fold_f (l : List UInt8) (hl : l.length ≤ 1000000000) (k : Nat) (hk : l.length + 9 ≤ k) : scriptoriumref01_Fold.f k (mkB l) = some (mkB (Fold.fold l)) := by
  have h := fold_l0 l hl l.length 0 false [] k (by omega) (by simp) hk
  rw [← Fold.ref_fold l]
  exact h
end Go.Proofs.YthdlibgiejpjeaaGreatDoor.RefPure
