/- LeafUnders' plain law. -/
import Derived.Test.YthdlibgiejpjeaaGreatDoorLU
import Derived.Test.YthdlibgiejpjeaaGreatDoorPureAid
import Derived.Lib.QuoteBits
set_option linter.unusedVariables false
set_option linter.unusedSimpArgs false
namespace Go.Proofs.YthdlibgiejpjeaaGreatDoor.LUPure
open Go Go.RowKit Go.Proofs.YthdlibgiejpjeaaGreatDoor Go.Proofs.YthdlibgiejpjeaaGreatDoor.Given Go.Proofs.YthdlibgiejpjeaaGreatDoor.LU Go.Proofs.YthdlibgiejpjeaaGreatDoorW.PrintWords Go.Proofs.YthdlibgiejpjeaaGreatDoor.Spec Go.Proofs.YthdlibgiejpjeaaGreatDoor.PureAid
theorem bnums_one (c : UInt8) : strOfNums [(c.toNat : Int)] = mkB [c] := nums_str [c]
/-- A piece, so many times. -/
def rep (l : List UInt8) : Nat → List UInt8
  | 0 => []
  | n + 1 => rep l n ++ l
theorem rep_len (l : List UInt8) (n : Nat) : (rep l n).length = n * l.length := by
  induction n with
  | zero => simp [rep]
  | succ n ih => rw [rep, List.length_append, ih, Nat.succ_mul]
theorem rep_one (c : UInt8) (n : Nat) : rep [c] n = List.replicate n c := by
  induction n with
  | zero => rfl
  | succ n ih => rw [rep, ih, List.replicate_succ']

theorem shown_ev : Ev (fun k => scriptoriumlaw05_shown.f k) true := Ev.of (fun k => scriptoriumlaw05_shown.mono k) (k := 4) (by decide +kernel)
theorem many_l0 (l : List UInt8) (n : Nat) (hn : n * l.length ≤ 1000000000) (hn2 : n ≤ 1000000000) : ∀ (d i : Nat), i + d = n →
    Ev (fun k => scriptoriumlaw05_many.l0 k (mkB l) (n : Int) (mkB (rep l i)) (i : Int)) (mkB (rep l n)) := by
  intro d
  induction d with
  | zero =>
    intro i hi
    obtain rfl : i = n := by omega
    refine ⟨1, fun k hk => ?_⟩
    obtain ⟨m, rfl⟩ : ∃ m, k = m + 1 := ⟨k - 1, by omega⟩
    show scriptoriumlaw05_many.l0 (m + 1) _ _ _ _ = _
    rw [scriptoriumlaw05_many.l0, if_neg (by omega)]
  | succ d ih =>
    intro i hi
    have hm : i * l.length + l.length ≤ n * l.length := by
      rw [← Nat.succ_mul]; exact Nat.mul_le_mul_right _ (by omega)
    refine Ev.step (fun k => ?_) (ih (i + 1) (by omega))
    show scriptoriumlaw05_many.l0 (k + 1) _ _ _ _ = _
    rw [scriptoriumlaw05_many.l0, if_pos (by omega), if_pos (by rw [mkB_size, mkB_size, rep_len]; omega), mkB_append, wrap_in _ (by omega)]
    rfl
theorem many_ev (l : List UInt8) (n : Nat) (hn : n * l.length ≤ 1000000000) (hn2 : n ≤ 1000000000) : Ev (fun k => scriptoriumlaw05_many.f k (mkB l) (n : Int)) (mkB (rep l n)) :=
  many_l0 l n hn hn2 n 0 (by omega)
theorem and_mask (x : Int) (m : Nat) (hm : m < 9223372036854775807) : ∃ v : Nat, v ≤ m ∧ Go.bits .and .i64 x (m : Int) = (v : Int) := by
  refine ⟨(BitVec.ofInt 64 x &&& BitVec.ofInt 64 (m : Int)).toNat, ?_, ?_⟩
  · rw [BitVec.toNat_and, ofInt_u64 m (by omega)]; exact Nat.and_le_right
  · show IntKind.i64.wrap ((BitVec.ofInt 64 x &&& BitVec.ofInt 64 ((m : Nat) : Int)).toNat : Int) = _
    have hle : (BitVec.ofInt 64 x &&& BitVec.ofInt 64 ((m : Nat) : Int)).toNat ≤ m := by
      rw [BitVec.toNat_and, ofInt_u64 m (by omega)]; exact Nat.and_le_right
    exact IntWalk.i64_in _ (by omega)

theorem run_rep (c : UInt8) (n : Nat) (r : List UInt8) (h : ∀ d s, r = d :: s → d ≠ c) : run (List.replicate n c ++ r) c = n := by
  unfold run
  rw [List.takeWhile_append_of_pos (fun a ha => by simpa using (List.mem_replicate.1 ha).2)]
  cases r with
  | nil => simp
  | cons d s => rw [List.takeWhile_cons, if_neg (by simpa using h d s rfl)]; simp
theorem run_none (c d : UInt8) (r : List UInt8) (h : d ≠ c) : run (d :: r) c = 0 := by
  unfold run; rw [List.takeWhile_cons, if_neg (by simpa using h)]; rfl
theorem gap_blanks (p q : Nat) : gap (List.replicate p 32 ++ List.replicate q 9) = true := by
  unfold gap
  rw [List.all_append]
  simp [List.all_replicate]
theorem gap_not (l r : List UInt8) (c : UInt8) (h1 : c ≠ 32) (h2 : c ≠ 9) : gap (l ++ c :: r) = false := by
  unfold gap
  rw [List.all_append, List.all_cons]
  simp [h1, h2]
theorem under_f (l : List UInt8) (h : l.length ≤ 4000000000) : leaf_Underline.f (mkB l) = some ((underline l : Nat) : Int) := by
  unfold leaf_Underline.f
  rw [if_pos (by rw [mkB_size]; omega)]; rfl

/-- The row: signs, blanks, tabs. -/
def row (c : UInt8) (n p q : Nat) : List UInt8 := List.replicate n c ++ (List.replicate p 32 ++ List.replicate q 9)
theorem blanks_head (p q : Nat) (r : List UInt8) (c d : UInt8) (s : List UInt8) (hc : c ≠ 32) (hc9 : c ≠ 9) (hr : ∀ d s, r = d :: s → d ≠ c) (h : (List.replicate p 32 ++ List.replicate q 9) ++ r = d :: s) : d ≠ c := by
  cases p with
  | succ p => rw [List.replicate_succ] at h; injection h with h1 h2; rw [← h1]; exact Ne.symm hc
  | zero =>
    cases q with
    | succ q => simp only [List.replicate_zero, List.nil_append] at h; rw [List.replicate_succ] at h; injection h with h1 h2; rw [← h1]; exact Ne.symm hc9
    | zero => exact hr d s (by simpa using h)
theorem run_row (c : UInt8) (n p q : Nat) (r : List UInt8) (hc : c ≠ 32) (hc9 : c ≠ 9) (hr : ∀ d s, r = d :: s → d ≠ c) : run (row c n p q ++ r) c = n := by
  unfold row
  rw [List.append_assoc]
  exact run_rep c n _ (fun d s h => blanks_head p q r c d s hc hc9 hr h)
theorem drop_row (c : UInt8) (n p q : Nat) (r : List UInt8) : (row c n p q ++ r).drop n = (List.replicate p 32 ++ List.replicate q 9) ++ r := by
  unfold row
  rw [List.append_assoc, List.drop_left' (by simp)]
theorem run_other (c d : UInt8) (n p q : Nat) (r : List UInt8) (hn : 1 ≤ n) (h : c ≠ d) : run (row c n p q ++ r) d = 0 := by
  obtain ⟨m, rfl⟩ : ∃ m, n = m + 1 := ⟨n - 1, by omega⟩
  unfold row
  rw [List.replicate_succ]
  exact run_none d c _ h
/-- What the law says, of equal signs and of dashes. -/
theorem yes61 (n p q : Nat) (hn : 1 ≤ n) : underline (row 61 n p q) = 1 := by
  have h1 := run_row 61 n p q [] (by decide) (by decide) (fun _ _ h => by cases h)
  have h2 := drop_row 61 n p q []
  rw [List.append_nil] at h1 h2
  unfold underline
  rw [h1, h2, List.append_nil, if_pos ⟨by omega, gap_blanks p q⟩]
theorem yes45 (n p q : Nat) (hn : 1 ≤ n) : underline (row 45 n p q) = 2 := by
  have h1 := run_row 45 n p q [] (by decide) (by decide) (fun _ _ h => by cases h)
  have h0 := run_other 45 61 n p q [] hn (by decide)
  have h2 := drop_row 45 n p q []
  rw [List.append_nil] at h0 h1 h2
  unfold underline
  rw [h0, if_neg (fun h => by omega), h1, h2, List.append_nil, if_pos ⟨by omega, gap_blanks p q⟩]
theorem no_x (l : List UInt8) : underline (120 :: l) = 0 := by
  unfold underline
  rw [run_none 61 120 l (by decide), run_none 45 120 l (by decide), if_neg (fun h => by omega), if_neg (fun h => by omega)]
/-- With something else behind the row. -/
theorem no61 (n p q : Nat) (e : UInt8) (r : List UInt8) (hn : 1 ≤ n) (h1 : e ≠ 32) (h2 : e ≠ 9) (h3 : e ≠ 61) : underline (row 61 n p q ++ e :: r) = 0 := by
  have h4 := run_row 61 n p q (e :: r) (by decide) (by decide) (fun d s h => by injection h with a b; rw [← a]; exact h3)
  have h5 := run_other 61 45 n p q (e :: r) hn (by decide)
  unfold underline
  rw [h4, h5, drop_row, gap_not _ _ _ h1 h2, if_neg (fun h => by simp at h), if_neg (fun h => by omega)]
theorem no45 (n p q : Nat) (e : UInt8) (r : List UInt8) (hn : 1 ≤ n) (h1 : e ≠ 32) (h2 : e ≠ 9) (h3 : e ≠ 45) : underline (row 45 n p q ++ e :: r) = 0 := by
  have h4 := run_row 45 n p q (e :: r) (by decide) (by decide) (fun d s h => by injection h with a b; rw [← a]; exact h3)
  have h5 := run_other 45 61 n p q (e :: r) hn (by decide)
  unfold underline
  rw [h5, if_neg (fun h => by omega), h4, drop_row, gap_not _ _ _ h1 h2, if_neg (fun h => by simp at h)]
/-- '=-' behind equal signs alone: more of them, then a dash. -/
theorem no61b (n p q : Nat) (hn : 1 ≤ n) : underline (row 61 n p q ++ [61, 45]) = 0 := by
  by_cases h0 : p = 0 ∧ q = 0
  · obtain ⟨rfl, rfl⟩ := h0
    have := no61 (n + 1) 0 0 45 [] (by omega) (by decide) (by decide) (by decide)
    rw [show row 61 n 0 0 ++ [61, 45] = row 61 (n + 1) 0 0 ++ [45] from ?_]
    · exact this
    · unfold row; simp [List.replicate_succ']
  · have h4 : run (row 61 n p q ++ [61, 45]) 61 = n := by
      unfold row
      rw [List.append_assoc]
      refine run_rep 61 n _ (fun d s h => ?_)
      cases p with
      | succ p => rw [List.replicate_succ] at h; injection h with h1 h2; rw [← h1]; decide
      | zero =>
        cases q with
        | succ q => simp only [List.replicate_zero, List.nil_append] at h; rw [List.replicate_succ] at h; injection h with h1 h2; rw [← h1]; decide
        | zero => exact absurd ⟨rfl, rfl⟩ h0
    have h5 := run_other 61 45 n p q [61, 45] hn (by decide)
    unfold underline
    rw [h4, h5, drop_row, gap_not _ _ _ (by decide) (by decide), if_neg (fun h => by simp at h), if_neg (fun h => by omega)]

theorem j0_ev (n : Nat) (x2 : Int) (c : UInt8) (v : Nat) (hn : 1 ≤ n) (hn2 : n ≤ 100) (h0 : -9223372036854775808 ≤ x2 ∧ x2 ≤ 9223372036854775807)
    (hy : ∀ p q, underline (row c n p q) = v) (h1 : ∀ p q, underline (row c n p q ++ [61, 45]) = 0) (h2 : ∀ p q, underline (row c n p q ++ [97]) = 0) :
    Ev (fun k => scriptoriumlaw05_LeafUnders.j0 k (n : Int) x2 true (mkB [c]) (v : Int)) true := by
  obtain ⟨p, hp, ep⟩ := and_mask x2 7 (by decide)
  obtain ⟨q, hq, eq_⟩ := and_mask (x2 / 8) 1 (by decide)
  have ep : Go.bits .and .i64 x2 7 = (p : Int) := ep
  have eq_ : Go.bits .and .i64 (x2 / 8) 1 = (q : Int) := eq_
  have m1 := many_ev [c] n (by simp only [List.length_singleton]; omega) (by omega)
  have m2 := many_ev [32] p (by simp only [List.length_singleton]; omega) (by omega)
  have m3 := many_ev [9] q (by simp only [List.length_singleton]; omega) (by omega)
  rw [rep_one] at m1 m2 m3
  have hs : (mkB (List.replicate n c) ++ mkB (List.replicate p 32)) ++ mkB (List.replicate q 9) = mkB (row c n p q) := by
    rw [mkB_append, mkB_append]; unfold row; rw [List.append_assoc]
  have hlen : (row c n p q).length = n + (p + q) := by unfold row; simp
  refine Ev.step (f := fun k => (scriptoriumlaw05_many.f k (mkB [c]) (n : Int)).bind fun t185 => ((scriptoriumlaw05_many.f k (mkB [32]) (p : Int)).bind fun t186 => (if t185.size + t186.size ≤ 9223372036854775807 then ((scriptoriumlaw05_many.f k (mkB [9]) (q : Int)).bind fun t187 => (if (t185 ++ t186).size + t187.size ≤ 9223372036854775807 then (if true = true then ((leaf_Underline.f ((t185 ++ t186) ++ t187)).bind fun t188 => (if t188 = (v : Int) then (if ((t185 ++ t186) ++ t187).size + 2 ≤ 9223372036854775807 then ((leaf_Underline.f (((t185 ++ t186) ++ t187) ++ mkB [61, 45])).bind fun t189 => (if t189 = 0 then (if 1 + ((t185 ++ t186) ++ t187).size ≤ 9223372036854775807 then ((leaf_Underline.f (mkB [120] ++ ((t185 ++ t186) ++ t187))).bind fun t190 => (if t190 = 0 then (if ((t185 ++ t186) ++ t187).size + 1 ≤ 9223372036854775807 then ((leaf_Underline.f (((t185 ++ t186) ++ t187) ++ mkB [97])).bind fun t191 => (some (t191 == 0))) else (none)) else (some false))) else (none)) else (some false))) else (none)) else (some false))) else (some false)) else (none))) else (none)))) (fun k => ?_) ?_
  · show scriptoriumlaw05_LeafUnders.j0 (k + 1) (n : Int) x2 true (mkB [c]) (v : Int) = _
    rw [scriptoriumlaw05_LeafUnders.j0, ep, eq_]; rfl
  refine Ev.bind m1 (Ev.bind m2 ?_)
  refine Ev.congr (fun k => by rw [if_pos (by rw [mkB_size, mkB_size, List.length_replicate, List.length_replicate]; omega)]) (Ev.bind m3 ⟨0, fun k _ => ?_⟩)
  show (if (mkB (List.replicate n c) ++ mkB (List.replicate p 32)).size + (mkB (List.replicate q 9)).size ≤ 9223372036854775807 then _ else _) = _
  rw [if_pos (by rw [mkB_append, mkB_size, mkB_size]; simp only [List.length_append, List.length_replicate]; omega), if_pos rfl, hs, under_f _ (by omega), hy, Option.bind_some, if_pos rfl,
    if_pos (by rw [mkB_size, hlen]; omega), mkB_append, under_f _ (by rw [List.length_append, hlen]; simp only [List.length_cons, List.length_nil]; omega), h1, Option.bind_some, if_pos (by rfl),
    if_pos (by rw [mkB_size, hlen]; omega), mkB_append, under_f _ (by rw [List.length_append, hlen]; simp only [List.length_cons, List.length_nil]; omega), show ([120] : List UInt8) ++ row c n p q = 120 :: row c n p q from rfl, no_x, Option.bind_some, if_pos (by rfl),
    if_pos (by rw [mkB_size, hlen]; omega), mkB_append, under_f _ (by rw [List.length_append, hlen]; simp only [List.length_cons, List.length_nil]; omega), h2, Option.bind_some]
  rfl
theorem pure (a0 : Int) (h0 : -9223372036854775808 ≤ a0 ∧ a0 ≤ 9223372036854775807) (a1 : Bool) (a2 : Int) (h2 : -9223372036854775808 ≤ a2 ∧ a2 ≤ 9223372036854775807) : ∃ k, scriptoriumlaw05_LeafUnders.f k a0 a1 a2 = some true := by
  obtain ⟨m, hm, em⟩ := and_mask a0 63 (by decide)
  have em : Go.bits .and .i64 a0 63 = (m : Int) := em
  have ew : wrap64 (1 + (m : Int)) = ((m + 1 : Nat) : Int) := by rw [wrap_in _ (by omega)]; omega
  have h : Ev (fun k => scriptoriumlaw05_LeafUnders.f k a0 a1 a2) true := by
    refine Ev.bind shown_ev ?_
    cases a1
    · refine Ev.congr (fun k => ?_) (j0_ev (m + 1) a2 61 1 (by omega) (by omega) h2 (fun p q => yes61 _ p q (by omega)) (fun p q => no61b _ p q (by omega)) (fun p q => no61 _ p q 97 [] (by omega) (by decide) (by decide) (by decide)))
      rw [if_neg (by decide), em, ew]; rfl
    · refine Ev.congr (fun k => ?_) (j0_ev (m + 1) a2 45 2 (by omega) (by omega) h2 (fun p q => yes45 _ p q (by omega)) (fun p q => no45 _ p q 61 [45] (by omega) (by decide) (by decide) (by decide)) (fun p q => no45 _ p q 97 [] (by omega) (by decide) (by decide) (by decide)))
      rw [if_pos rfl, em, ew]; rfl
  exact h.rounds
end Go.Proofs.YthdlibgiejpjeaaGreatDoor.LUPure
