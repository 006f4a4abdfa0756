/- LeafRules' plain law. -/
import Derived.Test.YthdlibgiejpjeaaGreatDoorLR
import Derived.Test.YthdlibgiejpjeaaGreatDoorPureAid
import Derived.Lib.QuoteBits
import Derived.Lib.IndexAny
set_option linter.unusedVariables false
set_option linter.unusedSimpArgs false
namespace Go.Proofs.YthdlibgiejpjeaaGreatDoor.LRPure
open Go Go.RowKit Go.Proofs.YthdlibgiejpjeaaGreatDoor Go.Proofs.YthdlibgiejpjeaaGreatDoor.Given Go.Proofs.YthdlibgiejpjeaaGreatDoor.LR Go.Proofs.YthdlibgiejpjeaaGreatDoorW.PrintWords Go.Proofs.YthdlibgiejpjeaaGreatDoor.Spec Go.Proofs.YthdlibgiejpjeaaGreatDoor.PureAid

theorem shown_ev : Ev (fun k => scriptoriumlaw05_shown.f k) true := Ev.of (fun k => scriptoriumlaw05_shown.mono k) (k := 4) (by decide +kernel)
theorem many_l0 (c : UInt8) (n : Nat) (hn2 : n ≤ 1000000) : ∀ (d i : Nat), i + d = n →
    Ev (fun k => scriptoriumlaw05_many.l0 k (mkB [c]) (n : Int) (mkB (List.replicate i c)) (i : Int)) (mkB (List.replicate n c)) := by
  intro d
  induction d with
  | zero =>
    intro i hi
    obtain rfl : i = n := by omega
    refine ⟨1, fun k hk => ?_⟩
    obtain ⟨m, rfl⟩ : ∃ m, k = m + 1 := ⟨k - 1, by omega⟩
    show scriptoriumlaw05_many.l0 (m + 1) _ _ _ _ = _
    rw [scriptoriumlaw05_many.l0, if_neg (by omega)]
  | succ d ih =>
    intro i hi
    refine Ev.step (fun k => ?_) (ih (i + 1) (by omega))
    show scriptoriumlaw05_many.l0 (k + 1) _ _ _ _ = _
    rw [scriptoriumlaw05_many.l0, if_pos (by omega), if_pos (by rw [mkB_size, mkB_size, List.length_replicate]; simp only [List.length_singleton]; omega), mkB_append, ← List.replicate_succ', wrap_in _ (by omega)]
    rfl
theorem many_ev (c : UInt8) (n : Nat) (hn2 : n ≤ 1000000) : Ev (fun k => scriptoriumlaw05_many.f k (mkB [c]) (n : Int)) (mkB (List.replicate n c)) := many_l0 c n hn2 n 0 (by omega)
theorem and_mask (x : Int) (m : Nat) (hm : m < 9223372036854775807) : ∃ v : Nat, v ≤ m ∧ Go.bits .and .i64 x (m : Int) = (v : Int) := by
  refine ⟨(BitVec.ofInt 64 x &&& BitVec.ofInt 64 (m : Int)).toNat, ?_, ?_⟩
  · rw [BitVec.toNat_and, ofInt_u64 m (by omega)]; exact Nat.and_le_right
  · show IntKind.i64.wrap ((BitVec.ofInt 64 x &&& BitVec.ofInt 64 ((m : Nat) : Int)).toNat : Int) = _
    have hle : (BitVec.ofInt 64 x &&& BitVec.ofInt 64 ((m : Nat) : Int)).toNat ≤ m := by
      rw [BitVec.toNat_and, ofInt_u64 m (by omega)]; exact Nat.and_le_right
    exact IntWalk.i64_in _ (by omega)

/-! strings.ReplaceAll of one byte by nothing -/
theorem index_miss (b c : UInt8) (l : List UInt8) (h : b ≠ c) (i : Nat) (hi : Lib.index l [c] = i) : Lib.index (b :: l) [c] = ((i + 1 : Nat) : Int) := by
  rw [Lib.index_one] at hi ⊢
  unfold Lib.indexByte
  rw [hi]
  have : (b == c) = false := beq_eq_false_iff_ne.2 h
  simp only [this, Bool.false_eq_true, if_false]
  rw [if_neg (by simp)]
  rfl
theorem index_hit (c : UInt8) (l : List UInt8) : Lib.index (c :: l) [c] = ((0 : Nat) : Int) := by
  rw [Lib.index_one]; unfold Lib.indexByte; simp
theorem rep_filter (c : UInt8) (s : List UInt8) : Lib.replaceK [c] [] (s.count c) s = s.filter (fun x => x != c) := by
  induction s with
  | nil => rfl
  | cons b l ih =>
    by_cases h : b = c
    · subst h
      rw [List.count_cons_self, Lib.replaceK_hit [b] [] _ _ 0 (index_hit b l), List.filter_cons, if_neg (by simp)]
      simpa using ih
    · have hcnt : (b :: l).count c = l.count c := List.count_cons_of_ne (by simpa using fun e => h e)
      rw [hcnt, List.filter_cons, if_pos (by simpa using h)]
      cases hk : l.count c with
      | zero => rw [hk] at ih; show b :: l = _; rw [← ih]; rfl
      | succ k =>
        obtain ⟨i, hi⟩ := Lib.index_of_count (s := l) (old := [c]) (by rw [Lib.count_one, hk]; omega)
        rw [hk, Lib.replaceK_hit [c] [] k l i hi] at ih
        rw [Lib.replaceK_hit [c] [] k (b :: l) (i + 1) (index_miss b c l h i hi), ← ih]
        simp
theorem repl_f (c : UInt8) (l : List UInt8) (h : l.length ≤ 1000000) : strings_ReplaceAll.f (mkB l) (mkB [c]) (⟨#[]⟩ : ByteArray) = some (mkB (l.filter (fun x => x != c))) := by
  unfold strings_ReplaceAll.f
  rw [if_pos ⟨by rw [mkB_size]; simp, by rw [mkB_size]; omega, by rw [mkB_size]; show l.length + _ * 0 ≤ _; omega⟩]
  show some (mkB (Lib.replaceAll l [c] [])) = _
  unfold Lib.replaceAll Lib.replace Lib.replaceNum
  rw [if_neg (by simp), if_pos (.inl (by omega)), Lib.count_one, rep_filter]
theorem gap_fun (l : List UInt8) (h : l.length ≤ 4000000000) : leaf_gap.f (mkB l) = some (gap l) := by
  unfold leaf_gap.f
  rw [if_pos (by rw [mkB_size]; omega)]; rfl
theorem bt0 (c : UInt8) (r : List UInt8) : bt (mkB (c :: r)) 0 = (c.toNat : Int) := bt_drop (c :: r) 0 c r rfl

def sign (c : UInt8) : Prop := c = 42 ∨ c = 45 ∨ c = 95
theorem ixb_yes (c : UInt8) (h : sign c) : strings_IndexByte.f (⟨#[42, 45, 95]⟩ : ByteArray) (c.toNat : Int) = some (Lib.indexByte [42, 45, 95] c) ∧ decide (Lib.indexByte [42, 45, 95] c < 0) = false := by
  rcases h with rfl | rfl | rfl <;> exact ⟨rfl, by decide⟩
theorem rule_no (r : List UInt8) : Ev (fun k => leaf_Rule.f k (mkB (97 :: r))) false := by
  refine ⟨1, fun k hk => ?_⟩
  obtain ⟨q, rfl⟩ : ∃ q, k = q + 1 := ⟨k - 1, by omega⟩
  show leaf_Rule.f (q + 1) _ = _
  unfold leaf_Rule.f
  rw [mkB_toList, if_neg (by simp), if_pos (by rw [mkB_size]; simp only [List.length_cons]; omega), bt0, show strings_IndexByte.f (⟨#[42, 45, 95]⟩ : ByteArray) (((97 : UInt8).toNat : Nat) : Int) = some (-1) from by decide, Option.bind_some, leaf_Rule.j0, if_pos (by decide)]
theorem rule_nil : Ev (fun k => leaf_Rule.f k (mkB [])) false := by
  refine ⟨1, fun k hk => ?_⟩
  obtain ⟨q, rfl⟩ : ∃ q, k = q + 1 := ⟨k - 1, by omega⟩
  show leaf_Rule.f (q + 1) _ = _
  unfold leaf_Rule.f
  rw [mkB_toList, if_pos rfl, leaf_Rule.j0, if_pos rfl]
theorem rule_yes (c : UInt8) (r : List UInt8) (hc : sign c) (hl : r.length ≤ 100000) : Ev (fun k => leaf_Rule.f k (mkB (c :: r))) (decide (3 ≤ (c :: r).count c) && gap ((c :: r).filter (fun x => x != c))) := by
  obtain ⟨h1, h2⟩ := ixb_yes c hc
  have hcount : strings_Count.f (mkB (c :: r)) (mkB [c]) = some (((c :: r).count c : Nat) : Int) := by
    unfold strings_Count.f
    rw [if_pos (by rw [mkB_size]; rfl)]; rfl
  have hx : (mkB (c :: r)).extract 0 1 = mkB [c] := by rw [mkB_piece]; rfl
  have hfl : ((c :: r).filter (fun x => x != c)).length ≤ (c :: r).length := List.length_filter_le _ _
  have hrep := repl_f c (c :: r) (by simp only [List.length_cons]; omega)
  have hgap := gap_fun ((c :: r).filter (fun x => x != c)) (by simp only [List.length_cons] at hfl; omega)
  have hs0 : 0 < ((mkB (c :: r)).size : Int) := by rw [mkB_size]; simp only [List.length_cons]; omega
  have hs1 : (1 : Int) ≤ ((mkB (c :: r)).size : Int) := by rw [mkB_size]; simp only [List.length_cons]; omega
  have hb0 := bt0 c r
  have hne : ¬ (mkB (c :: r)).toList = [] := by rw [mkB_toList]; simp
  generalize mkB (c :: r) = B at *
  generalize (c :: r).count c = n at *
  generalize (c :: r).filter (fun x => x != c) = F at *
  refine ⟨1, fun k hk => ?_⟩
  obtain ⟨q, rfl⟩ : ∃ q, k = q + 1 := ⟨k - 1, by omega⟩
  show leaf_Rule.f (q + 1) B = _
  unfold leaf_Rule.f
  rw [if_neg hne, if_pos hs0, hb0, h1, Option.bind_some, h2, leaf_Rule.j0, if_neg (by decide), if_pos (by omega), if_pos hs1, hx, hcount, Option.bind_some]
  by_cases h3 : 3 ≤ n
  · rw [if_pos (by omega), hrep, Option.bind_some, hgap, Option.bind_some]; simp [h3]
  · rw [if_neg (by omega)]; simp [h3]

/-- The text so far: the sign so many times, and gaps between. -/
structure RowS (c : UInt8) (s : List UInt8) (n : Nat) : Prop where
  all : ∀ x ∈ s, x = c ∨ x = 32 ∨ x = 9
  cnt : s.count c = n
  nil : n = 0 → s = []
  head : 0 < n → ∃ r, s = c :: r
  len : s.length ≤ 5 * n
theorem sign_ne (c : UInt8) (h : sign c) : c ≠ 32 ∧ c ≠ 9 ∧ c ≠ 97 := by rcases h with rfl | rfl | rfl <;> decide
theorem RowS.next {c : UInt8} {s : List UInt8} {n p q : Nat} (h : RowS c s n) (hc : sign c) (hp : p ≤ 3) (hq : q ≤ 1) : RowS c (s ++ [c] ++ List.replicate p 32 ++ List.replicate q 9) (n + 1) := by
  obtain ⟨h32, h9, _⟩ := sign_ne c hc
  refine ⟨fun x hx => ?_, ?_, fun e => by omega, fun _ => ?_, ?_⟩
  · simp only [List.mem_append, List.mem_singleton, List.mem_replicate] at hx
    rcases hx with ((hx | hx) | hx) | hx
    · exact h.all x hx
    · exact .inl hx
    · exact .inr (.inl hx.2)
    · exact .inr (.inr hx.2)
  · rw [List.count_append, List.count_append, List.count_append, h.cnt, List.count_replicate, List.count_replicate, if_neg (by simpa using fun e => h32 e.symm), if_neg (by simpa using fun e => h9 e.symm)]
    simp
  · by_cases h0 : n = 0
    · rw [h.nil h0]; exact ⟨_, rfl⟩
    · obtain ⟨r, hr⟩ := h.head (by omega)
      rw [hr]; exact ⟨_, rfl⟩
  · have := h.len
    simp only [List.length_append, List.length_singleton, List.length_replicate]; omega
theorem filter_gap {c : UInt8} {s : List UInt8} {n : Nat} (h : RowS c s n) : gap (s.filter (fun x => x != c)) = true := by
  unfold gap
  refine List.all_eq_true.2 fun x hx => ?_
  obtain ⟨h1, h2⟩ := List.mem_filter.1 hx
  have h3 : x ≠ c := by simpa using h2
  have := (h.all x h1).resolve_left h3
  simpa using this
theorem filter_no (c : UInt8) (hc : sign c) (a b : List UInt8) : gap ((a ++ 97 :: b).filter (fun x => x != c)) = false := by
  rw [Bool.eq_false_iff]
  intro h
  unfold gap at h
  have := List.all_eq_true.1 h 97 (List.mem_filter.2 ⟨by simp, by simpa using fun e => (sign_ne c hc).2.2 e.symm⟩)
  exact absurd this (by decide)
theorem row_ev {c : UInt8} {s : List UInt8} {n : Nat} (h : RowS c s n) (hc : sign c) (hn : n ≤ 50) : Ev (fun k => leaf_Rule.f k (mkB s)) (decide (3 ≤ n)) := by
  by_cases h0 : n = 0
  · rw [h.nil h0, h0]; exact rule_nil
  · obtain ⟨r, hr⟩ := h.head (by omega)
    have hl := h.len
    have := rule_yes c r hc (by rw [hr] at hl; simp only [List.length_cons] at hl; omega)
    rw [← hr, h.cnt, filter_gap h, Bool.and_true] at this
    exact this
theorem broken_ev {c : UInt8} {s : List UInt8} {n : Nat} (h : RowS c s n) (hc : sign c) (hn : n ≤ 50) (p : Nat) (hp : p ≤ s.length) : Ev (fun k => leaf_Rule.f k (mkB (s.take p ++ 97 :: s.drop p))) false := by
  cases p with
  | zero => exact rule_no _
  | succ p =>
    have hne : 0 < n := by
      rcases Nat.eq_zero_or_pos n with e | e
      · rw [h.nil e] at hp; simp at hp
      · exact e
    obtain ⟨r, hr⟩ := h.head hne
    have hl := h.len
    have hf := filter_no c hc (s.take (p + 1)) (s.drop (p + 1))
    rw [hr] at hf hl ⊢
    simp only [List.take_succ_cons, List.drop_succ_cons, List.cons_append, List.length_cons] at hf hl ⊢
    have := rule_yes c (r.take p ++ 97 :: r.drop p) hc (by simp only [List.length_append, List.length_cons, List.length_take, List.length_drop]; omega)
    rw [hf, Bool.and_false] at this
    exact this

def fin (c : UInt8) (S : List UInt8) (n : Nat) (X : Int) (k : Nat) : Option Bool :=
  (if (wrap64 (((mkB S).size : Int) + 1)) = 0 then (none) else (if true = true then ((leaf_Rule.f k (mkB S)).bind fun t137 => (if (t137 == (decide ((n : Int) ≥ 3))) = true then (if 0 ≤ (Int.tmod X (wrap64 (((mkB S).size : Int) + 1))) then (if (Int.tmod X (wrap64 (((mkB S).size : Int) + 1))) ≤ ((mkB S).size : Int) then (if ((mkB S).extract 0 ((Int.tmod X (wrap64 (((mkB S).size : Int) + 1))) : Int).toNat).size + 1 ≤ 9223372036854775807 then (if (((mkB S).extract 0 ((Int.tmod X (wrap64 (((mkB S).size : Int) + 1))) : Int).toNat) ++ (⟨#[97]⟩ : ByteArray)).size + ((mkB S).extract ((Int.tmod X (wrap64 (((mkB S).size : Int) + 1))) : Int).toNat (mkB S).size).size ≤ 9223372036854775807 then ((leaf_Rule.f k ((((mkB S).extract 0 ((Int.tmod X (wrap64 (((mkB S).size : Int) + 1))) : Int).toNat) ++ (⟨#[97]⟩ : ByteArray)) ++ ((mkB S).extract ((Int.tmod X (wrap64 (((mkB S).size : Int) + 1))) : Int).toNat (mkB S).size))).bind fun t138 => (some (!t138))) else (none)) else (none)) else (none)) else (none)) else (some false))) else (some false)))
theorem fin_ev {c : UInt8} {s : List UInt8} {n : Nat} (h : RowS c s n) (hc : sign c) (hn : n ≤ 50) (A : Nat) : Ev (fun k => fin c s n (A : Int) k) true := by
  have hl := h.len
  have hw : wrap64 (((mkB s).size : Int) + 1) = ((s.length + 1 : Nat) : Int) := by rw [mkB_size, wrap_in _ (by omega)]; rfl
  have ht : Int.tmod (A : Int) ((s.length + 1 : Nat) : Int) = ((A % (s.length + 1) : Nat) : Int) := rfl
  have hp : A % (s.length + 1) ≤ s.length := by have := Nat.mod_lt A (show s.length + 1 > 0 by omega); omega
  have e1 := row_ev h hc hn
  have e2 := broken_ev h hc hn _ hp
  generalize hP : A % (s.length + 1) = p at *
  have hx1 : (mkB s).extract 0 p = mkB (s.take p) := by rw [mkB_piece]; simp
  have hx2 : (mkB s).extract p (mkB s).size = mkB (s.drop p) := mkB_drop s p
  refine Ev.congr (f := fun k => (leaf_Rule.f k (mkB s)).bind fun t137 => (if (t137 == (decide ((n : Int) ≥ 3))) = true then ((leaf_Rule.f k (mkB (s.take p ++ 97 :: s.drop p))).bind fun t138 => (some (!t138))) else (some false))) (fun k => ?_) (Ev.bind e1 (Ev.congr (fun k => if_pos ?_) (Ev.bind (f := fun _ t => some (!t)) e2 (Ev.now true))))
  · unfold fin
    rw [hw, if_neg (by omega), if_pos rfl, ht, Int.toNat_natCast, hx1, hx2, if_pos (show (0 : Int) ≤ ((p : Nat) : Int) by omega), if_pos (show ((p : Nat) : Int) ≤ ((mkB s).size : Int) by rw [mkB_size]; omega),
      if_pos (show (mkB (s.take p)).size + 1 ≤ 9223372036854775807 by rw [mkB_size, List.length_take]; omega), show (⟨#[97]⟩ : ByteArray) = mkB [97] from rfl, mkB_append,
      if_pos (show (mkB (s.take p ++ [97])).size + (mkB (s.drop p)).size ≤ 9223372036854775807 by rw [mkB_size, mkB_size, List.length_append, List.length_take, List.length_drop]; simp only [List.length_singleton]; omega), mkB_append,
      show s.take p ++ [97] ++ s.drop p = s.take p ++ 97 :: s.drop p by simp]
  · have : decide (3 ≤ n) = decide ((n : Int) ≥ 3) := by rw [Bool.eq_iff_iff]; simp; omega
    rw [this]; simp
theorem fold_in (a : Int) (h : -9223372036854775808 ≤ a ∧ a ≤ 9223372036854775807) (hn : a < 0) : wrap64 (-(wrap64 (a + 1))) = (((-(a + 1)).toNat : Nat) : Int) := by
  rw [wrap_in (a + 1) (by omega), wrap_in _ (by omega), Int.toNat_of_nonneg (by omega)]
theorem end_ev {c : UInt8} {s : List UInt8} {n : Nat} (h : RowS c s n) (hc : sign c) (hn : n ≤ 50) (x1 : List Int) (x2 : Int) (h2 : -9223372036854775808 ≤ x2 ∧ x2 ≤ 9223372036854775807) (i : Int) :
    Ev (fun k => scriptoriumlaw05_LeafRules.j1 k x1 x2 true (mkB [c]) (mkB s) (n : Int) i false) true := by
  by_cases hneg : x2 < 0
  · refine Ev.step (fun k => ?_) (fin_ev h hc hn (-(x2 + 1)).toNat)
    show scriptoriumlaw05_LeafRules.j1 (k + 1) _ _ _ _ _ _ _ false = _
    rw [scriptoriumlaw05_LeafRules.j1, if_neg (by decide), if_pos hneg, fold_in x2 h2 hneg]; rfl
  · refine Ev.step (fun k => ?_) (fin_ev h hc hn x2.toNat)
    show scriptoriumlaw05_LeafRules.j1 (k + 1) _ _ _ _ _ _ _ false = _
    rw [scriptoriumlaw05_LeafRules.j1, if_neg (by decide), if_neg hneg, Int.toNat_of_nonneg (by omega)]; rfl
theorem j1_yes (c : UInt8) (x1 : List Int) (x2 : Int) (s : List UInt8) (i p q k : Nat) (hs : s.length ≤ 1000) (hi : i < x1.length) (hi2 : i ≤ 50) (ep : Hid (Go.bits .and .i64 (rd x1 (i : Int)) 3 = (p : Int))) (eq_ : Hid (Go.bits .and .i64 ((rd x1 (i : Int)) / 4) 1 = (q : Int))) :
    scriptoriumlaw05_LeafRules.j1 (k + 1) x1 x2 true (mkB [c]) (mkB s) (i : Int) (i : Int) true = (scriptoriumlaw05_many.f k (mkB [32]) (p : Int)).bind fun t132 => (if (mkB (s ++ [c])).size + t132.size ≤ 9223372036854775807 then ((scriptoriumlaw05_many.f k (mkB [9]) (q : Int)).bind fun t134 => (if (mkB (s ++ [c]) ++ t132).size + t134.size ≤ 9223372036854775807 then (scriptoriumlaw05_LeafRules.l0 k x1 x2 true (mkB [c]) ((mkB (s ++ [c]) ++ t132) ++ t134) ((i + 1 : Nat) : Int) ((i + 1 : Nat) : Int)) else (none))) else (none)) := by
  have hw : wrap64 ((i : Int) + 1) = ((i + 1 : Nat) : Int) := by rw [wrap_in _ (by omega)]; rfl
  have s1 : (mkB s).size + (mkB [c]).size ≤ 9223372036854775807 := by rw [mkB_size, mkB_size]; simp only [List.length_singleton]; omega
  have s2 : (0 : Int) ≤ (i : Int) := by omega
  have s3 : (i : Int) < (x1.length : Int) := by omega
  rw [scriptoriumlaw05_LeafRules.j1, if_pos (show true = true from rfl), if_pos s1, if_pos s2, if_pos s3, mkB_append, ep.out, eq_.out, hw]
  rfl
theorem l0_ev (c : UInt8) (hc : sign c) (x1 : List Int) (x2 : Int) (h2 : -9223372036854775808 ≤ x2 ∧ x2 ≤ 9223372036854775807) (N : Nat) (hN : N = min x1.length 50) : ∀ (d i : Nat) (s : List UInt8), i + d = N → RowS c s i →
    Ev (fun k => scriptoriumlaw05_LeafRules.l0 k x1 x2 true (mkB [c]) (mkB s) (i : Int) (i : Int)) true := by
  intro d
  induction d with
  | zero =>
    intro i s hi h
    refine Ev.step (fun k => ?_) (end_ev h hc (by omega) x1 x2 h2 (i : Int))
    show scriptoriumlaw05_LeafRules.l0 (k + 1) _ _ _ _ _ _ _ = _
    rw [scriptoriumlaw05_LeafRules.l0]
    by_cases hlt : (i : Int) < (x1.length : Int)
    · rw [if_pos hlt, show decide ((i : Int) < 50) = false by simp; omega]
    · rw [if_neg hlt]
  | succ d ih =>
    intro i s hi h
    have hl := h.len
    obtain ⟨p, hp, ep0⟩ := and_mask (rd x1 (i : Int)) 3 (by decide)
    obtain ⟨q, hq, eq_0⟩ := and_mask ((rd x1 (i : Int)) / 4) 1 (by decide)
    have ep2 := Lib.hid (show Go.bits .and .i64 (rd x1 (i : Int)) 3 = (p : Int) from ep0); clear ep0
    have eq2 := Lib.hid (show Go.bits .and .i64 ((rd x1 (i : Int)) / 4) 1 = (q : Int) from eq_0); clear eq_0
    have m1 := many_ev 32 p (by omega)
    have m2 := many_ev 9 q (by omega)
    have hnext := ih (i + 1) _ (by omega) (h.next hc hp hq)
    have hw : wrap64 ((i : Int) + 1) = ((i + 1 : Nat) : Int) := by rw [wrap_in _ (by omega)]; rfl
    refine Ev.step (f := fun k => scriptoriumlaw05_LeafRules.j1 k x1 x2 true (mkB [c]) (mkB s) (i : Int) (i : Int) true) (fun k => ?_) (Ev.step (f := fun k => (scriptoriumlaw05_many.f k (mkB [32]) (p : Int)).bind fun t132 => (if (mkB (s ++ [c])).size + t132.size ≤ 9223372036854775807 then ((scriptoriumlaw05_many.f k (mkB [9]) (q : Int)).bind fun t134 => (if (mkB (s ++ [c]) ++ t132).size + t134.size ≤ 9223372036854775807 then (scriptoriumlaw05_LeafRules.l0 k x1 x2 true (mkB [c]) ((mkB (s ++ [c]) ++ t132) ++ t134) ((i + 1 : Nat) : Int) ((i + 1 : Nat) : Int)) else (none))) else (none))) (fun k => ?_) (Ev.bind m1 ?_))
    · show scriptoriumlaw05_LeafRules.l0 (k + 1) _ _ _ _ _ _ _ = _
      rw [scriptoriumlaw05_LeafRules.l0, if_pos (by omega), show decide ((i : Int) < 50) = true by simp; omega]
    · exact j1_yes c x1 x2 s i p q k (by omega) (by omega) (by omega) ep2 eq2
    · have s1 : (mkB (s ++ [c])).size + (mkB (List.replicate p 32)).size ≤ 9223372036854775807 := by rw [mkB_size, mkB_size, List.length_append, List.length_replicate]; simp only [List.length_singleton]; omega
      have s2 : (mkB (s ++ [c]) ++ mkB (List.replicate p 32)).size + (mkB (List.replicate q 9)).size ≤ 9223372036854775807 := by rw [mkB_append, mkB_size, mkB_size, List.length_append, List.length_append, List.length_replicate, List.length_replicate]; simp only [List.length_singleton]; omega
      refine Ev.congr (fun k => if_pos s1) (Ev.bind m2 (Ev.congr (fun k => if_pos s2) ?_))
      rw [mkB_append, mkB_append]
      exact hnext
theorem pure (a0 : Int) (h0 : -9223372036854775808 ≤ a0 ∧ a0 ≤ 9223372036854775807) (l1 : List Int) (hw1 : ∀ x ∈ l1, (Lit.int .i64 x).wf = true) (a2 : Int) (h2 : -9223372036854775808 ≤ a2 ∧ a2 ≤ 9223372036854775807) :
    ∃ k, scriptoriumlaw05_LeafRules.f k a0 l1 a2 = some true := by
  obtain ⟨m, hm, em0⟩ := and_mask a0 1 (by decide)
  obtain ⟨p, hp, ep0⟩ := and_mask (a0 / 2) 1 (by decide)
  have em2 := Lib.hid (show Go.bits .and .i64 a0 1 = (m : Int) from em0); clear em0
  have ep2 := Lib.hid (show Go.bits .and .i64 (a0 / 2) 1 = (p : Int) from ep0); clear ep0
  have ew : wrap64 ((m : Int) + (p : Int)) = ((m + p : Nat) : Int) := by rw [wrap_in _ (by omega)]; rfl
  obtain ⟨c, hc, hrd⟩ : ∃ c, sign c ∧ rdOf ByteArray.empty [(⟨#[42]⟩ : ByteArray), (⟨#[45]⟩ : ByteArray), (⟨#[95]⟩ : ByteArray)] ((m + p : Nat) : Int) = mkB [c] := by
    unfold rdOf
    rw [Int.toNat_natCast]
    have : m + p = 0 ∨ m + p = 1 ∨ m + p = 2 := by omega
    rcases this with h | h | h
    · exact ⟨42, .inl rfl, by rw [h]; rfl⟩
    · exact ⟨45, .inr (.inl rfl), by rw [h]; rfl⟩
    · exact ⟨95, .inr (.inr rfl), by rw [h]; rfl⟩
  have h := l0_ev c hc l1 a2 h2 (min l1.length 50) rfl (min l1.length 50) 0 [] (by omega) ⟨by simp, by simp, fun _ => rfl, fun h => by omega, by simp⟩
  have hf : Ev (fun k => scriptoriumlaw05_LeafRules.f k a0 l1 a2) true := by
    refine Ev.bind shown_ev (Ev.congr (fun k => ?_) h)
    rw [Option.bind_some, em2.out, ep2.out, ew, if_pos (by omega), if_pos (by simp only [List.length_cons, List.length_nil]; omega), hrd]
    rfl
  exact hf.rounds
end Go.Proofs.YthdlibgiejpjeaaGreatDoor.LRPure
