import Derived.Test.YthdlibgiejpjeaaGreatDoorLO
import Derived.Test.YthdlibgiejpjeaaGreatDoorPureAid
import Derived.Lib.QuoteBits
import Derived.Lib.IndexAny
import Derived.Test.YthdlibgiejpjeaaGreatDoorHtmlAll
/- LeafOne's plain laws: what leaf.Rule, leaf.Heading and leaf.Fence answer at any text. -/
set_option linter.unusedVariables false
set_option linter.unusedSimpArgs false
namespace Go.Proofs.YthdlibgiejpjeaaGreatDoor.LOPure
open Go Go.RowKit Go.Proofs.YthdlibgiejpjeaaGreatDoor Go.Proofs.YthdlibgiejpjeaaGreatDoor.Given Go.Proofs.YthdlibgiejpjeaaGreatDoor.LO Go.Proofs.YthdlibgiejpjeaaGreatDoorW.PrintWords Go.Proofs.YthdlibgiejpjeaaGreatDoor.Spec Go.Proofs.YthdlibgiejpjeaaGreatDoor.PureAid

theorem shown_ev : Ev (fun k => scriptoriumlaw05_shown.f k) true := Ev.of (fun k => scriptoriumlaw05_shown.mono k) (k := 4) (by decide +kernel)
theorem gap_fun (l : List UInt8) (h : l.length ≤ 4000000000) : leaf_gap.f (mkB l) = some (gap l) := by
  unfold leaf_gap.f
  rw [if_pos (by rw [mkB_size]; omega)]; rfl
theorem bt0 (c : UInt8) (r : List UInt8) : bt (mkB (c :: r)) 0 = (c.toNat : Int) := bt_drop (c :: r) 0 c r rfl

/-! leaf.Rule -/
theorem index_miss (b c : UInt8) (l : List UInt8) (h : b ≠ c) (i : Nat) (hi : Lib.index l [c] = i) : Lib.index (b :: l) [c] = ((i + 1 : Nat) : Int) := by
  rw [Lib.index_one] at hi ⊢
  unfold Lib.indexByte
  rw [hi]
  have : (b == c) = false := beq_eq_false_iff_ne.2 h
  simp only [this, Bool.false_eq_true, if_false]
  rw [if_neg (by simp)]
  rfl
theorem index_hit (c : UInt8) (l : List UInt8) : Lib.index (c :: l) [c] = ((0 : Nat) : Int) := by
  rw [Lib.index_one]; unfold Lib.indexByte; simp
theorem rep_filter (c : UInt8) (s : List UInt8) : Lib.replaceK [c] [] (s.count c) s = s.filter (fun x => x != c) := by
  induction s with
  | nil => rfl
  | cons b l ih =>
    by_cases h : b = c
    · subst h
      rw [List.count_cons_self, Lib.replaceK_hit [b] [] _ _ 0 (index_hit b l), List.filter_cons, if_neg (by simp)]
      simpa using ih
    · have hcnt : (b :: l).count c = l.count c := List.count_cons_of_ne (by simpa using fun e => h e)
      rw [hcnt, List.filter_cons, if_pos (by simpa using h)]
      cases hk : l.count c with
      | zero => rw [hk] at ih; show b :: l = _; rw [← ih]; rfl
      | succ k =>
        obtain ⟨i, hi⟩ := Lib.index_of_count (s := l) (old := [c]) (by rw [Lib.count_one, hk]; omega)
        rw [hk, Lib.replaceK_hit [c] [] k l i hi] at ih
        rw [Lib.replaceK_hit [c] [] k (b :: l) (i + 1) (index_miss b c l h i hi), ← ih]
        simp
theorem repl_f (c : UInt8) (l : List UInt8) (h : l.length ≤ 4000000000) : strings_ReplaceAll.f (mkB l) (mkB [c]) (⟨#[]⟩ : ByteArray) = some (mkB (l.filter (fun x => x != c))) := by
  unfold strings_ReplaceAll.f
  rw [if_pos ⟨by rw [mkB_size]; simp, by rw [mkB_size]; omega, by rw [mkB_size]; show l.length + _ * 0 ≤ _; omega⟩]
  show some (mkB (Lib.replaceAll l [c] [])) = _
  unfold Lib.replaceAll Lib.replace Lib.replaceNum
  rw [if_neg (by simp), if_pos (.inl (by omega)), Lib.count_one, rep_filter]
def sign (c : UInt8) : Prop := c = 42 ∨ c = 45 ∨ c = 95
theorem ixb_yes (c : UInt8) (h : sign c) : strings_IndexByte.f (⟨#[42, 45, 95]⟩ : ByteArray) (c.toNat : Int) = some (Lib.indexByte [42, 45, 95] c) ∧ decide (Lib.indexByte [42, 45, 95] c < 0) = false := by
  rcases h with rfl | rfl | rfl <;> exact ⟨rfl, by decide⟩
theorem ixb_no : ∀ c : Fin 256, ¬ sign c.val.toUInt8 → strings_IndexByte.f (⟨#[42, 45, 95]⟩ : ByteArray) (c.val.toUInt8.toNat : Int) = some (-1) := by
  unfold sign; decide +kernel
theorem rule_any (l : List UInt8) (hl : l.length ≤ 100000000) : ∃ b, Ev (fun k => leaf_Rule.f k (mkB l)) b ∧ (b = true → ∃ c, l.head? = some c ∧ sign c) := by
  cases l with
  | nil =>
    refine ⟨false, ⟨1, fun k hk => ?_⟩, fun h => by cases h⟩
    obtain ⟨q, rfl⟩ : ∃ q, k = q + 1 := ⟨k - 1, by omega⟩
    show leaf_Rule.f (q + 1) _ = _
    unfold leaf_Rule.f
    rw [mkB_toList, if_pos rfl, leaf_Rule.j0, if_pos rfl]
  | cons c r =>
    simp only [List.length_cons] at hl
    by_cases hc : sign c
    · refine ⟨decide (3 ≤ (c :: r).count c) && gap ((c :: r).filter (fun x => x != c)), ?_, fun _ => ⟨c, rfl, hc⟩⟩
      obtain ⟨h1, h2⟩ := ixb_yes c hc
      have hcount : strings_Count.f (mkB (c :: r)) (mkB [c]) = some (((c :: r).count c : Nat) : Int) := by
        unfold strings_Count.f
        rw [if_pos (by rw [mkB_size]; rfl)]; rfl
      have hx : (mkB (c :: r)).extract 0 1 = mkB [c] := by rw [mkB_piece]; rfl
      have hfl : ((c :: r).filter (fun x => x != c)).length ≤ (c :: r).length := List.length_filter_le _ _
      have hrep := repl_f c (c :: r) (by simp only [List.length_cons]; omega)
      have hgap := gap_fun ((c :: r).filter (fun x => x != c)) (by simp only [List.length_cons] at hfl; omega)
      have hs0 : 0 < ((mkB (c :: r)).size : Int) := by rw [mkB_size]; simp only [List.length_cons]; omega
      have hs1 : (1 : Int) ≤ ((mkB (c :: r)).size : Int) := by rw [mkB_size]; simp only [List.length_cons]; omega
      have hb0 := bt0 c r
      have hne : ¬ (mkB (c :: r)).toList = [] := by rw [mkB_toList]; simp
      generalize mkB (c :: r) = B at *
      generalize (c :: r).count c = n at *
      generalize (c :: r).filter (fun x => x != c) = F at *
      refine ⟨1, fun k hk => ?_⟩
      obtain ⟨q, rfl⟩ : ∃ q, k = q + 1 := ⟨k - 1, by omega⟩
      show leaf_Rule.f (q + 1) B = _
      unfold leaf_Rule.f
      rw [if_neg hne, if_pos hs0, hb0, h1, Option.bind_some, h2, leaf_Rule.j0, if_neg (by decide), if_pos (by omega), if_pos hs1, hx, hcount, Option.bind_some]
      by_cases h3 : 3 ≤ n
      · rw [if_pos (by omega), hrep, Option.bind_some, hgap, Option.bind_some]; simp [h3]
      · rw [if_neg (by omega)]; simp [h3]
    · refine ⟨false, ⟨1, fun k hk => ?_⟩, fun h => by cases h⟩
      have hno := ixb_no ⟨c.toNat, c.toNat_lt⟩ (by simpa using hc)
      simp only [show c.toNat.toUInt8 = c by simp] at hno
      obtain ⟨q, rfl⟩ : ∃ q, k = q + 1 := ⟨k - 1, by omega⟩
      show leaf_Rule.f (q + 1) _ = _
      unfold leaf_Rule.f
      rw [mkB_toList, if_neg (by simp), if_pos (by rw [mkB_size]; simp only [List.length_cons]; omega), bt0, hno, Option.bind_some, leaf_Rule.j0, if_pos (by decide)]

theorem run_pos (l : List UInt8) (c : UInt8) (h : 0 < run l c) : l.head? = some c := by
  cases l with
  | nil => unfold run at h; simp at h
  | cons d r =>
    by_cases e : d = c
    · rw [e]; rfl
    · unfold run at h
      rw [List.takeWhile_cons, if_neg (by simpa using e)] at h; simp at h
theorem run_le (l : List UInt8) (c : UInt8) : run l c ≤ l.length := (List.takeWhile_sublist _).length_le
theorem trimR_len (l cs : List UInt8) : (Lib.trimRightS l cs).length ≤ l.length := by
  unfold Lib.trimRightS
  rw [List.length_reverse]
  have := (List.dropWhile_sublist (fun x => cs.contains x) (l := l.reverse)).length_le
  rw [List.length_reverse] at this; exact this
theorem trim_len (l cs : List UInt8) : (Lib.trimS l cs).length ≤ l.length := by
  unfold Lib.trimS Lib.trimLeftS
  exact Nat.le_trans (List.dropWhile_sublist _).length_le (trimR_len l cs)
theorem trim_f (l : List UInt8) (h : l.length ≤ 4000000000) : strings_Trim.f (mkB l) (⟨#[32, 9]⟩ : ByteArray) = some (mkB (Lib.trimS l [32, 9])) := by
  unfold strings_Trim.f
  rw [if_pos ⟨by rw [mkB_size]; omega, by show 2 < 4294967281; omega, by rfl⟩]; rfl
theorem trimR_f (l : List UInt8) (h : l.length ≤ 4000000000) : strings_TrimRight.f (mkB l) (⟨#[35]⟩ : ByteArray) = some (mkB (Lib.trimRightS l [35])) := by
  unfold strings_TrimRight.f
  rw [if_pos ⟨by rw [mkB_size]; omega, by show 1 < 4294967281; omega, by rfl⟩]; rfl
theorem trimR2_f (l : List UInt8) (h : l.length ≤ 4000000000) : strings_TrimRight.f (mkB l) (⟨#[32, 9]⟩ : ByteArray) = some (mkB (Lib.trimRightS l [32, 9])) := by
  unfold strings_TrimRight.f
  rw [if_pos ⟨by rw [mkB_size]; omega, by show 2 < 4294967281; omega, by rfl⟩]; rfl
theorem beh_f (l : List UInt8) : leaf_behind.f (mkB l) = some (behind l) := rfl
theorem run_f (l : List UInt8) (c : UInt8) (hc : c.toNat < 128) (h : l.length ≤ 4000000000) : leaf_run.f (mkB l) (c.toNat : Int) = some ((run l c : Nat) : Int) := by
  unfold leaf_run.f
  rw [if_pos ⟨by omega, by omega, by rw [mkB_size]; omega⟩, mkB_data, show ((c.toNat : Int).toNat.toUInt8) = c by simp]
/-! leaf.Heading -/
theorem heading_any (l : List UInt8) (hl : l.length ≤ 100000000) : ∃ (n : Nat) (t : ByteArray), Ev (fun k => leaf_Heading.f k (mkB l)) ((n : Int), t) ∧ n ≤ 6 ∧ (0 < n → l.head? = some 35) := by
  have hrf := run_f l 35 (by decide) (by omega)
  have hle := run_le l 35
  have hpos := run_pos l 35
  generalize hN : run l 35 = n at *
  have start : ∀ k, leaf_Heading.f k (mkB l) = (if (n : Int) = 0 then (leaf_Heading.j0 k (mkB l) (n : Int) true) else (if (n : Int) > 6 then (leaf_Heading.j0 k (mkB l) (n : Int) true) else leaf_Heading.j0 k (mkB l) (n : Int) (!(behind (l.drop n))))) := fun k => by
    unfold leaf_Heading.f
    rw [show (35 : Int) = ((35 : UInt8).toNat : Int) from rfl, hrf, Option.bind_some]
    split
    · rfl
    · split
      · rfl
      · rw [if_pos (by omega), if_pos (by rw [mkB_size]; omega), Int.toNat_natCast, mkB_drop, beh_f, Option.bind_some]
  have none0 : ∀ (p : Prop), p → (∀ k, leaf_Heading.f (k + 1) (mkB l) = leaf_Heading.j0 (k + 1) (mkB l) (n : Int) true) → ∃ (n : Nat) (t : ByteArray), Ev (fun k => leaf_Heading.f k (mkB l)) ((n : Int), t) ∧ n ≤ 6 ∧ (0 < n → l.head? = some 35) := fun _ _ h => by
    refine ⟨0, ⟨#[]⟩, ⟨1, fun k hk => ?_⟩, by omega, fun h => by omega⟩
    obtain ⟨q, rfl⟩ : ∃ q, k = q + 1 := ⟨k - 1, by omega⟩
    show leaf_Heading.f (q + 1) (mkB l) = _
    rw [h q, leaf_Heading.j0, if_pos rfl]; rfl
  by_cases h0 : n = 0
  · exact none0 _ h0 fun k => by rw [start, if_pos (by omega)]
  by_cases h6 : 6 < n
  · exact none0 _ h6 fun k => by rw [start, if_neg (by omega), if_pos (by omega)]
  cases hb : behind (l.drop n)
  · exact none0 _ hb fun k => by rw [start, if_neg (by omega), if_neg (by omega), hb]; rfl
  have hdl : (l.drop n).length ≤ l.length := by rw [List.length_drop]; omega
  have ht := trim_f (l.drop n) (by omega)
  have htl := trim_len (l.drop n) [32, 9]
  generalize Lib.trimS (l.drop n) [32, 9] = t at *
  have hu := trimR_f t (by omega)
  have hul := trimR_len t [35]
  generalize Lib.trimRightS t [35] = u at *
  have hv := trimR2_f u (by omega)
  have go : ∀ q, leaf_Heading.f (q + 1) (mkB l) = (if (mkB u).toList = ([] : List UInt8) then (some ((n : Int), (⟨#[]⟩ : ByteArray))) else (if (mkB u).toList = (mkB t).toList then (some ((n : Int), mkB t)) else (if 0 ≤ (wrap64 (((mkB u).size : Int) - 1)) then (if (wrap64 (((mkB u).size : Int) - 1)) ≤ ((mkB u).size : Int) then ((leaf_behind.f ((mkB u).extract ((wrap64 (((mkB u).size : Int) - 1)) : Int).toNat (mkB u).size)).bind fun t109 => (if t109 = true then ((strings_TrimRight.f (mkB u) (⟨#[32, 9]⟩ : ByteArray)).bind fun t110 => (some ((n : Int), t110))) else (some ((n : Int), mkB t)))) else (none)) else (none)))) := fun q => by
    rw [start, if_neg (by omega), if_neg (by omega), hb, leaf_Heading.j0, if_neg (by decide), if_pos (by omega), if_pos (by rw [mkB_size]; omega), Int.toNat_natCast, mkB_drop, ht, Option.bind_some, hu, Option.bind_some]
  have fin : ∀ t' : ByteArray, (∀ q, leaf_Heading.f (q + 1) (mkB l) = some ((n : Int), t')) → ∃ (n : Nat) (t : ByteArray), Ev (fun k => leaf_Heading.f k (mkB l)) ((n : Int), t) ∧ n ≤ 6 ∧ (0 < n → l.head? = some 35) := fun t' h =>
    ⟨n, t', ⟨1, fun k hk => by
      obtain ⟨q, rfl⟩ : ∃ q, k = q + 1 := ⟨k - 1, by omega⟩
      exact h q⟩, by omega, hpos⟩
  by_cases hue : u = []
  · exact fin _ fun q => by rw [go, mkB_toList, if_pos hue]
  by_cases hut : u = t
  · exact fin _ fun q => by rw [go, mkB_toList, mkB_toList, if_neg hue, if_pos hut]
  have hu1 : 1 ≤ u.length := by
    rcases Nat.eq_zero_or_pos u.length with h | h
    · exact absurd (List.length_eq_zero_iff.1 h) hue
    · exact h
  have hw : wrap64 (((mkB u).size : Int) - 1) = ((u.length - 1 : Nat) : Int) := by rw [mkB_size, wrap_in _ (by omega)]; omega
  cases hbu : behind (u.drop (u.length - 1))
  · exact fin _ fun q => by
      rw [go, mkB_toList, mkB_toList, if_neg hue, if_neg hut, hw, if_pos (by omega), if_pos (by rw [mkB_size]; omega), Int.toNat_natCast, mkB_drop, beh_f, Option.bind_some, hbu, if_neg (by decide)]
  · exact fin _ fun q => by
      rw [go, mkB_toList, mkB_toList, if_neg hue, if_neg hut, hw, if_pos (by omega), if_pos (by rw [mkB_size]; omega), Int.toNat_natCast, mkB_drop, beh_f, Option.bind_some, hbu, if_pos rfl, hv, Option.bind_some]
/-! leaf.Fence -/
theorem contains_f (l : List UInt8) (h : l.length ≤ 4000000000) : ∃ b, strings_Contains.f (mkB l) (⟨#[96]⟩ : ByteArray) = some b := by
  unfold strings_Contains.f
  rw [if_pos (by rw [mkB_size]; omega)]; exact ⟨_, rfl⟩
theorem unescape_f (l : List UInt8) (h : l.length ≤ 4000000000) : ∃ b, escape_Unescape.f (mkB l) = some b := by
  unfold escape_Unescape.f
  rw [if_pos (by rw [mkB_size]; omega)]; exact ⟨_, rfl⟩
theorem fence_any (l : List UInt8) (hl : l.length ≤ 100000000) : ∃ (c : Int) (n : Nat) (t : ByteArray), Ev (fun k => leaf_Fence.f k (mkB l)) (c, (n : Int), t) ∧ (n = 0 ∨ 3 ≤ n) ∧ (0 < n → l.head? = some 96 ∨ l.head? = some 126) := by
  have none0 : (∀ q, leaf_Fence.f (q + 1 + 1) (mkB l) = some (0, 0, (⟨#[]⟩ : ByteArray))) → ∃ (c : Int) (n : Nat) (t : ByteArray), Ev (fun k => leaf_Fence.f k (mkB l)) (c, (n : Int), t) ∧ (n = 0 ∨ 3 ≤ n) ∧ (0 < n → l.head? = some 96 ∨ l.head? = some 126) := fun h => by
    refine ⟨0, 0, ⟨#[]⟩, ⟨2, fun k hk => ?_⟩, .inl rfl, fun h => by omega⟩
    obtain ⟨q, rfl⟩ : ∃ q, k = q + 1 + 1 := ⟨k - 2, by omega⟩
    exact h q
  cases l with
  | nil => exact none0 fun q => by unfold leaf_Fence.f; rw [mkB_toList, if_pos rfl, leaf_Fence.j0, if_pos rfl]
  | cons c r =>
    have hsz : 0 < ((mkB (c :: r)).size : Int) := by rw [mkB_size]; simp only [List.length_cons]; omega
    have hb0 := bt0 c r
    have hne : ¬ (mkB (c :: r)).toList = [] := by rw [mkB_toList]; simp
    by_cases hc : c = 96 ∨ c = 126
    · have hc128 : c.toNat < 128 := by rcases hc with rfl | rfl <;> decide
      have hrf := run_f (c :: r) c hc128 (by omega)
      have hle := run_le (c :: r) c
      have hdl : ((c :: r).drop (run (c :: r) c)).length ≤ (c :: r).length := by rw [List.length_drop]; omega
      have ht := trim_f ((c :: r).drop (run (c :: r) c)) (by omega)
      have htl := trim_len ((c :: r).drop (run (c :: r) c)) [32, 9]
      obtain ⟨cb, hcb⟩ := contains_f ((c :: r).drop (run (c :: r) c)) (by omega)
      obtain ⟨ub, hub⟩ := unescape_f (Lib.trimS ((c :: r).drop (run (c :: r) c)) [32, 9]) (by omega)
      generalize run (c :: r) c = n at *
      have hsn : (n : Int) ≤ ((mkB (c :: r)).size : Int) := by rw [mkB_size]; omega
      have st : ∀ k, leaf_Fence.f k (mkB (c :: r)) = leaf_Fence.j0 k (mkB (c :: r)) false := fun k => by
        unfold leaf_Fence.f
        rw [if_neg hne, if_pos hsz, hb0]
        rcases hc with rfl | rfl
        · rw [if_pos (by rfl)]
        · rw [if_neg (by decide)]; rfl
      have s0 : ∀ k, leaf_Fence.j0 (k + 1) (mkB (c :: r)) false = (if (n : Int) < 3 then (leaf_Fence.j1 k (mkB (c :: r)) (n : Int) true) else leaf_Fence.j1 k (mkB (c :: r)) (n : Int) (if c = 96 then cb else false)) := fun k => by
        rw [leaf_Fence.j0, if_neg (by decide), if_pos hsz, hb0, hrf, Option.bind_some]
        split
        · rfl
        · rcases hc with rfl | rfl
          · rw [if_pos (show ((((96 : UInt8).toNat) : Nat) : Int) = 96 from rfl), if_pos (show (0 : Int) ≤ (n : Int) by omega), Int.toNat_natCast, mkB_drop, hcb, Option.bind_some, if_pos (show (96 : UInt8) = 96 from rfl)]
          · rw [if_neg (by decide), if_neg (by decide)]
      by_cases h3 : n < 3
      · exact none0 fun q => by rw [st, s0, if_pos (by omega), leaf_Fence.j1, if_pos rfl]
      · cases hx : (if c = 96 then cb else false)
        · refine ⟨(c.toNat : Int), n, ub, ⟨2, fun k hk => ?_⟩, .inr (by omega), fun _ => by rcases hc with rfl | rfl; exact .inl rfl; exact .inr rfl⟩
          obtain ⟨q, rfl⟩ : ∃ q, k = q + 1 + 1 := ⟨k - 2, by omega⟩
          show leaf_Fence.f (q + 1 + 1) (mkB (c :: r)) = _
          rw [st, s0, if_neg (by omega), hx, leaf_Fence.j1, if_neg (by decide), if_pos hsz, if_pos (by omega), if_pos hsn, Int.toNat_natCast, mkB_drop, ht, Option.bind_some, hub, Option.bind_some, hb0]
        · exact none0 fun q => by rw [st, s0, if_neg (by omega), hx, leaf_Fence.j1, if_pos rfl]
    · have h1 : ¬ ((c.toNat : Int) = 96) := fun e => hc (.inl (UInt8.toNat_inj.1 (by show c.toNat = 96; omega)))
      have h2 : ((c.toNat : Int) != 126) = true := by
        simp only [bne_iff_ne]
        exact fun e => hc (.inr (UInt8.toNat_inj.1 (by show c.toNat = 126; omega)))
      exact none0 fun q => by
        unfold leaf_Fence.f
        rw [if_neg hne, if_pos hsz, hb0, if_neg h1, h2, leaf_Fence.j0, if_pos rfl]
end Go.Proofs.YthdlibgiejpjeaaGreatDoor.LOPure

/- LeafOne: a line is one thing alone: the law's walk. -/
set_option linter.unusedVariables false
set_option linter.unusedSimpArgs false
namespace Go.Proofs.YthdlibgiejpjeaaGreatDoor.LeafOne
open Go Go.RowKit Go.Proofs.YthdlibgiejpjeaaGreatDoor Go.Proofs.YthdlibgiejpjeaaGreatDoor.Given Go.Proofs.YthdlibgiejpjeaaGreatDoorW.PrintWords Go.Proofs.YthdlibgiejpjeaaGreatDoor.Spec Go.Proofs.YthdlibgiejpjeaaGreatDoor.PureAid Go.Proofs.YthdlibgiejpjeaaGreatDoor.HtmlAny Go.Proofs.YthdlibgiejpjeaaGreatDoor.LO Go.Proofs.YthdlibgiejpjeaaGreatDoor.LOPure

theorem shownA (w W : World) (hG : GW w) (hb : Bl w W) : Calls Tryz.prog 31 #[] W fun e w' => e = .returned (.bool true) ∧ Bl w w' := by
  obtain ⟨k, hk⟩ := shown_ev
  exact (scriptoriumlaw05_shown.calls k true W (hG.below hb) (hk k (Nat.le_refl _))).mono fun e w' ⟨he, h⟩ => ⟨he, hb.go h⟩
theorem ruleA (w W : World) (x : List UInt8) (b : Bool) (hG : GW w) (hb : Bl w W) (h : Ev (fun k => leaf_Rule.f k (mkB x)) b) : Calls Tryz.prog 32 #[.string (mkB x)] W fun e w' => e = .returned (.bool b) ∧ Bl w w' := by
  obtain ⟨k, hk⟩ := h
  exact (leaf_Rule.calls k _ b W (hG.below hb) (hk k (Nat.le_refl _))).mono fun e w' ⟨he, h⟩ => ⟨he, hb.go h⟩
theorem headA (w W : World) (x : List UInt8) (n : Int) (t : ByteArray) (hG : GW w) (hb : Bl w W) (h : Ev (fun k => leaf_Heading.f k (mkB x)) (n, t)) : Calls Tryz.prog 33 #[.string (mkB x)] W fun e w' => e = .returned (.tuple #[.int .i64 n, .string t]) ∧ Bl w w' := by
  obtain ⟨k, hk⟩ := h
  exact (leaf_Heading.calls k _ n t W (hG.below hb) (hk k (Nat.le_refl _))).mono fun e w' ⟨he, h⟩ => ⟨he, hb.go h⟩
theorem fenceA (w W : World) (x : List UInt8) (c n : Int) (t : ByteArray) (hG : GW w) (hb : Bl w W) (h : Ev (fun k => leaf_Fence.f k (mkB x)) (c, n, t)) : Calls Tryz.prog 34 #[.string (mkB x)] W fun e w' => e = .returned (.tuple #[.int .u8 c, .int .i64 n, .string t]) ∧ Bl w w' := by
  obtain ⟨k, hk⟩ := h
  exact (leaf_Fence.calls k _ c n t W (hG.below hb) (hk k (Nat.le_refl _))).mono fun e w' ⟨he, h⟩ => ⟨he, hb.go h⟩
theorem htmlA (w W : World) (x : List UInt8) (hG : GW w) (hb : Bl w W) (hx : x.length ≤ 1000000000) : Calls Tryz.prog 35 #[.string (mkB x)] W fun e w' => (∃ k : Nat, e = .returned (.int .i64 (k : Int)) ∧ k ≤ 7 ∧ (0 < k → x.head? = some 60)) ∧ Bl w w' :=
  (html_any W x hx (hG.below hb)).mono fun e w' ⟨k, he, h7, h0, h⟩ => ⟨⟨k, he, h7, h0⟩, hb.go h⟩
def LawP (w : World) (e : Ending) (w' : World) : Prop := e = .returned (.bool true) ∧ Below w.heap.size w w'

set_option maxHeartbeats 4000000 in
set_option maxRecDepth 1000000 in
theorem one_calls (x : List UInt8) (hx : x.length ≤ 2000000) (w : World) (hG : GW w) : Calls Tryz.prog 10 #[.string (mkB x)] w (LawP w) := by
  obtain ⟨b, hr, hr2⟩ := rule_any x (by omega)
  obtain ⟨n, t, hh, hn6, hh2⟩ := heading_any x (by omega)
  obtain ⟨c, f, u, hf, hf3, hf2⟩ := fence_any x (by omega)
  have hb0 : Bl w w := Below.refl _ w
  -- at most one of the three
  have hone : (b = false ∧ n = 0 ∧ f = 0) ∨ (b = true ∧ n = 0 ∧ f = 0 ∧ x.head? ≠ some 60) ∨ (b = false ∧ 0 < n ∧ f = 0 ∧ x.head? ≠ some 60) ∨ (b = false ∧ n = 0 ∧ 3 ≤ f ∧ x.head? ≠ some 60) := by
    cases b with
    | true =>
      obtain ⟨d, hd, hs⟩ := hr2 rfl
      have hn0 : n = 0 := by
        rcases Nat.eq_zero_or_pos n with h | h
        · exact h
        · have := (hh2 h).symm.trans hd
          rw [← Option.some.inj this] at hs; exact absurd hs (by unfold sign; decide)
      have hf0 : f = 0 := by
        rcases Nat.eq_zero_or_pos f with h | h
        · exact h
        · rcases hf2 h with h' | h'
          · have := h'.symm.trans hd
            rw [← Option.some.inj this] at hs; exact absurd hs (by unfold sign; decide)
          · have := h'.symm.trans hd
            rw [← Option.some.inj this] at hs; exact absurd hs (by unfold sign; decide)
      exact .inr (.inl ⟨rfl, hn0, hf0, fun h => by
        have := h.symm.trans hd
        rw [← Option.some.inj this] at hs; exact absurd hs (by unfold sign; decide)⟩)
    | false =>
      rcases Nat.eq_zero_or_pos n with h | h
      · rcases hf3 with h0 | h3
        · exact .inl ⟨rfl, h, h0⟩
        · exact .inr (.inr (.inr ⟨rfl, h, h3, fun h' => by
            rcases hf2 (by omega) with h2 | h2
            · exact absurd (h2.symm.trans h') (by decide)
            · exact absurd (h2.symm.trans h') (by decide)⟩))
      · have hd := hh2 h
        refine .inr (.inr (.inl ⟨rfl, h, ?_, fun h' => absurd (hd.symm.trans h') (by decide)⟩))
        rcases Nat.eq_zero_or_pos f with h0 | h0
        · exact h0
        · rcases hf2 h0 with h2 | h2
          · exact absurd (h2.symm.trans hd) (by decide)
          · exact absurd (h2.symm.trans hd) (by decide)
  have hr' := Lib.hid hr; clear hr hr2
  have hh' := Lib.hid hh; clear hh hh2
  have hf' := Lib.hid hf; clear hf hf2
  have hx' : x.length ≤ 1000000000 := by omega
  rcases hone with ⟨rfl, rfl, rfl⟩ | ⟨rfl, rfl, rfl, hne⟩ | ⟨rfl, hn, rfl, hne⟩ | ⟨rfl, rfl, hf, hne⟩
  all_goals go_enter Tryz.func10, Tryz.ntmps10
  all_goals go_wp2_with (first
    | (go_at_call 31; refine (shownA w _ hG (by assumption)).mono ?_; rintro e w' ⟨rfl, hb⟩)
    | (go_at_call 32; refine (ruleA w _ x _ hG (by assumption) hr'.out).mono ?_; rintro e w' ⟨rfl, hb⟩)
    | (go_at_call 33; refine (headA w _ x _ _ hG (by assumption) hh'.out).mono ?_; rintro e w' ⟨rfl, hb⟩)
    | (go_at_call 34; refine (fenceA w _ x _ _ _ hG (by assumption) hf'.out).mono ?_; rintro e w' ⟨rfl, hb⟩)
    | (go_at_call 35; refine (htmlA w _ x hG (by assumption) hx').mono ?_; rintro e w' ⟨⟨k, rfl, hk7, hk0⟩, hb⟩; rcases Nat.eq_zero_or_pos k with rfl | hkp))
  all_goals first
    | exact absurd (hk0 hkp) hne
    | (go_ret; exact ⟨rfl, by assumption⟩)
    | (go_ret; refine ⟨congrArg (fun b => Ending.returned (Value.bool b)) ?_, by assumption⟩; simp only [Bool.or_eq_true, decide_eq_true_eq]; right; omega)
    | trace_state
end Go.Proofs.YthdlibgiejpjeaaGreatDoor.LeafOne

