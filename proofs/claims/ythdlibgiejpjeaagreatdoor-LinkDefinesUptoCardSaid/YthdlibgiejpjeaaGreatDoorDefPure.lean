import Derived.Test.YthdlibgiejpjeaaGreatDoorLinkC
/- LinkFront's plain law: what is told is told by the bytes that it has. -/
set_option linter.unusedVariables false
set_option linter.unusedSimpArgs false
namespace Go.Proofs.YthdlibgiejpjeaaGreatDoor.Spec
open Go Go.Proofs.YthdlibgiejpjeaaGreatDoor Go.Proofs.YthdlibgiejpjeaaGreatDoor.Given
theorem untilS_front (fin stop b : List UInt8) : ∀ (l : List UInt8) (n : Nat), untilS fin stop l = some n → untilS fin stop (l.take (n + 1) ++ b) = some n
  | [], n, h => by simp [untilS] at h
  | [c], n, h => by
    rw [untilS] at h
    split at h
    · next hc => injection h with h; subst h; exact untilS_hit fin stop c b hc
    · cases h
  | c :: d :: r, n, h => by
    rw [untilS] at h
    split at h
    · next hc => injection h with h; subst h; exact untilS_hit fin stop c b hc
    · next hc =>
      split at h
      · cases h
      · next hs =>
        split at h
        · next h92 =>
          obtain ⟨m, hm, rfl⟩ := Option.map_eq_some_iff.1 h
          show untilS fin stop (c :: d :: (r.take (m + 1) ++ b)) = _
          rw [untilS, if_neg hc, if_neg hs, if_pos h92, untilS_front fin stop b r m hm]; rfl
        · next h92 =>
          obtain ⟨m, hm, rfl⟩ := Option.map_eq_some_iff.1 h
          have ih := untilS_front fin stop b (d :: r) m hm
          show untilS fin stop (c :: d :: (r.take m ++ b)) = _
          rw [untilS, if_neg hc, if_neg hs, if_neg h92]
          rw [show d :: (r.take m ++ b) = (d :: r).take (m + 1) ++ b from rfl, ih]; rfl
theorem label_front (l b : List UInt8) (h : 0 < (label l).2) : label (l.take (label l).2 ++ b) = label l ∧ (l.take ((label l).2 - 1)).drop 1 = (label l).1 := by
  cases l with
  | nil => exact absurd h (by decide)
  | cons c r =>
    by_cases hc : c = 91
    · subst hc
      have hL : ∀ r, label (91 :: r) = match untilS [93] [91] r with | none => ([], 0) | some n => if n ≤ 999 ∧ Fold.fold (r.take n) ≠ [] then (r.take n, n + 2) else ([], 0) := fun r => rfl
      rw [hL] at h ⊢
      cases hu : untilS [93] [91] r with
      | none => rw [hu] at h; exact absurd h (Nat.lt_irrefl 0)
      | some n =>
        rw [hu] at h
        dsimp only at h ⊢
        by_cases hn : n ≤ 999 ∧ Fold.fold (r.take n) ≠ []
        · rw [if_pos hn]
          have hf := untilS_front [93] [91] b r n hu
          have hlt := untilS_le _ _ r n hu
          refine ⟨?_, by simp⟩
          show label (91 :: (r.take (n + 1) ++ b)) = _
          rw [hL, hf]
          dsimp only
          have ht : (r.take (n + 1) ++ b).take n = r.take n := by
            rw [List.take_append_of_le_length (by rw [List.length_take]; omega), List.take_take, Nat.min_eq_left (by omega)]
          rw [ht, if_pos hn]
        · rw [if_neg hn] at h; exact absurd h (by decide)
    · have : label (c :: r) = ([], 0) := by show (if c = 91 then _ else _) = _; rw [if_neg hc]
      rw [this] at h; exact absurd h (by decide)
theorem titleG_front (l b : List UInt8) (h : 0 < (titleG l).2) : titleG (l.take (titleG l).2 ++ b) = titleG l := by
  cases l with
  | nil => exact absurd h (by decide)
  | cons c r =>
    cases he : titleEnd c with
    | none =>
      have : titleG (c :: r) = ([], 0) := by simp only [titleG, he]
      rw [this] at h; exact absurd h (by decide)
    | some p =>
      obtain ⟨fin, stop⟩ := p
      have hL : ∀ r, titleG (c :: r) = match untilS fin stop r with | none => ([], 0) | some n => if blankIn (lines (r.take n)) = true then ([], 0) else (unescape (r.take n), n + 2) := fun r => by simp only [titleG, he]; rfl
      rw [hL] at h ⊢
      cases hu : untilS fin stop r with
      | none => rw [hu] at h; exact absurd h (Nat.lt_irrefl 0)
      | some n =>
        rw [hu] at h
        dsimp only at h ⊢
        by_cases hn : blankIn (lines (r.take n)) = true
        · rw [if_pos hn] at h; exact absurd h (by decide)
        · rw [if_neg hn]
          have hf := untilS_front fin stop b r n hu
          have hlt := untilS_le _ _ r n hu
          show titleG (c :: (r.take (n + 1) ++ b)) = _
          rw [hL, hf]
          dsimp only
          have ht : (r.take (n + 1) ++ b).take n = r.take n := by
            rw [List.take_append_of_le_length (by rw [List.length_take]; omega), List.take_take, Nat.min_eq_left (by omega)]
          rw [ht, if_neg hn]
theorem bare_ge (l : List UInt8) (o n x y : Nat) (h : bare l o n = some (x, y)) : n ≤ y := by
  fun_induction bare l o n
  all_goals first
    | (cases h; done)
    | (simp only [Option.some.injEq, Prod.mk.injEq] at h; omega)
    | (rename_i ih; have := ih h; omega)
def esc (c : UInt8) (r : List UInt8) : Bool := c == 92 && (match r with | d :: _ => markC d | [] => false)
theorem bare_cons (c : UInt8) (r : List UInt8) (o n : Nat) : bare (c :: r) o n = if c ≤ 32 ∨ c = 127 then some (o, n) else if esc c r = true then bare (r.drop 1) o (n + 2)
    else if c = 40 then (if 32 < o + 1 then none else bare r (o + 1) (n + 1)) else if c = 41 then (if o = 0 then some (o, n) else bare r (o - 1) (n + 1)) else bare r o (n + 1) := by
  cases r with
  | nil =>
    have he : esc c [] = false := by unfold esc; simp
    rw [bare, he]; rfl
  | cons d s =>
    have he : (esc c (d :: s) = true) = (c = 92 ∧ markC d = true) := by unfold esc; simp
    rw [bare]
    simp only [he, List.drop_one, List.tail_cons]
theorem bare_front (t : List UInt8) (x y : Nat) (ht : bare t x y = some (x, y)) : ∀ (l : List UInt8) (o n : Nat), bare l o n = some (x, y) →
    (∀ d s, t = d :: s → markC d = true → ∃ s', l.drop (y - n) = d :: s') → bare (l.take (y - n) ++ t) o n = some (x, y) := by
  intro l
  induction hk : l.length using Nat.strongRecOn generalizing l with
  | _ k ih =>
    intro o n h hd
    have hge := bare_ge l o n x y h
    cases l with
    | nil =>
      rw [bare_nil] at h
      injection h with h; injection h with h1 h2; subst h1; subst h2
      rw [List.take_nil]; exact ht
    | cons c r =>
      subst hk
      rw [bare_cons] at h
      by_cases h1 : c ≤ 32 ∨ c = 127
      · rw [if_pos h1] at h
        injection h with h; injection h with h2 h3; subst h2; subst h3
        rw [Nat.sub_self]; exact ht
      rw [if_neg h1] at h
      have keep : ∀ m, y - n = m + 1 → esc c r = false → esc c (r.take m ++ t) = false := fun m hm he => by
        rw [hm] at hd
        cases m with
        | zero =>
          cases t with
          | nil => unfold esc; simp
          | cons d s =>
            by_cases hmk : markC d = true
            · obtain ⟨s', hs'⟩ := hd d s rfl hmk
              replace hs' : r = d :: s' := hs'
              rw [hs'] at he
              exact he
            · unfold esc; simp [hmk]
        | succ m =>
          cases r with
          | nil =>
            cases t with
            | nil => unfold esc; simp
            | cons d s =>
              by_cases hmk : markC d = true
              · obtain ⟨s', hs'⟩ := hd d s rfl hmk
                simp at hs'
              · unfold esc; simp [hmk]
          | cons d s => exact he
      by_cases he : esc c r = true
      · rw [if_pos he] at h
        cases r with
        | nil => unfold esc at he; simp at he
        | cons d s =>
          have hg := bare_ge _ _ _ _ _ h
          obtain ⟨m, hm⟩ : ∃ m, y - n = m + 2 := ⟨y - n - 2, by omega⟩
          have hm2 : y - (n + 2) = m := by omega
          have i := ih s.length (by simp only [List.length_cons]; omega) s rfl o (n + 2) h (fun d' s' h' hk' => by
            have := hd d' s' h' hk'
            rw [hm] at this; rw [hm2]; exact this)
          rw [hm2] at i
          rw [hm]
          show bare (c :: d :: (s.take m ++ t)) o n = _
          rw [bare_cons, if_neg h1, if_pos (show esc c (d :: (s.take m ++ t)) = true from he)]
          exact i
      rw [if_neg he] at h
      have hef : esc c r = false := by simpa using he
      have step : ∀ o', bare r o' (n + 1) = some (x, y) → ∃ m, y - n = m + 1 ∧ bare (r.take m ++ t) o' (n + 1) = some (x, y) := fun o' hb => by
        have hg := bare_ge _ _ _ _ _ hb
        obtain ⟨m, hm⟩ : ∃ m, y - n = m + 1 := ⟨y - n - 1, by omega⟩
        have hm2 : y - (n + 1) = m := by omega
        have i := ih r.length (by simp only [List.length_cons]; omega) r rfl o' (n + 1) hb (fun d' s' h' hk' => by
          have := hd d' s' h' hk'
          rw [hm] at this; rw [hm2]; exact this)
        rw [hm2] at i
        exact ⟨m, hm, i⟩
      by_cases h40 : c = 40
      · rw [if_pos h40] at h
        by_cases ho : 32 < o + 1
        · rw [if_pos ho] at h; cases h
        rw [if_neg ho] at h
        obtain ⟨m, hm, i⟩ := step _ h
        rw [hm]
        show bare (c :: (r.take m ++ t)) o n = _
        rw [bare_cons, if_neg h1, if_neg (by rw [keep m hm hef]; decide), if_pos h40, if_neg ho]; exact i
      rw [if_neg h40] at h
      by_cases h41 : c = 41
      · rw [if_pos h41] at h
        by_cases ho : o = 0
        · rw [if_pos ho] at h
          injection h with h; injection h with h2 h3; subst h2; subst h3
          rw [Nat.sub_self]; exact ht
        rw [if_neg ho] at h
        obtain ⟨m, hm, i⟩ := step _ h
        rw [hm]
        show bare (c :: (r.take m ++ t)) o n = _
        rw [bare_cons, if_neg h1, if_neg (by rw [keep m hm hef]; decide), if_neg h40, if_pos h41, if_neg ho]; exact i
      rw [if_neg h41] at h
      obtain ⟨m, hm, i⟩ := step _ h
      rw [hm]
      show bare (c :: (r.take m ++ t)) o n = _
      rw [bare_cons, if_neg h1, if_neg (by rw [keep m hm hef]; decide), if_neg h40, if_neg h41]; exact i
theorem dest_blank (l b : List UInt8) (h : 0 < (dest l).2) : dest (l.take (dest l).2 ++ 32 :: b) = dest l := by
  by_cases h60 : l.head? = some 60
  · cases l with
    | nil => cases h60
    | cons c r =>
      obtain rfl : c = 60 := by simpa using h60
      have hL : ∀ r, dest (60 :: r) = match untilS [62] [60, 10] r with | none => ([], 0) | some n => (unescape (r.take n), n + 2) := fun r => rfl
      rw [hL] at h ⊢
      cases hu : untilS [62] [60, 10] r with
      | none => rw [hu] at h; exact absurd h (Nat.lt_irrefl 0)
      | some n =>
        have hf := untilS_front [62] [60, 10] (32 :: b) r n hu
        have hlt := untilS_le _ _ r n hu
        show dest (60 :: (r.take (n + 1) ++ 32 :: b)) = _
        rw [hL, hf]
        dsimp only
        have ht : (r.take (n + 1) ++ 32 :: b).take n = r.take n := by
          rw [List.take_append_of_le_length (by rw [List.length_take]; omega), List.take_take, Nat.min_eq_left (by omega)]
        rw [ht]
  · rw [dest_eq l h60] at h ⊢
    cases hb : bare l 0 0 with
    | none => rw [hb] at h; exact absurd h (Nat.lt_irrefl 0)
    | some p =>
      obtain ⟨o, n⟩ := p
      rw [hb] at h
      have hle := bare_le l 0 0 o n hb
      have hno : ¬ (n = 0 ∨ 0 < o) := fun hc => by
        have : destOf (some (o, n)) l = ([], 0) := by show (if n = 0 ∨ 0 < o then _ else _) = _; rw [if_pos hc]
        rw [this] at h; exact Nat.lt_irrefl 0 h
      have hD : destOf (some (o, n)) l = (unescape (l.take n), n) := by show (if n = 0 ∨ 0 < o then _ else _) = _; rw [if_neg hno]
      rw [hD]
      have hf := bare_front (32 :: b) o n (bare_stop 32 b o n (.inl (by decide))) l 0 0 hb (fun d s hd hm => by injection hd with hd _; subst hd; exact absurd hm (by decide))
      rw [Nat.sub_zero] at hf
      have hh : (l.take n ++ 32 :: b).head? ≠ some 60 := by
        cases l with
        | nil => simp at hle; omega
        | cons c r =>
          obtain ⟨m, rfl⟩ : ∃ m, n = m + 1 := ⟨n - 1, by omega⟩
          exact h60
      show dest (l.take n ++ 32 :: b) = _
      rw [dest_eq _ hh, hf]
      show (if n = 0 ∨ 0 < o then _ else _) = _
      rw [if_neg hno, List.take_append_of_le_length (by rw [List.length_take]; omega), List.take_take, Nat.min_self]
end Go.Proofs.YthdlibgiejpjeaaGreatDoor.Spec

/- LinkFront's plain law: a definition is told by the bytes that it has. -/
set_option linter.unusedVariables false
set_option linter.unusedSimpArgs false
namespace Go.Proofs.YthdlibgiejpjeaaGreatDoor.Spec
open Go Go.Proofs.YthdlibgiejpjeaaGreatDoor Go.Proofs.YthdlibgiejpjeaaGreatDoor.Given
theorem strip1_take (l : List UInt8) (p : Nat) : strip1 (l.take p) = (strip1 l).take (p - (l.length - (strip1 l).length)) := by
  have h32 : ∀ r : List UInt8, strip1 (32 :: r) = r := fun r => by unfold strip1 Lib.trimPrefix; rw [if_pos (by show [32].isPrefixOf (32 :: r) = true; simp [List.isPrefixOf])]; rfl
  have hno : ∀ (c : UInt8) (r : List UInt8), c ≠ 32 → strip1 (c :: r) = c :: r := fun c r hc => by
    unfold strip1 Lib.trimPrefix
    rw [if_neg (by show ¬ [32].isPrefixOf (c :: r) = true; simp [List.isPrefixOf]; exact fun h => hc h.symm)]
  have hnil : strip1 [] = [] := rfl
  cases l with
  | nil => rw [List.take_nil, hnil, List.take_nil]
  | cons c r =>
    by_cases hc : c = 32
    · subst hc
      rw [h32]
      cases p with
      | zero => simp [hnil]
      | succ p =>
        rw [List.take_succ_cons, h32]
        congr 1
        simp only [List.length_cons]; omega
    · rw [hno c r hc, Nat.sub_self, Nat.sub_zero]
      cases p with
      | zero => exact hnil
      | succ p => rw [List.take_succ_cons, hno c _ hc]
theorem trimBT_cons (c : UInt8) (r : List UInt8) : trimBT (c :: r) = if ([32, 9] : List UInt8).contains c = true then trimBT r else c :: r := by
  unfold trimBT; rw [List.dropWhile_cons]
theorem trimBT_take (l : List UInt8) : ∀ (p : Nat), trimBT (l.take p) = (trimBT l).take (p - (l.length - (trimBT l).length)) := by
  induction l with
  | nil =>
    intro p
    have hn : trimBT [] = [] := rfl
    rw [List.take_nil, hn, List.take_nil]
  | cons c r ih =>
    intro p
    have hle := trimBT_len r
    rw [trimBT_cons]
    by_cases hc : ([32, 9] : List UInt8).contains c = true
    · rw [if_pos hc]
      cases p with
      | zero => simp; rfl
      | succ p =>
        rw [List.take_succ_cons, trimBT_cons, if_pos hc, ih p]
        congr 1
        simp only [List.length_cons]; omega
    · rw [if_neg hc, Nat.sub_self, Nat.sub_zero]
      cases p with
      | zero => rfl
      | succ p => rw [List.take_succ_cons, trimBT_cons, if_neg hc]
theorem gapRest_take (l : List UInt8) (p : Nat) : gapRest (l.take p) = (gapRest l).take (p - (l.length - (gapRest l).length)) := by
  have ht := trimBT_take l p
  have hle := trimBT_len l
  rcases head_lf (trimBT l) with h | ⟨t, h⟩
  · rw [gapRest_no l h, gapRest_no _ (by
      rw [ht]
      cases hz : trimBT l with
      | nil => simp
      | cons c r =>
        rw [hz] at h
        generalize p - _ = m
        cases m with
        | zero => simp
        | succ m => rw [List.take_succ_cons]; exact h), ht]
  · rw [gapRest_lf l t h]
    rw [h] at ht hle
    have hlt := trimBT_len t
    simp only [List.length_cons] at ht hle
    generalize hm : p - (l.length - (t.length + 1)) = m at ht
    cases m with
    | zero =>
      rw [gapRest_no _ (by rw [ht]; simp), ht, show p - (l.length - (trimBT t).length) = 0 by omega]; rfl
    | succ m =>
      rw [List.take_succ_cons] at ht
      rw [gapRest_lf _ _ ht, trimBT_take t m]
      congr 1; omega
theorem lineS_take (l : List UInt8) (h : (lineS l).2 = true) : lineS (l.take (l.length - (lineS l).1.length)) = ([], true) ∧ gapRest (l.take (l.length - (lineS l).1.length)) = [] := by
  have hle := trimBT_len l
  rcases head_lf (trimBT l) with h10 | ⟨t, ht⟩
  · rw [lineS_no l h10] at h ⊢
    have he : trimBT l = [] := List.isEmpty_iff.1 h
    rw [he]
    show lineS (l.take (l.length - 0)) = _ ∧ gapRest (l.take (l.length - 0)) = _
    rw [Nat.sub_zero, List.take_length, lineS_no l h10, he, gapRest_no l h10, he]
    exact ⟨rfl, rfl⟩
  · rw [lineS_lf l t ht]
    show lineS (l.take (l.length - t.length)) = _ ∧ gapRest (l.take (l.length - t.length)) = _
    have hk := trimBT_take l (l.length - t.length)
    rw [ht] at hk hle
    simp only [List.length_cons] at hk hle
    rw [show l.length - t.length - (l.length - (t.length + 1)) = 1 by omega, List.take_succ_cons, List.take_zero] at hk
    rw [lineS_lf _ [] hk, gapRest_lf _ [] hk]
    exact ⟨rfl, rfl⟩
/-- Where a place ends: at the text's end, or a byte that ends it. -/
theorem bare_end (l : List UInt8) (o n x y : Nat) (h : bare l o n = some (x, y)) : l.drop (y - n) = [] ∨ ∃ c r, l.drop (y - n) = c :: r ∧ (c ≤ 32 ∨ c = 127 ∨ (c = 41 ∧ x = 0)) := by
  induction hk : l.length using Nat.strongRecOn generalizing l o n with
  | _ k ih =>
    subst hk
    have hge := bare_ge l o n x y h
    cases l with
    | nil => exact .inl (by simp)
    | cons c r =>
      rw [bare_cons] at h
      by_cases h1 : c ≤ 32 ∨ c = 127
      · rw [if_pos h1] at h
        injection h with h; injection h with h2 h3; subst h2; subst h3
        exact .inr ⟨c, r, by rw [Nat.sub_self]; rfl, by rcases h1 with h | h; exact .inl h; exact .inr (.inl h)⟩
      rw [if_neg h1] at h
      by_cases he : esc c r = true
      · rw [if_pos he] at h
        have hg := bare_ge _ _ _ _ _ h
        have i := ih (r.drop 1).length (by rw [List.length_drop]; simp only [List.length_cons]; omega) (r.drop 1) o (n + 2) h rfl
        rw [List.drop_drop] at i
        have e : (c :: r).drop (y - n) = r.drop (1 + (y - (n + 2))) := by rw [show y - n = (1 + (y - (n + 2))) + 1 by omega]; rfl
        rw [e]; exact i
      rw [if_neg he] at h
      have step : ∀ o', bare r o' (n + 1) = some (x, y) → (c :: r).drop (y - n) = [] ∨ ∃ c' r', (c :: r).drop (y - n) = c' :: r' ∧ (c' ≤ 32 ∨ c' = 127 ∨ (c' = 41 ∧ x = 0)) := fun o' hb => by
        have hg := bare_ge _ _ _ _ _ hb
        have i := ih r.length (by simp only [List.length_cons]; omega) r o' (n + 1) hb rfl
        have e : (c :: r).drop (y - n) = r.drop (y - (n + 1)) := by rw [show y - n = (y - (n + 1)) + 1 by omega]; rfl
        rw [e]; exact i
      by_cases h40 : c = 40
      · rw [if_pos h40] at h
        by_cases ho : 32 < o + 1
        · rw [if_pos ho] at h; cases h
        rw [if_neg ho] at h; exact step _ h
      rw [if_neg h40] at h
      by_cases h41 : c = 41
      · rw [if_pos h41] at h
        by_cases ho : o = 0
        · rw [if_pos ho] at h
          injection h with h; injection h with h2 h3; subst h2; subst h3
          exact .inr ⟨c, r, by rw [Nat.sub_self]; rfl, .inr (.inr ⟨h41, ho⟩)⟩
        rw [if_neg ho] at h; exact step _ h
      rw [if_neg h41] at h; exact step _ h
theorem label_take (l : List UInt8) (p : Nat) (h : 0 < (label l).2) (hp : (label l).2 ≤ p) : label (l.take p) = label l := by
  have := (label_front l ((l.drop (label l).2).take (p - (label l).2)) h).1
  rwa [← List.take_add, Nat.add_sub_cancel' hp] at this
theorem titleG_take (l : List UInt8) (p : Nat) (h : 0 < (titleG l).2) (hp : (titleG l).2 ≤ p) : titleG (l.take p) = titleG l := by
  have := titleG_front l ((l.drop (titleG l).2).take (p - (titleG l).2)) h
  rwa [← List.take_add, Nat.add_sub_cancel' hp] at this
theorem dest_take (l : List UInt8) (p : Nat) (h : 0 < (dest l).2) (hp : (dest l).2 ≤ p) : dest (l.take p) = dest l := by
  by_cases h60 : l.head? = some 60
  · cases l with
    | nil => cases h60
    | cons c r =>
      obtain rfl : c = 60 := by simpa using h60
      have hL : ∀ r, dest (60 :: r) = match untilS [62] [60, 10] r with | none => ([], 0) | some n => (unescape (r.take n), n + 2) := fun r => rfl
      rw [hL] at h hp ⊢
      cases hu : untilS [62] [60, 10] r with
      | none => rw [hu] at h; exact absurd h (Nat.lt_irrefl 0)
      | some n =>
        rw [hu] at hp
        replace hp : n + 2 ≤ p := hp
        obtain ⟨q, rfl⟩ : ∃ q, p = q + 1 := ⟨p - 1, by omega⟩
        have hf := untilS_front [62] [60, 10] ((r.drop (n + 1)).take (q - (n + 1))) r n hu
        rw [← List.take_add, Nat.add_sub_cancel' (by omega)] at hf
        rw [List.take_succ_cons, hL, hf]
        dsimp only
        rw [List.take_take, Nat.min_eq_left (by omega)]
  · rw [dest_eq l h60] at h hp ⊢
    cases hb : bare l 0 0 with
    | none => rw [hb] at h; exact absurd h (Nat.lt_irrefl 0)
    | some pr =>
      obtain ⟨o, n⟩ := pr
      rw [hb] at h hp
      have hle := bare_le l 0 0 o n hb
      have hno : ¬ (n = 0 ∨ 0 < o) := fun hc => by
        have : destOf (some (o, n)) l = ([], 0) := by show (if n = 0 ∨ 0 < o then _ else _) = _; rw [if_pos hc]
        rw [this] at h; exact Nat.lt_irrefl 0 h
      have hD : destOf (some (o, n)) l = (unescape (l.take n), n) := by show (if n = 0 ∨ 0 < o then _ else _) = _; rw [if_neg hno]
      rw [hD] at hp ⊢
      replace hp : n ≤ p := hp
      have hend := bare_end l 0 0 o n hb
      rw [Nat.sub_zero] at hend
      have ht : bare ((l.drop n).take (p - n)) o n = some (o, n) := by
        rcases hend with he | ⟨c, r, he, hc⟩
        · rw [he, List.take_nil]; exact bare_nil o n
        · rw [he]
          generalize p - n = m
          cases m with
          | zero => exact bare_nil o n
          | succ m =>
            rw [List.take_succ_cons, bare_cons]
            rcases hc with hc | hc | ⟨rfl, hc⟩
            · rw [if_pos (.inl hc)]
            · rw [if_pos (.inr hc)]
            · rw [if_neg (by decide), if_neg (by unfold esc; simp), if_neg (by decide), if_pos rfl, if_pos hc]
      have hf := bare_front _ o n ht l 0 0 hb (fun d s hd hm => by
        rw [Nat.sub_zero]
        cases hz : l.drop n with
        | nil => rw [hz, List.take_nil] at hd; cases hd
        | cons d' s' =>
          rw [hz] at hd
          generalize p - n = m at hd
          cases m with
          | zero => cases hd
          | succ m => rw [List.take_succ_cons] at hd; injection hd with hd _; subst hd; exact ⟨s', rfl⟩)
      rw [Nat.sub_zero, ← List.take_add, Nat.add_sub_cancel' hp] at hf
      have hh : (l.take p).head? ≠ some 60 := by
        cases l with
        | nil => simp
        | cons c r =>
          obtain ⟨m, rfl⟩ : ∃ m, p = m + 1 := ⟨p - 1, by omega⟩
          exact h60
      rw [dest_eq _ hh, hf]
      show (if n = 0 ∨ 0 < o then _ else _) = _
      rw [if_neg hno, List.take_take, Nat.min_eq_left hp]
end Go.Proofs.YthdlibgiejpjeaaGreatDoor.Spec

/- LinkFront's plain law: a definition is the same where the text ends behind it. -/
set_option linter.unusedVariables false
set_option linter.unusedSimpArgs false
namespace Go.Proofs.YthdlibgiejpjeaaGreatDoor.Spec
open Go Go.Proofs.YthdlibgiejpjeaaGreatDoor Go.Proofs.YthdlibgiejpjeaaGreatDoor.Given
/-- What stands behind the place. -/
def defTail (F D z : List UInt8) (len : Nat) : List UInt8 × List UInt8 × List UInt8 × Nat :=
  if 0 < z.length - (gapRest z).length ∧ 0 < (titleG (gapRest z)).2 ∧ (lineS ((gapRest z).drop (titleG (gapRest z)).2)).2 = true then (F, D, (titleG (gapRest z)).1, len - (lineS ((gapRest z).drop (titleG (gapRest z)).2)).1.length)
  else if (lineS z).2 = true then (F, D, [], len - (lineS z).1.length)
  else ([], [], [], 0)
def defGo (x : List UInt8) (len : Nat) : List UInt8 × List UInt8 × List UInt8 × Nat :=
  if (label x).2 = 0 then ([], [], [], 0)
  else if Lib.hasPrefix (x.drop (label x).2) [58] = false then ([], [], [], 0)
  else if (dest (gapRest (x.drop ((label x).2 + 1)))).2 = 0 then ([], [], [], 0)
  else defTail (Fold.fold (label x).1) (dest (gapRest (x.drop ((label x).2 + 1)))).1 ((gapRest (x.drop ((label x).2 + 1))).drop (dest (gapRest (x.drop ((label x).2 + 1)))).2) len
theorem defineS_go (l : List UInt8) : defineS l = defGo (strip1 (strip1 (strip1 l))) l.length := rfl
theorem defTail_cut (F D z : List UInt8) (len : Nat) (h : 0 < (defTail F D z len).2.2.2) : ∃ e, e ≤ z.length ∧ (defTail F D z len).2.2.2 = len - e ∧ defTail F D (z.take (z.length - e)) (len - e) = defTail F D z len := by
  have lq := gapRest_len z
  by_cases c4 : 0 < z.length - (gapRest z).length ∧ 0 < (titleG (gapRest z)).2 ∧ (lineS ((gapRest z).drop (titleG (gapRest z)).2)).2 = true
  · have hA : defTail F D z len = (F, D, (titleG (gapRest z)).1, len - (lineS ((gapRest z).drop (titleG (gapRest z)).2)).1.length) := by unfold defTail; rw [if_pos c4]
    have hls := lineS_len ((gapRest z).drop (titleG (gapRest z)).2)
    have hsl : ((gapRest z).drop (titleG (gapRest z)).2).length = (gapRest z).length - (titleG (gapRest z)).2 := List.length_drop
    have htl := titleG_le (gapRest z)
    obtain ⟨t1, -⟩ := lineS_take _ c4.2.2
    refine ⟨(lineS ((gapRest z).drop (titleG (gapRest z)).2)).1.length, by omega, by rw [hA], ?_⟩
    rw [hA]
    have hg := gapRest_take z (z.length - (lineS ((gapRest z).drop (titleG (gapRest z)).2)).1.length)
    generalize he : (lineS ((gapRest z).drop (titleG (gapRest z)).2)).1.length = e at *
    rw [show z.length - e - (z.length - (gapRest z).length) = (gapRest z).length - e by omega] at hg
    have htt := titleG_take (gapRest z) ((gapRest z).length - e) c4.2.1 (by omega)
    have hd : ((gapRest z).take ((gapRest z).length - e)).drop (titleG (gapRest z)).2 = ((gapRest z).drop (titleG (gapRest z)).2).take (((gapRest z).drop (titleG (gapRest z)).2).length - e) := by
      rw [List.drop_take, hsl]; congr 1; omega
    unfold defTail
    rw [hg, htt, hd, t1]
    rw [if_pos ⟨by rw [List.length_take, List.length_take]; omega, c4.2.1, rfl⟩]
    rfl
  · have hB : defTail F D z len = if (lineS z).2 = true then (F, D, [], len - (lineS z).1.length) else ([], [], [], 0) := by unfold defTail; rw [if_neg c4]
    by_cases c5 : (lineS z).2 = true
    · rw [if_pos c5] at hB
      have hls := lineS_len z
      obtain ⟨t1, t2⟩ := lineS_take z c5
      refine ⟨(lineS z).1.length, hls, by rw [hB], ?_⟩
      rw [hB]
      unfold defTail
      rw [t2, t1, if_neg (by rintro ⟨_, h, _⟩; exact absurd h (by decide)), if_pos rfl]
      rfl
    · rw [if_neg c5] at hB
      rw [hB] at h; exact absurd h (Nat.lt_irrefl 0)
theorem defGo_cut (x : List UInt8) (len : Nat) (hxl : x.length ≤ len) (h : 0 < (defGo x len).2.2.2) : ∃ e, e ≤ x.length ∧ (defGo x len).2.2.2 = len - e ∧ defGo (x.take (x.length - e)) (len - e) = defGo x len ∧ 0 < (label x).2 ∧ (defGo x len).1 = Fold.fold (label x).1 := by
  by_cases c1 : (label x).2 = 0
  · have : defGo x len = ([], [], [], 0) := by unfold defGo; rw [if_pos c1]
    rw [this] at h; exact absurd h (Nat.lt_irrefl 0)
  by_cases c2 : Lib.hasPrefix (x.drop (label x).2) [58] = false
  · have : defGo x len = ([], [], [], 0) := by unfold defGo; rw [if_neg c1, if_pos c2]
    rw [this] at h; exact absurd h (Nat.lt_irrefl 0)
  by_cases c3 : (dest (gapRest (x.drop ((label x).2 + 1)))).2 = 0
  · have : defGo x len = ([], [], [], 0) := by unfold defGo; rw [if_neg c1, if_neg c2, if_pos c3]
    rw [this] at h; exact absurd h (Nat.lt_irrefl 0)
  obtain ⟨r, hr⟩ : ∃ r, x.drop ((label x).2 + 1) = r := ⟨_, rfl⟩
  obtain ⟨y, hy⟩ : ∃ y, gapRest r = y := ⟨_, rfl⟩
  obtain ⟨z, hz⟩ : ∃ z, y.drop (dest y).2 = z := ⟨_, rfl⟩
  have hD : defGo x len = defTail (Fold.fold (label x).1) (dest y).1 z len := by
    unfold defGo; rw [if_neg c1, if_neg c2, if_neg c3, hr, hy, hz]
  rw [hD] at h
  obtain ⟨e, he, hn, ht⟩ := defTail_cut _ _ _ _ h
  have c2' : Lib.hasPrefix (x.drop (label x).2) [58] = true := by simpa using c2
  obtain ⟨s, hs⟩ := List.isPrefixOf_iff_prefix.1 c2'
  have hp : ([58] : List UInt8).length ≤ (x.drop (label x).2).length := (List.isPrefixOf_iff_prefix.1 c2').length_le
  rw [List.length_drop] at hp
  replace hp : 1 ≤ x.length - (label x).2 := hp
  have lr : r.length = x.length - ((label x).2 + 1) := by rw [← hr, List.length_drop]
  have ly := gapRest_len r
  rw [hy] at ly
  have lz : z.length = y.length - (dest y).2 := by rw [← hz, List.length_drop]
  have ld := dest_le y
  rw [hr, hy] at c3
  have hlab := label_take x (x.length - e) (by omega) (by omega)
  have hrt : (x.take (x.length - e)).drop ((label x).2 + 1) = r.take (r.length - e) := by
    rw [List.drop_take, hr]; congr 1; omega
  have hyt : gapRest (r.take (r.length - e)) = y.take (y.length - e) := by
    rw [gapRest_take, hy]; congr 1; omega
  have hdt := dest_take y (y.length - e) (by omega) (by omega)
  have hzt : (y.take (y.length - e)).drop (dest y).2 = z.take (z.length - e) := by
    rw [List.drop_take, hz]; congr 1; omega
  have hpt : Lib.hasPrefix ((x.take (x.length - e)).drop (label x).2) [58] = true := by
    rw [List.drop_take, ← hs]
    obtain ⟨m, hm⟩ : ∃ m, x.length - e - (label x).2 = m + 1 := ⟨x.length - e - (label x).2 - 1, by omega⟩
    rw [hm]
    show List.isPrefixOf [58] (58 :: s.take m) = true
    simp [List.isPrefixOf]
  have hfst : (defTail (Fold.fold (label x).1) (dest y).1 z len).1 = Fold.fold (label x).1 := by
    revert h
    unfold defTail
    repeat' split
    · intro _; rfl
    · intro _; rfl
    · intro h; exact absurd h (Nat.lt_irrefl 0)
  refine ⟨e, by omega, by rw [hD, hn], ?_, by omega, by rw [hD, hfst]⟩
  rw [hD, ← ht]
  unfold defGo
  rw [hlab, if_neg c1, if_neg (by rw [hpt]; decide), hrt, hyt, hdt, if_neg c3, hzt]
theorem label_fold (l : List UInt8) (h : 0 < (label l).2) : Fold.fold (label l).1 ≠ [] := by
  cases l with
  | nil => exact absurd h (by decide)
  | cons c r =>
    by_cases hc : c = 91
    · subst hc
      have hL : label (91 :: r) = match untilS [93] [91] r with | none => ([], 0) | some n => if n ≤ 999 ∧ Fold.fold (r.take n) ≠ [] then (r.take n, n + 2) else ([], 0) := rfl
      rw [hL] at h ⊢
      cases hu : untilS [93] [91] r with
      | none => rw [hu] at h; exact absurd h (Nat.lt_irrefl 0)
      | some n =>
        rw [hu] at h
        dsimp only at h ⊢
        by_cases hn : n ≤ 999 ∧ Fold.fold (r.take n) ≠ []
        · rw [if_pos hn]; exact hn.2
        · rw [if_neg hn] at h; exact absurd h (by decide)
    · have : label (c :: r) = ([], 0) := by show (if c = 91 then _ else _) = _; rw [if_neg hc]
      rw [this] at h; exact absurd h (by decide)
/-- A definition is the same where the text ends behind it; it is no longer than the text; its label is a folded one and not empty. -/
theorem define_take (l : List UInt8) (h : 0 < (defineS l).2.2.2) : defineS (l.take (defineS l).2.2.2) = defineS l ∧ (defineS l).2.2.2 ≤ l.length ∧ ∃ t, (defineS l).1 = Fold.fold t ∧ Fold.fold t ≠ [] := by
  have l1 := strip1_len l
  have l2 := strip1_len (strip1 l)
  have l3 := strip1_len (strip1 (strip1 l))
  have hgo := defineS_go l
  rw [hgo] at h ⊢
  obtain ⟨e, he, hn, ht, hl, hf⟩ := defGo_cut _ l.length (by omega) h
  rw [hn]
  refine ⟨?_, by omega, _, hf, label_fold _ hl⟩
  rw [defineS_go, strip1_take, strip1_take, strip1_take, ← ht]
  have e1 : l.length - e - (l.length - (strip1 l).length) - ((strip1 l).length - (strip1 (strip1 l)).length) - ((strip1 (strip1 l)).length - (strip1 (strip1 (strip1 l))).length) = (strip1 (strip1 (strip1 l))).length - e := by omega
  rw [e1, List.length_take, Nat.min_eq_left (by omega)]
end Go.Proofs.YthdlibgiejpjeaaGreatDoor.Spec

/- LinkDefines' plain law: a definition that is written is read as it was written. -/
set_option linter.unusedVariables false
set_option linter.unusedSimpArgs false
namespace Go.Proofs.YthdlibgiejpjeaaGreatDoor.Spec
open Go Go.Proofs.YthdlibgiejpjeaaGreatDoor Go.Proofs.YthdlibgiejpjeaaGreatDoor.Given Go.Proofs.YthdlibgiejpjeaaGreatDoor.MorePure Go.Proofs.YthdlibgiejpjeaaGreatDoor.PureAid
/-- The bytes that mean themselves everywhere. -/
def plainC (c : UInt8) : Bool := (97 ≤ c && c ≤ 122) || (48 ≤ c && c ≤ 57) || 128 ≤ c
def PL (l : List UInt8) : Prop := ∀ c ∈ l, plainC c = true
theorem plain_not : ∀ c : UInt8, plainC c = true → c ≠ 10 ∧ c ≠ 92 ∧ c ≠ 38 ∧ c ≠ 40 ∧ c ≠ 41 ∧ c ≠ 34 ∧ c ≠ 39 ∧ c ≠ 60 ∧ c ≠ 62 ∧ c ≠ 91 ∧ c ≠ 93 ∧ ¬ (c ≤ 32 ∨ c = 127) :=
  all_bytes (by decide +kernel)
theorem unescape_pl (l : List UInt8) (h : PL l) : unescape l = l := unescape_plain l fun c hc => ⟨(plain_not c (h c hc)).2.1, (plain_not c (h c hc)).2.2.1⟩
theorem until_plain (fin stop : List UInt8) (d : UInt8) (r : List UInt8) (hf : ∀ c, plainC c = true → fin.contains c = false ∧ stop.contains c = false) (hd : fin.contains d = true) :
    ∀ l : List UInt8, PL l → untilS fin stop (l ++ d :: r) = some l.length
  | [], _ => untilS_hit fin stop d r hd
  | c :: l, h => by
    have ih := until_plain fin stop d r hf hd l fun x hx => h x (List.mem_cons_of_mem _ hx)
    have hc := h c List.mem_cons_self
    show untilS fin stop (c :: (l ++ d :: r)) = _
    rw [untilS_step fin stop c _ (hf c hc).1 (hf c hc).2 (fun d s _ hx => (plain_not c hc).2.1 hx.1), ih]; rfl
theorem bare_plain (rest : List UInt8) : ∀ (d : List UInt8) (o n : Nat), PL d → bare (d ++ rest) o n = bare rest o (n + d.length)
  | [], o, n, _ => rfl
  | c :: d, o, n, h => by
    have hc := plain_not c (h c List.mem_cons_self)
    show bare (c :: (d ++ rest)) o n = _
    rw [bare_cons, if_neg hc.2.2.2.2.2.2.2.2.2.2.2, if_neg (by unfold esc; simp [hc.2.1]), if_neg hc.2.2.2.1, if_neg hc.2.2.2.2.1, bare_plain rest d o (n + 1) fun x hx => h x (List.mem_cons_of_mem _ hx)]
    congr 1
    simp only [List.length_cons]; omega
def stopAt (E : List UInt8) : Prop := E = [] ∨ ∃ c r, E = c :: r ∧ c ≤ 32
theorem dest_plain (d E : List UInt8) (hd : PL d) (hne : d ≠ []) (hE : stopAt E) : dest (d ++ E) = (d, d.length) := by
  have hb : bare (d ++ E) 0 0 = some (0, d.length) := by
    rw [bare_plain E d 0 0 hd, Nat.zero_add]
    rcases hE with rfl | ⟨c, r, rfl, hc⟩
    · exact bare_nil _ _
    · exact bare_stop c r _ _ (.inl hc)
  have hh : (d ++ E).head? ≠ some 60 := by
    cases d with
    | nil => exact absurd rfl hne
    | cons c r =>
      have := (plain_not c (hd c List.mem_cons_self)).2.2.2.2.2.2.2.1
      simpa using this
  have hl : d.length ≠ 0 := fun e => hne (List.eq_nil_of_length_eq_zero e)
  rw [dest_eq _ hh, hb]
  show (if d.length = 0 ∨ 0 < 0 then _ else _) = _
  rw [if_neg (by omega), List.take_left, unescape_pl d hd]
theorem dest_angled (d E : List UInt8) (hd : PL d) : dest (60 :: (d ++ 62 :: E)) = (d, d.length + 2) := by
  have hu := until_plain [62] [60, 10] 62 E (fun c hc => by
    have h := plain_not c hc
    simp [h.1, h.2.2.2.2.2.2.2.1, h.2.2.2.2.2.2.2.2.1]) (by decide) d hd
  show (match untilS [62] [60, 10] (d ++ 62 :: E) with | none => ([], 0) | some n => (unescape ((d ++ 62 :: E).take n), n + 2)) = _
  rw [hu]
  show (unescape ((d ++ 62 :: E).take d.length), _) = _
  rw [List.take_left, unescape_pl d hd]
theorem index_nolf (t : List UInt8) (h : t.contains 10 = false) : Lib.indexB (mkB t) ⟨#[10]⟩ = -1 := by
  show Lib.index t [10] = -1
  rw [Lib.index_one]
  have h1 := Lib.contains_iff_indexByte t 10
  rw [h] at h1
  have h2 := Lib.indexByte_ge t 10
  have h3 : ¬ 0 ≤ Lib.indexByte t 10 := by simpa using h1.symm
  omega
theorem lines_one (t : List UInt8) (h : t.contains 10 = false) : blankIn (lines t) = false := by
  have hl := lines_len t
  rw [Lib.countB_miss _ _ (index_nolf t h)] at hl
  obtain ⟨a, ha⟩ : ∃ a, lines t = [a] := by
    match lines t, hl with
    | [a], _ => exact ⟨a, rfl⟩
  rw [ha]; rfl
theorem titleG_plain (c fin : UInt8) (stop : List UInt8) (he : titleEnd c = some ([fin], stop)) (hf : ∀ x, plainC x = true → ([fin] : List UInt8).contains x = false ∧ stop.contains x = false) (t E : List UInt8) (ht : PL t) :
    titleG (c :: (t ++ fin :: E)) = (t, t.length + 2) := by
  have hu := until_plain [fin] stop fin E hf (by simp) t ht
  have h10 : t.contains 10 = false := by
    rw [Bool.eq_false_iff]
    intro h
    exact (plain_not 10 (ht 10 (List.contains_iff_mem.1 h))).1 rfl
  simp only [titleG, he, hu]
  rw [List.take_left, if_neg (by rw [lines_one t h10]; decide), unescape_pl t ht]
theorem label_plain (p E : List UInt8) (hp : PL p) (hl : p.length ≤ 998) : label (91 :: ((108 :: p) ++ 93 :: E)) = (108 :: p, p.length + 3) := by
  have hpl : PL (108 :: p) := fun c hc => by
    rcases List.mem_cons.1 hc with rfl | hc
    · decide
    · exact hp c hc
  have hu := until_plain [93] [91] 93 E (fun c hc => by
    have h := plain_not c hc
    simp [h.2.2.2.2.2.2.2.2.2.1, h.2.2.2.2.2.2.2.2.2.2.1]) (by decide) (108 :: p) hpl
  have hL : ∀ r, label (91 :: r) = match untilS [93] [91] r with | none => ([], 0) | some n => if n ≤ 999 ∧ Fold.fold (r.take n) ≠ [] then (r.take n, n + 2) else ([], 0) := fun r => rfl
  rw [hL, hu]
  dsimp only
  rw [List.take_left, if_pos ⟨by simp only [List.length_cons]; omega, Fold.fold_ne 108 p (by decide) (by decide)⟩]
  rfl
theorem strip1_blank (r : List UInt8) : strip1 (32 :: r) = r := by unfold strip1 Lib.trimPrefix; rw [if_pos (by show [32].isPrefixOf (32 :: r) = true; simp [List.isPrefixOf])]; rfl
theorem strip1_br (r : List UInt8) : strip1 (91 :: r) = 91 :: r := by
  unfold strip1 Lib.trimPrefix
  rw [if_neg (by show ¬ [32].isPrefixOf (91 :: r) = true; simp [List.isPrefixOf])]
def pick (L : List (List UInt8)) (i : Nat) : List UInt8 := L.getD i []
def front : List (List UInt8) := [[], [32], [32, 32, 32]]
def gap1 : List (List UInt8) := [[], [32], [10], [32, 9, 10, 32, 32]]
def gap2 : List (List UInt8) := [[32], [10], [9, 32, 10, 32]]
def ends : List (List UInt8) := [[], [32], [32, 9]]
def places (d : List UInt8) : List (List UInt8) := [d, 60 :: (d ++ [62])]
def titles (t : List UInt8) : List (List UInt8) := [34 :: (t ++ [34]), 39 :: (t ++ [39]), 40 :: (t ++ [41])]
theorem strip_front (i : Nat) (h : i < 3) (y : List UInt8) : strip1 (strip1 (strip1 (pick front i ++ 91 :: y))) = 91 :: y := by
  match i, h with
  | 0, _ => show strip1 (strip1 (strip1 (91 :: y))) = _; rw [strip1_br, strip1_br, strip1_br]
  | 1, _ => show strip1 (strip1 (strip1 (32 :: 91 :: y))) = _; rw [strip1_blank, strip1_br, strip1_br]
  | 2, _ => show strip1 (strip1 (strip1 (32 :: 32 :: 32 :: 91 :: y))) = _; rw [strip1_blank, strip1_blank, strip1_blank]
/-- A byte that is neither a blank nor a line's end. -/
def solid (l : List UInt8) : Prop := ∃ c r, l = c :: r ∧ ([32, 9] : List UInt8).contains c = false ∧ c ≠ 10
theorem trim_solid (l : List UInt8) (h : solid l) : trimBT l = l := by
  obtain ⟨c, r, rfl, hc, _⟩ := h
  rw [trimBT_cons, if_neg (by rw [hc]; decide)]
theorem trim_blank (c : UInt8) (l : List UInt8) (h : ([32, 9] : List UInt8).contains c = true) : trimBT (c :: l) = trimBT l := by rw [trimBT_cons, if_pos h]
theorem gap_plain (b : List UInt8) (hb : ∀ c ∈ b, ([32, 9] : List UInt8).contains c = true) : ∀ y, trimBT (b ++ y) = trimBT y := by
  induction b with
  | nil => intro y; rfl
  | cons c b ih => intro y; show trimBT (c :: (b ++ y)) = _; rw [trim_blank c _ (hb c List.mem_cons_self), ih (fun x hx => hb x (List.mem_cons_of_mem _ hx))]
theorem gap_solid (y : List UInt8) (h : solid y) : gapRest y = y := by
  have ht := trim_solid y h
  rw [gapRest_no y (by rw [ht]; obtain ⟨c, r, rfl, _, h10⟩ := h; simpa using h10), ht]
theorem gap_blanks (b : List UInt8) (hb : ∀ c ∈ b, ([32, 9] : List UInt8).contains c = true) (y : List UInt8) (h : solid y) : gapRest (b ++ y) = y := by
  have ht := trim_solid y h
  have hg := gap_plain b hb y
  rw [gapRest_no _ (by rw [hg, ht]; obtain ⟨c, r, rfl, _, h10⟩ := h; simpa using h10), hg, ht]
theorem gap_lf (b e : List UInt8) (hb : ∀ c ∈ b, ([32, 9] : List UInt8).contains c = true) (he : ∀ c ∈ e, ([32, 9] : List UInt8).contains c = true) (y : List UInt8) (h : solid y) : gapRest (b ++ 10 :: (e ++ y)) = y := by
  have ht : trimBT (10 :: (e ++ y)) = 10 :: (e ++ y) := by rw [trimBT_cons, if_neg (by decide)]
  have hg := gap_plain b hb (10 :: (e ++ y))
  rw [ht] at hg
  rw [gapRest_lf _ _ hg, gap_plain e he y, trim_solid y h]
theorem gap_one (i : Nat) (hi : i < 4) (y : List UInt8) (h : solid y) : gapRest (pick gap1 i ++ y) = y := by
  match i, hi with
  | 0, _ => exact gap_solid y h
  | 1, _ => exact gap_blanks [32] (by decide) y h
  | 2, _ => exact gap_lf [] [] (by decide) (by decide) y h
  | 3, _ => exact gap_lf [32, 9] [32, 32] (by decide) (by decide) y h
theorem gap_two (i : Nat) (hi : i < 3) (y : List UInt8) (h : solid y) : gapRest (pick gap2 i ++ y) = y := by
  match i, hi with
  | 0, _ => exact gap_blanks [32] (by decide) y h
  | 1, _ => exact gap_lf [] [] (by decide) (by decide) y h
  | 2, _ => exact gap_lf [9, 32] [32] (by decide) (by decide) y h
def more : List UInt8 := [10, 109, 111, 114, 101]
theorem end_line (i : Nat) (hi : i < 3) (m : List UInt8) (hm : m = [] ∨ m = more) : lineS (pick ends i ++ m) = (m.drop 1, true) ∧ (titleG (gapRest (pick ends i ++ m))).2 = 0 ∧ stopAt (pick ends i ++ m) := by
  have hS : ∀ c r, c ≤ 32 → stopAt (c :: r) := fun c r h => .inr ⟨c, r, rfl, h⟩
  rcases hm with rfl | rfl
  · match i, hi with
    | 0, _ => exact ⟨by decide +kernel, by decide +kernel, .inl rfl⟩
    | 1, _ => exact ⟨by decide +kernel, by decide +kernel, hS 32 _ (by decide)⟩
    | 2, _ => exact ⟨by decide +kernel, by decide +kernel, hS 32 _ (by decide)⟩
  · match i, hi with
    | 0, _ => exact ⟨by decide +kernel, by decide +kernel, hS 10 _ (by decide)⟩
    | 1, _ => exact ⟨by decide +kernel, by decide +kernel, hS 32 _ (by decide)⟩
    | 2, _ => exact ⟨by decide +kernel, by decide +kernel, hS 32 _ (by decide)⟩
theorem place_read (i : Nat) (hi : i < 2) (p E : List UInt8) (hp : PL p) (hE : stopAt E) : dest (pick (places (100 :: p)) i ++ E) = (100 :: p, (pick (places (100 :: p)) i).length) ∧ solid (pick (places (100 :: p)) i ++ E) := by
  have hpl : PL (100 :: p) := fun c hc => by
    rcases List.mem_cons.1 hc with rfl | hc
    · decide
    · exact hp c hc
  match i, hi with
  | 0, _ => exact ⟨dest_plain (100 :: p) E hpl (by simp) hE, 100, p ++ E, rfl, by decide, by decide⟩
  | 1, _ =>
    have h := dest_angled (100 :: p) E hpl
    refine ⟨?_, 60, _, rfl, by decide, by decide⟩
    show dest ((60 :: ((100 :: p) ++ [62])) ++ E) = _
    rw [List.cons_append, List.append_assoc]
    show dest (60 :: ((100 :: p) ++ 62 :: E)) = (100 :: p, (60 :: ((100 :: p) ++ [62])).length)
    rw [h]; simp
theorem title_read (i : Nat) (hi : i < 3) (t E : List UInt8) (ht : PL t) : titleG (pick (titles t) i ++ E) = (t, (pick (titles t) i).length) ∧ solid (pick (titles t) i ++ E) := by
  have hx : ∀ (c fin : UInt8) (stop : List UInt8), titleEnd c = some ([fin], stop) → (∀ x, plainC x = true → ([fin] : List UInt8).contains x = false ∧ stop.contains x = false) → titleG ((c :: (t ++ [fin])) ++ E) = (t, (c :: (t ++ [fin])).length) := fun c fin stop he hf => by
    have h := titleG_plain c fin stop he hf t E ht
    rw [List.cons_append, List.append_assoc]
    show titleG (c :: (t ++ fin :: E)) = _
    rw [h]; simp
  match i, hi with
  | 0, _ => exact ⟨hx 34 34 [] rfl (fun x h => by have := plain_not x h; simp [this.2.2.2.2.2.1]), 34, _, rfl, by decide, by decide⟩
  | 1, _ => exact ⟨hx 39 39 [] rfl (fun x h => by have := plain_not x h; simp [this.2.2.2.2.2.2.1]), 39, _, rfl, by decide, by decide⟩
  | 2, _ => exact ⟨hx 40 41 [40] rfl (fun x h => by have := plain_not x h; simp [this.2.2.2.1, this.2.2.2.2.1]), 40, _, rfl, by decide, by decide⟩
/-- What stands behind the place. -/
def behindOf (a3 a4 a5 : Nat) (t : List UInt8) : List UInt8 := (if t = [] then [] else pick gap2 a3 ++ pick (titles t) a4) ++ pick ends a5
def textOf (a0 a1 a2 a3 a4 a5 : Nat) (l d t : List UInt8) : List UInt8 := pick front a0 ++ (91 :: (l ++ 93 :: 58 :: (pick gap1 a1 ++ (pick (places d) a2 ++ behindOf a3 a4 a5 t))))
theorem gap2_pos (i : Nat) (hi : i < 3) : 0 < (pick gap2 i).length ∧ ∃ c r, pick gap2 i = c :: r ∧ c ≤ 32 := by
  match i, hi with
  | 0, _ => exact ⟨by decide, 32, _, rfl, by decide⟩
  | 1, _ => exact ⟨by decide, 10, _, rfl, by decide⟩
  | 2, _ => exact ⟨by decide, 9, _, rfl, by decide⟩
theorem tail_read (a3 a4 a5 : Nat) (h3 : a3 < 3) (h4 : a4 < 3) (h5 : a5 < 3) (F D t m : List UInt8) (len : Nat) (ht : PL t) (hm : m = [] ∨ m = more) :
    defTail F D (behindOf a3 a4 a5 t ++ m) len = (F, D, t, len - (m.drop 1).length) ∧ stopAt (behindOf a3 a4 a5 t ++ m) := by
  obtain ⟨e1, e2, e3⟩ := end_line a5 h5 m hm
  unfold behindOf
  by_cases he : t = []
  · subst he
    rw [if_pos rfl, List.nil_append]
    refine ⟨?_, e3⟩
    unfold defTail
    rw [if_neg (by rintro ⟨_, h, _⟩; omega), e1, if_pos rfl]
  · rw [if_neg he]
    obtain ⟨t1, t2⟩ := title_read a4 h4 t (pick ends a5 ++ m) ht
    obtain ⟨g0, c, r, gc, gl⟩ := gap2_pos a3 h3
    have hz : (pick gap2 a3 ++ pick (titles t) a4) ++ pick ends a5 ++ m = pick gap2 a3 ++ (pick (titles t) a4 ++ (pick ends a5 ++ m)) := by simp only [List.append_assoc]
    rw [hz]
    have hg := gap_two a3 h3 _ t2
    refine ⟨?_, .inr ⟨c, _, by rw [gc]; rfl, gl⟩⟩
    unfold defTail
    rw [hg, t1]
    dsimp only
    rw [List.drop_left, e1, if_pos ⟨by rw [List.length_append]; omega, by
      have : (titles t).getD a4 [] ≠ [] := by
        match a4, h4 with
        | 0, _ => simp [titles]
        | 1, _ => simp [titles]
        | 2, _ => simp [titles]
      exact List.length_pos_iff.2 this, rfl⟩]
theorem places_ne (i : Nat) (hi : i < 2) (d : List UInt8) : ¬ (pick (places (100 :: d)) i).length = 0 := by
  match i, hi with
  | 0, _ => simp [places, pick]
  | 1, _ => simp [places, pick]
theorem text_read (a0 a1 a2 a3 a4 a5 : Nat) (h0 : a0 < 3) (h1 : a1 < 4) (h2 : a2 < 2) (h3 : a3 < 3) (h4 : a4 < 3) (h5 : a5 < 3) (l d t m : List UInt8) (hl : PL l) (hl2 : l.length ≤ 998) (hd : PL d) (ht : PL t) (hm : m = [] ∨ m = more) :
    defineS (textOf a0 a1 a2 a3 a4 a5 (108 :: l) (100 :: d) t ++ m) = (Fold.fold (108 :: l), 100 :: d, t, (textOf a0 a1 a2 a3 a4 a5 (108 :: l) (100 :: d) t ++ m).length - (m.drop 1).length) := by
  obtain ⟨r1, r2⟩ := tail_read a3 a4 a5 h3 h4 h5 (Fold.fold (108 :: l)) (100 :: d) t m (textOf a0 a1 a2 a3 a4 a5 (108 :: l) (100 :: d) t ++ m).length ht hm
  obtain ⟨p1, p2⟩ := place_read a2 h2 d _ hd r2
  rw [← r1, defineS_go]
  generalize (textOf a0 a1 a2 a3 a4 a5 (108 :: l) (100 :: d) t ++ m).length = len
  have hx : textOf a0 a1 a2 a3 a4 a5 (108 :: l) (100 :: d) t ++ m = pick front a0 ++ 91 :: ((108 :: l) ++ 93 :: (58 :: (pick gap1 a1 ++ (pick (places (100 :: d)) a2 ++ (behindOf a3 a4 a5 t ++ m))))) := by
    unfold textOf; simp only [List.append_assoc, List.cons_append]
  rw [hx, strip_front a0 h0]
  have hL := label_plain l (58 :: (pick gap1 a1 ++ (pick (places (100 :: d)) a2 ++ (behindOf a3 a4 a5 t ++ m)))) hl hl2
  generalize behindOf a3 a4 a5 t ++ m = z at *
  have hdr : ∀ (x : UInt8) (E : List UInt8), (91 :: ((108 :: l) ++ 93 :: (x :: E))).drop (l.length + 3) = x :: E := fun x E => by
    show (l ++ 93 :: x :: E).drop (l.length + 1) = _
    rw [← List.drop_drop, List.drop_left]; rfl
  have hdr2 : ∀ (x : UInt8) (E : List UInt8), (91 :: ((108 :: l) ++ 93 :: (x :: E))).drop (l.length + 3 + 1) = E := fun x E => by
    rw [← List.drop_drop, hdr]; rfl
  have hne := places_ne a2 h2 d
  have hg1 := gap_one a1 h1 _ p2
  obtain ⟨F, hF⟩ : ∃ F, Fold.fold (108 :: l) = F := ⟨_, rfl⟩
  have hc : ¬ Lib.hasPrefix (58 :: (pick gap1 a1 ++ (pick (places (100 :: d)) a2 ++ z))) [58] = false := by
    show ¬ List.isPrefixOf [58] (58 :: _) = false
    simp [List.isPrefixOf]
  rw [hF]
  unfold defGo
  rw [hL]
  dsimp only
  rw [hdr, hdr2, hF, if_neg (by omega), if_neg hc, hg1, p1]
  dsimp only
  rw [if_neg hne, List.drop_left]
end Go.Proofs.YthdlibgiejpjeaaGreatDoor.Spec

