import Derived.Test.YthdlibgiejpjeaaGreatDoorFoldPure
/- runes.Fold by runes: the words, one blank between, each rune turned into its bytes. -/
set_option linter.unusedVariables false
set_option linter.unusedSimpArgs false
namespace Go.Proofs.YthdlibgiejpjeaaGreatDoor.Fold
open Go

/-- A word that is done, if it is one. -/
def done (cur : List UInt8) : List (List UInt8) := if cur = [] then [] else [cur]
/-- The words of a text, rune by rune; cur: the word that is open. -/
def wordsGo (p : Nat → Bool) : Nat → List UInt8 → List UInt8 → List (List UInt8)
  | 0, cur, _ => done cur
  | f + 1, cur, l =>
    if l = [] then done cur
    else if p (Lib.decodeL l).1 = true then done cur ++ wordsGo p f [] (l.drop (Lib.decodeL l).2)
    else wordsGo p f (cur ++ l.take (Lib.decodeL l).2) (l.drop (Lib.decodeL l).2)
theorem wordsGo_nil (p : Nat → Bool) : ∀ (f : Nat) (cur : List UInt8), wordsGo p f cur [] = done cur
  | 0, cur => rfl
  | f + 1, cur => by rw [wordsGo, if_pos rfl]
def cut (l : List UInt8) (x : Nat × Nat) : List UInt8 := (l.drop x.1).take (x.2 - x.1)
theorem cut_ne (l : List UInt8) (a b : Nat) (h : a < b) (hb : b ≤ l.length) : cut l (a, b) ≠ [] := by
  intro e
  have := congrArg List.length e
  unfold cut at this
  rw [List.length_take, List.length_drop] at this
  simp only [List.length_nil] at this
  omega
theorem cut_more (l : List UInt8) (a b k : Nat) (h : a ≤ b) : cut l (a, b) ++ (l.drop b).take k = cut l (a, b + k) := by
  unfold cut
  have h1 : l.drop b = (l.drop a).drop (b - a) := by rw [List.drop_drop, Nat.add_sub_cancel' h]
  rw [h1, show b + k - a = (b - a) + k by omega, List.take_add]
theorem decode_in (l : List UInt8) (pos : Nat) (h : pos < l.length) : Utf8.decode ⟨l.toArray⟩ pos = Lib.decodeL (l.drop pos) ∧ 1 ≤ (Lib.decodeL (l.drop pos)).2 ∧ pos + (Lib.decodeL (l.drop pos)).2 ≤ l.length := by
  have hd := Lib.decodeL_drop ⟨l.toArray⟩ pos
  have hl : (⟨l.toArray⟩ : ByteArray).data.toList = l := by simp
  rw [hl] at hd
  have hne : l.drop pos ≠ [] := fun e => by
    have := congrArg List.length e
    rw [List.length_drop] at this; simp at this; omega
  have hle := Lib.decodeL_le _ hne
  rw [List.length_drop] at hle
  have hw := Lib.width_pos ⟨l.toArray⟩ pos
  rw [← hd] at hw
  exact ⟨hd.symm, hw, by omega⟩
theorem words_spans (p : Nat → Bool) (l : List UInt8) : ∀ (f pos : Nat) (acc : List (Nat × Nat)), l.length ≤ pos + f → pos ≤ l.length →
    ((Lib.closeSpans ⟨l.toArray⟩ (Lib.spansFromP p ⟨l.toArray⟩ f pos none acc)).map (cut l) = acc.map (cut l) ++ wordsGo p f [] (l.drop pos)) ∧
    (∀ a, a < pos → (Lib.closeSpans ⟨l.toArray⟩ (Lib.spansFromP p ⟨l.toArray⟩ f pos (some a) acc)).map (cut l) = acc.map (cut l) ++ wordsGo p f (cut l (a, pos)) (l.drop pos)) := by
  intro f
  have stop : ∀ (f pos : Nat) (acc : List (Nat × Nat)), pos = l.length →
      ((Lib.closeSpans ⟨l.toArray⟩ (acc, none)).map (cut l) = acc.map (cut l) ++ wordsGo p f [] (l.drop pos)) ∧
      (∀ a, a < pos → (Lib.closeSpans ⟨l.toArray⟩ (acc, some a)).map (cut l) = acc.map (cut l) ++ wordsGo p f (cut l (a, pos)) (l.drop pos)) := by
    intro f pos acc hp
    rw [hp, List.drop_length, wordsGo_nil]
    refine ⟨by simp [Lib.closeSpans, done], fun a ha => ?_⟩
    rw [wordsGo_nil]
    unfold done
    rw [if_neg (cut_ne l a l.length ha (Nat.le_refl _))]
    simp [Lib.closeSpans, size_mk]
  induction f with
  | zero => intro pos acc h hp; exact stop 0 pos acc (by omega)
  | succ f ih =>
    intro pos acc h hp
    by_cases hlt : pos < l.length
    · obtain ⟨hd, hw, hn⟩ := decode_in l pos hlt
      have hne : l.drop pos ≠ [] := fun e => by
        have := congrArg List.length e
        rw [List.length_drop] at this; simp at this; omega
      have hsz : pos < (⟨l.toArray⟩ : ByteArray).size := by rw [size_mk]; exact hlt
      constructor
      · rw [wordsGo, if_neg hne]
        unfold Lib.spansFromP
        rw [if_pos hsz, hd]
        by_cases hsp : p (Lib.decodeL (l.drop pos)).1 = true
        · rw [if_pos hsp, if_pos hsp]
          have := (ih (pos + (Lib.decodeL (l.drop pos)).2) acc (by omega) hn).1
          rw [← List.drop_drop] at this
          show List.map (cut l) (Lib.closeSpans _ (Lib.spansFromP p _ f _ none acc)) = _
          rw [this]; rfl
        · rw [if_neg hsp, if_neg hsp]
          have := (ih (pos + (Lib.decodeL (l.drop pos)).2) acc (by omega) hn).2 pos (by omega)
          rw [← List.drop_drop] at this
          show List.map (cut l) (Lib.closeSpans _ (Lib.spansFromP p _ f _ (some pos) acc)) = _
          rw [this]
          congr 2
          unfold cut
          rw [Nat.add_sub_cancel_left, List.nil_append]
      · intro a ha
        rw [wordsGo, if_neg hne]
        unfold Lib.spansFromP
        rw [if_pos hsz, hd]
        by_cases hsp : p (Lib.decodeL (l.drop pos)).1 = true
        · rw [if_pos hsp, if_pos hsp]
          have := (ih (pos + (Lib.decodeL (l.drop pos)).2) (acc ++ [(a, pos)]) (by omega) hn).1
          rw [← List.drop_drop] at this
          show List.map (cut l) (Lib.closeSpans _ (Lib.spansFromP p _ f _ none (acc ++ [(a, pos)]))) = _
          rw [this]
          unfold done
          rw [if_neg (cut_ne l a pos ha hp)]
          simp
        · rw [if_neg hsp, if_neg hsp]
          have := (ih (pos + (Lib.decodeL (l.drop pos)).2) acc (by omega) hn).2 a (by omega)
          rw [← List.drop_drop] at this
          show List.map (cut l) (Lib.closeSpans _ (Lib.spansFromP p _ f _ (some a) acc)) = _
          rw [this, cut_more l a pos _ (Nat.le_of_lt ha)]
    · have hpe : pos = l.length := by omega
      have hsz : ¬ pos < (⟨l.toArray⟩ : ByteArray).size := by rw [size_mk]; exact hlt
      obtain ⟨h1, h2⟩ := stop (f + 1) pos acc hpe
      constructor
      · rw [Lib.spansFromP_end p _ _ _ _ _ hsz]; exact h1
      · intro a ha; rw [Lib.spansFromP_end p _ _ _ _ _ hsz]; exact h2 a ha
theorem words_go (l : List UInt8) : words l = wordsGo space l.length [] l := by
  have h := (words_spans space l l.length 0 [] (by omega) (by omega)).1
  rw [List.map_nil, List.nil_append, List.drop_zero] at h
  unfold words Lib.goFieldsP Lib.spansOfP
  rw [size_mk, ← h, List.map_map]
  apply List.map_congr_left
  intro x _
  simp only [Function.comp]
  rw [Lib.extract_data]
  have hl : (⟨l.toArray⟩ : ByteArray).data.toList = l := by simp
  rw [hl]; rfl

/-! a rune is told by its own bytes -/
theorem get_D (l : List UInt8) (i : Nat) : (⟨l.toArray⟩ : ByteArray).get! i = l.getD i 0 := by
  show (l.toArray)[i]! = _
  simp [List.getD_eq_getElem?_getD]
  rfl
theorem decodeL_N (l : List UInt8) : Lib.decodeL l = Lib.decodeN l.length (l.getD 0 0).toNat (l.getD 1 0).toNat (l.getD 2 0).toNat (l.getD 3 0).toNat := by
  unfold Lib.decodeL
  rw [Lib.decode_at, size_mk, get_D, get_D, get_D, get_D]; rfl
set_option maxRecDepth 100000 in
set_option maxHeartbeats 4000000 in
theorem decodeN_cut (n m b0 b1 b2 b3 c1 c2 c3 : Nat) (hm : 1 ≤ m) (hmn : m ≤ n) (h1 : 1 < m → c1 = b1) (h2 : 2 < m → c2 = b2) (h3 : 3 < m → c3 = b3) (hw : (Lib.decodeN n b0 b1 b2 b3).2 ≤ m) :
    Lib.decodeN m b0 c1 c2 c3 = Lib.decodeN n b0 b1 b2 b3 := by
  revert hw
  rcases Nat.lt_or_ge 3 m with h | h
  · rw [h1 (by omega), h2 (by omega), h3 h]
    intro _
    unfold Lib.decodeN
    simp only [show 1 < m by omega, show 2 < m by omega, show 3 < m by omega, show 1 < n by omega, show 2 < n by omega, show 3 < n by omega, true_and]
  · rcases Nat.lt_or_ge 2 m with h' | h'
    · rw [h1 (by omega), h2 h']
      have : m = 3 := by omega
      subst this
      unfold Lib.decodeN
      intro hw
      revert hw
      simp only [show 1 < n by omega, show 2 < n by omega, true_and]
      repeat' split
      all_goals first | (intro _; rfl) | (intro hw; exfalso; simp only at hw; omega) | (intro _; exfalso; omega)
    · rcases Nat.lt_or_ge 1 m with h'' | h''
      · rw [h1 h'']
        have : m = 2 := by omega
        subst this
        unfold Lib.decodeN
        intro hw
        revert hw
        simp only [show 1 < n by omega, true_and]
        repeat' split
        all_goals first | (intro _; rfl) | (intro hw; exfalso; simp only at hw; omega) | (intro _; exfalso; omega)
      · have : m = 1 := by omega
        subst this
        unfold Lib.decodeN
        intro hw
        revert hw
        repeat' split
        all_goals first | (intro _; rfl) | (intro hw; exfalso; simp only at hw; omega) | (intro _; exfalso; omega)
/-- A text's beginning that holds the whole rune has that rune. -/
theorem decode_take (x : List UInt8) (m : Nat) (h1 : 1 ≤ m) (hm : m ≤ x.length) (hw : (Lib.decodeL x).2 ≤ m) : Lib.decodeL (x.take m) = Lib.decodeL x := by
  rw [decodeL_N, decodeL_N x]
  rw [decodeL_N] at hw
  have hl : (x.take m).length = m := by rw [List.length_take]; omega
  have hg : ∀ i, i < m → (x.take m).getD i 0 = x.getD i 0 := fun i hi => by
    simp only [List.getD_eq_getElem?_getD]
    rw [List.getElem?_take, if_pos hi]
  rw [hl, hg 0 (by omega)]
  exact decodeN_cut x.length m _ _ _ _ _ _ _ h1 hm (fun h => by rw [hg 1 h]) (fun h => by rw [hg 2 h]) (fun h => by rw [hg 3 h]) hw
set_option maxRecDepth 100000 in
set_option maxHeartbeats 4000000 in
/-- Behind the text's own bytes stands none of those that follow in a rune: what follows does not matter. -/
theorem decodeN_front (n N b0 b1 b2 b3 c1 c2 c3 : Nat) (hn : 1 ≤ n) (hN : n ≤ N) (e1 : 1 < n → c1 = b1) (e2 : 2 < n → c2 = b2) (e3 : 3 < n → c3 = b3)
    (l1 : n = 1 → 1 < N → c1 / 64 ≠ 2) (l2 : n = 2 → 2 < N → c2 / 64 ≠ 2) (l3 : n = 3 → 3 < N → c3 / 64 ≠ 2) : Lib.decodeN N b0 c1 c2 c3 = Lib.decodeN n b0 b1 b2 b3 := by
  rcases Nat.lt_or_ge 3 n with h | h
  · rw [e1 (by omega), e2 (by omega), e3 h]
    unfold Lib.decodeN
    simp only [show 1 < n by omega, show 2 < n by omega, show 3 < n by omega, show 1 < N by omega, show 2 < N by omega, show 3 < N by omega, true_and]
  · rcases Nat.lt_or_ge 2 n with h' | h'
    · have hn3 : n = 3 := by omega
      have h4 : ¬ (3 < N ∧ c3 / 64 = 2) := fun x => l3 hn3 x.1 x.2
      rw [e1 (by omega), e2 h']
      subst hn3
      unfold Lib.decodeN
      simp only [h4, show 1 < 3 by decide, show 2 < 3 by decide, show ¬ 3 < 3 by decide, show 1 < N by omega, show 2 < N by omega, true_and, and_false, false_and, if_false]
    · rcases Nat.lt_or_ge 1 n with h'' | h''
      · have hn2 : n = 2 := by omega
        have h4 : ¬ (2 < N ∧ c2 / 64 = 2) := fun x => l2 hn2 x.1 x.2
        rw [e1 h'']
        subst hn2
        unfold Lib.decodeN
        simp only [h4, show 1 < 2 by decide, show ¬ 2 < 2 by decide, show ¬ 3 < 2 by decide, show 1 < N by omega, true_and, and_false, false_and, if_false]
      · have hn1 : n = 1 := by omega
        have h4 : ¬ (1 < N ∧ c1 / 64 = 2) := fun x => l1 hn1 x.1 x.2
        subst hn1
        unfold Lib.decodeN
        simp only [h4, show ¬ 1 < 1 by decide, show ¬ 2 < 1 by decide, show ¬ 3 < 1 by decide, true_and, and_false, false_and, if_false]
/-- The text ends, or a byte stands there that follows in no rune. -/
def lead (s : List UInt8) : Prop := ∀ c r, s = c :: r → c.toNat / 64 ≠ 2
theorem decode_front (w s : List UInt8) (hw : w ≠ []) (hs : lead s) : Lib.decodeL (w ++ s) = Lib.decodeL w := by
  have hn : 1 ≤ w.length := by cases w with | nil => exact absurd rfl hw | cons _ _ => simp
  have hin : ∀ i, i < w.length → (w ++ s).getD i 0 = w.getD i 0 := fun i hi => by
    simp only [List.getD_eq_getElem?_getD]
    rw [List.getElem?_append_left hi]
  have hout : ∀ i, i = w.length → i < (w ++ s).length → ((w ++ s).getD i 0).toNat / 64 ≠ 2 := fun i hi h => by
    subst hi
    rw [List.length_append] at h
    cases s with
    | nil => simp at h
    | cons c r =>
      have : (w ++ c :: r).getD w.length 0 = c := by
        simp only [List.getD_eq_getElem?_getD]
        rw [List.getElem?_append_right (Nat.le_refl _), Nat.sub_self]; rfl
      rw [this]; exact hs c r rfl
  rw [decodeL_N, decodeL_N w, hin 0 hn]
  exact decodeN_front _ _ _ _ _ _ _ _ _ hn (by rw [List.length_append]; omega) (fun h => by rw [hin 1 h]) (fun h => by rw [hin 2 h]) (fun h => by rw [hin 3 h])
    (fun h h' => hout 1 h.symm h') (fun h h' => hout 2 h.symm h') (fun h h' => hout 3 h.symm h')
end Go.Proofs.YthdlibgiejpjeaaGreatDoor.Fold

/- runes.Fold by runes: what the reference's loop builds is what the words give. -/
set_option linter.unusedVariables false
set_option linter.unusedSimpArgs false
namespace Go.Proofs.YthdlibgiejpjeaaGreatDoor.Fold
open Go

/-- A rune as a folded text has it. -/
def sm (r : Nat) : List UInt8 := if small r = 223 ∨ small r = 7838 then [115, 115] else Lib.encodeRune (small r)
/-- The reference's loop. -/
def refGo : Nat → Bool → List UInt8 → List UInt8 → List UInt8
  | 0, _, out, _ => out
  | f + 1, gap, out, l =>
    if l = [] then out
    else if space (Lib.decodeL l).1 = true then refGo f true out (l.drop (Lib.decodeL l).2)
    else refGo f false ((if gap = true ∧ out ≠ [] then out ++ [32] else out) ++ sm (Lib.decodeL l).1) (l.drop (Lib.decodeL l).2)
theorem refGo_nil : ∀ (f : Nat) (gap : Bool) (out : List UInt8), refGo f gap out [] = out
  | 0, _, _ => rfl
  | f + 1, _, _ => by rw [refGo, if_pos rfl]
theorem hit_zero (c : UInt8) (r : List UInt8) (h1 : c ≠ 195) (h2 : c ≠ 225) : hit (c :: r) = 0 := by
  rcases hit_cases (c :: r) with h | ⟨_, r', h⟩ | ⟨_, r', h⟩
  · exact h
  · injection h with h _; exact absurd h h1
  · injection h with h _; exact absurd h h2
theorem u8n (n : Nat) (h : n < 256) (m : Nat) (hm : m < 256) : (n.toUInt8 = m.toUInt8) ↔ n = m := by
  constructor
  · intro e
    have := congrArg UInt8.toNat e
    simp only [Nat.toUInt8, UInt8.toNat_ofNat'] at this
    omega
  · rintro rfl; rfl
theorem u8z (q : Int) (h0 : 0 ≤ q) (h : q < 256) (m : Nat) (hm : m < 256) (hq : q ≠ m) : q.toNat.toUInt8 ≠ m.toUInt8 := by
  intro e
  have := (u8n q.toNat (by omega) m hm).1 e
  omega
theorem foldRep_enc (q : Int) (h0 : 0 ≤ q) (x : List UInt8) : foldRep (Lib.encodeRune q ++ x) = (if q = 223 ∨ q = 7838 then [115, 115] else Lib.encodeRune q) ++ foldRep x := by
  have miss : ∀ (z : Int) (r : List UInt8), 0 ≤ z → z < 256 → z ≠ 195 → z ≠ 225 → foldRep (z.toNat.toUInt8 :: r) = z.toNat.toUInt8 :: foldRep r := fun z r a b c d =>
    foldRep_miss _ _ (hit_zero _ _ (u8z z a b 195 (by decide) c) (u8z z a b 225 (by decide) d))
  unfold Lib.encodeRune
  by_cases h1 : q ≤ 127
  · rw [Lib.encodeRuneZ_one h0 h1, if_neg (by omega)]
    exact miss q x h0 (by omega) (by omega) (by omega)
  by_cases h2 : q ≤ 2047
  · rw [Lib.encodeRuneZ_two (by omega) h2]
    by_cases hd : q = 223
    · subst hd
      rw [if_pos (.inl rfl)]
      show foldRep (195 :: 159 :: x) = _
      rw [foldRep]; rfl
    rw [if_neg (by omega)]
    show foldRep ((192 + q / 64).toNat.toUInt8 :: (128 + q % 64).toNat.toUInt8 :: x) = (192 + q / 64).toNat.toUInt8 :: (128 + q % 64).toNat.toUInt8 :: foldRep x
    have hh : hit ((192 + q / 64).toNat.toUInt8 :: (128 + q % 64).toNat.toUInt8 :: x) = 0 := by
      rcases hit_cases ((192 + q / 64).toNat.toUInt8 :: (128 + q % 64).toNat.toUInt8 :: x) with h | ⟨_, r', h⟩ | ⟨_, r', h⟩
      · exact h
      · injection h with h h'; injection h' with h' _
        by_cases e1 : 192 + q / 64 = 195
        · exact absurd h' (u8z (128 + q % 64) (by omega) (by omega) 159 (by decide) (by omega))
        · exact absurd h (u8z (192 + q / 64) (by omega) (by omega) 195 (by decide) e1)
      · injection h with h _
        exact absurd h (u8z (192 + q / 64) (by omega) (by omega) 225 (by decide) (by omega))
    rw [foldRep_miss _ _ hh, miss _ x (by omega) (by omega) (by omega) (by omega)]
  by_cases h3 : (2048 ≤ q ∧ q < 55296) ∨ (57343 < q ∧ q ≤ 65535)
  · rw [Lib.encodeRuneZ_three h3]
    by_cases hd : q = 7838
    · subst hd
      rw [if_pos (.inr rfl)]
      show foldRep (225 :: 186 :: 158 :: x) = _
      rw [foldRep]; rfl
    rw [if_neg (by omega)]
    show foldRep ((224 + q / 4096).toNat.toUInt8 :: (128 + q / 64 % 64).toNat.toUInt8 :: (128 + q % 64).toNat.toUInt8 :: x) = (224 + q / 4096).toNat.toUInt8 :: (128 + q / 64 % 64).toNat.toUInt8 :: (128 + q % 64).toNat.toUInt8 :: foldRep x
    have hh : hit ((224 + q / 4096).toNat.toUInt8 :: (128 + q / 64 % 64).toNat.toUInt8 :: (128 + q % 64).toNat.toUInt8 :: x) = 0 := by
      rcases hit_cases ((224 + q / 4096).toNat.toUInt8 :: (128 + q / 64 % 64).toNat.toUInt8 :: (128 + q % 64).toNat.toUInt8 :: x) with h | ⟨_, r', h⟩ | ⟨_, r', h⟩
      · exact h
      · injection h with h _
        exact absurd h (u8z (224 + q / 4096) (by omega) (by omega) 195 (by decide) (by omega))
      · injection h with h h'; injection h' with h' h''; injection h'' with h'' _
        by_cases e1 : 224 + q / 4096 = 225
        · by_cases e2 : 128 + q / 64 % 64 = 186
          · exact absurd h'' (u8z (128 + q % 64) (by omega) (by omega) 158 (by decide) (by omega))
          · exact absurd h' (u8z (128 + q / 64 % 64) (by omega) (by omega) 186 (by decide) e2)
        · exact absurd h (u8z (224 + q / 4096) (by omega) (by omega) 225 (by decide) e1)
    rw [foldRep_miss _ _ hh, miss _ _ (by omega) (by omega) (by omega) (by omega), miss _ x (by omega) (by omega) (by omega) (by omega)]
  by_cases h4 : 65536 ≤ q ∧ q ≤ 1114111
  · rw [Lib.encodeRuneZ_four h4.1 h4.2, if_neg (by omega)]
    show foldRep ((240 + q / 262144).toNat.toUInt8 :: (128 + q / 4096 % 64).toNat.toUInt8 :: (128 + q / 64 % 64).toNat.toUInt8 :: (128 + q % 64).toNat.toUInt8 :: x) = (240 + q / 262144).toNat.toUInt8 :: (128 + q / 4096 % 64).toNat.toUInt8 :: (128 + q / 64 % 64).toNat.toUInt8 :: (128 + q % 64).toNat.toUInt8 :: foldRep x
    rw [miss _ _ (by omega) (by omega) (by omega) (by omega), miss _ _ (by omega) (by omega) (by omega) (by omega), miss _ _ (by omega) (by omega) (by omega) (by omega), miss _ x (by omega) (by omega) (by omega) (by omega)]
  · rw [if_neg (by omega)]
    have hz : Lib.encodeRuneZ q = [239, 191, 189] := by
      unfold Lib.encodeRuneZ
      rw [if_neg (by omega), if_neg (by omega), if_neg h3, if_neg h4]
    rw [hz]
    show foldRep (239 :: 191 :: 189 :: x) = 239 :: 191 :: 189 :: foldRep x
    rw [foldRep_miss _ _ (hit_zero _ _ (by decide) (by decide)), foldRep_miss _ _ (hit_zero _ _ (by decide) (by decide)), foldRep_miss _ _ (hit_zero _ _ (by decide) (by decide))]
theorem mapD_small (l : List UInt8) (h : l ≠ []) : Lib.mapD small l = Lib.encodeRune (small (Lib.decodeL l).1) ++ Lib.mapD small (l.drop (Lib.decodeL l).2) := by
  rw [Lib.mapD_step small l h, if_pos (small_in _ (Lib.decodeL_rune l)).1]
theorem mapD_front (w s : List UInt8) (hs : lead s) : Lib.mapD small (w ++ s) = Lib.mapD small w ++ Lib.mapD small s := by
  obtain ⟨n, hn⟩ : ∃ n, n = w.length := ⟨_, rfl⟩
  induction n using Nat.strongRecOn generalizing w with
  | _ n ih =>
    by_cases hw : w = []
    · subst hw; rfl
    have h1 := Lib.decodeL_width w
    have h2 := Lib.decodeL_le w hw
    have h3 : (w.drop (Lib.decodeL w).2).length = w.length - (Lib.decodeL w).2 := List.length_drop
    rw [mapD_small (w ++ s) (by simp [hw]), mapD_small w hw, decode_front w s hw hs, List.drop_append_of_le_length h2, ih _ (by omega) _ rfl, List.append_assoc]
theorem space_lead (l : List UInt8) (h : l ≠ []) (hs : space (Lib.decodeL l).1 = true) : lead l := by
  rintro c r rfl h2
  rw [decodeL_N] at hs
  rw [Lib.decodeN_cont _ _ _ _ _ (by simpa using h2)] at hs
  revert hs; decide
theorem wordsGo_ne (p : Nat → Bool) : ∀ (f : Nat) (cur l : List UInt8), cur ≠ [] → wordsGo p f cur l ≠ [] := by
  intro f
  induction f with
  | zero => intro cur l h; rw [wordsGo]; unfold done; rw [if_neg h]; simp
  | succ f ih =>
    intro cur l h
    rw [wordsGo]
    by_cases hl : l = []
    · rw [if_pos hl]; unfold done; rw [if_neg h]; simp
    rw [if_neg hl]
    by_cases hp : p (Lib.decodeL l).1 = true
    · rw [if_pos hp]; unfold done; rw [if_neg h]; simp
    · rw [if_neg hp]
      exact ih _ _ (by simp [h])
/-- What words give, joined. -/
def out (ws : List (List UInt8)) : List UInt8 := foldRep (Lib.mapD small (Lib.join ws [32]))
/-- A text whose patterns end where it ends. -/
def Good (M F : List UInt8) : Prop := ∀ x, foldRep (M ++ x) = F ++ foldRep x
theorem good_snoc (M F : List UInt8) (r : Nat) (hr : r ≤ 1114111) (h : Good M F) : Good (M ++ Lib.encodeRune (small r)) (F ++ sm r) := by
  intro x
  rw [List.append_assoc, h, foldRep_enc _ (small_in r hr).1, List.append_assoc]; rfl
theorem sm_ne (r : Nat) : sm r ≠ [] := by
  unfold sm
  split
  · simp
  · unfold Lib.encodeRune Lib.encodeRuneZ
    repeat' split
    all_goals simp
theorem mapD_blank (l : List UInt8) : Lib.mapD small (32 :: l) = 32 :: Lib.mapD small l := by
  rw [mapD_small (32 :: l) (by simp), Lib.decodeL_ascii 32 l (by decide)]; rfl
theorem out_cons (cur M F : List UInt8) (ws : List (List UInt8)) (hM : Lib.mapD small cur = M) (hG : Good M F) : out (cur :: ws) = if ws = [] then F else F ++ 32 :: out ws := by
  unfold out
  cases ws with
  | nil =>
    rw [if_pos rfl, Lib.join_one, hM]
    have := hG []
    rw [List.append_nil, foldRep_nil, List.append_nil] at this; exact this
  | cons w t =>
    rw [if_neg (by simp)]
    have hj : Lib.join (cur :: w :: t) [32] = cur ++ 32 :: Lib.join (w :: t) [32] := by
      rw [Lib.join_cons, Lib.join_cons]; simp [Lib.joinTail]
    rw [hj, mapD_front cur _ (by rintro c r h; injection h with h _; subst h; decide), hM, hG, mapD_blank, foldRep_miss _ _ (hit_zero _ _ (by decide) (by decide))]
theorem ref_go : ∀ (f : Nat) (l : List UInt8), l.length ≤ f →
    (∀ (gap : Bool) (o : List UInt8), gap = true ∨ o = [] → refGo f gap o l = if wordsGo space f [] l = [] then o else (if o = [] then [] else o ++ [32]) ++ out (wordsGo space f [] l)) ∧
    (∀ (cur M F o : List UInt8), cur ≠ [] → F ≠ [] → Lib.mapD small (cur ++ l) = M ++ Lib.mapD small l → Good M F → refGo f false (o ++ F) l = o ++ out (wordsGo space f cur l)) := by
  intro f
  induction f with
  | zero =>
    intro l hl
    have : l = [] := List.length_eq_zero_iff.1 (by omega)
    subst this
    constructor
    · intro gap o _; rfl
    · intro cur M F o hc hF hM hG
      rw [List.append_nil, Lib.mapD_nil, List.append_nil] at hM
      rw [wordsGo_nil]
      unfold done
      rw [if_neg hc, out_cons cur M F [] hM hG, if_pos rfl]; rfl
  | succ f ih =>
    intro l hl
    by_cases hne : l = []
    · subst hne
      constructor
      · intro gap o _; rw [refGo_nil, wordsGo_nil]; rfl
      · intro cur M F o hc hF hM hG
        rw [List.append_nil, Lib.mapD_nil, List.append_nil] at hM
        rw [refGo_nil, wordsGo_nil]
        unfold done
        rw [if_neg hc, out_cons cur M F [] hM hG, if_pos rfl]
    have h1 := Lib.decodeL_width l
    have h2 := Lib.decodeL_le l hne
    have h3 : (l.drop (Lib.decodeL l).2).length = l.length - (Lib.decodeL l).2 := List.length_drop
    obtain ⟨ia, ib⟩ := ih (l.drop (Lib.decodeL l).2) (by omega)
    have htk : l.take (Lib.decodeL l).2 ≠ [] := fun e => by
      have := congrArg List.length e
      rw [List.length_take] at this; simp only [List.length_nil] at this; omega
    by_cases hsp : space (Lib.decodeL l).1 = true
    · constructor
      · intro gap o ho
        rw [refGo, if_neg hne, if_pos hsp, wordsGo, if_neg hne, if_pos hsp, ia true o (.inl rfl)]; rfl
      · intro cur M F o hc hF hM hG
        rw [mapD_front cur l (space_lead l hne hsp)] at hM
        have hM' := List.append_cancel_right hM
        rw [refGo, if_neg hne, if_pos hsp, wordsGo, if_neg hne, if_pos hsp, ia true (o ++ F) (.inl rfl)]
        have hd : done cur = [cur] := by unfold done; rw [if_neg hc]
        rw [hd, List.singleton_append, out_cons cur M F _ hM' hG]
        by_cases hw : wordsGo space f [] (l.drop (Lib.decodeL l).2) = []
        · rw [if_pos hw, if_pos hw]
        · rw [if_neg hw, if_neg hw, if_neg (by simp [hF])]; simp
    · constructor
      · intro gap o ho
        rw [refGo, if_neg hne, if_neg hsp, wordsGo, if_neg hne, if_neg hsp, List.nil_append]
        rw [if_neg (wordsGo_ne space f _ _ htk)]
        have hb := ib (l.take (Lib.decodeL l).2) (Lib.encodeRune (small (Lib.decodeL l).1)) (sm (Lib.decodeL l).1) (if gap = true ∧ o ≠ [] then o ++ [32] else o) htk (sm_ne _)
          (by rw [List.take_append_drop]; exact mapD_small l hne) (good_snoc [] [] _ (Lib.decodeL_rune l) (fun x => rfl))
        rw [hb]
        congr 1
        by_cases ho' : o = []
        · subst ho'; simp
        · have hg : gap = true := by rcases ho with h | h; exact h; exact absurd h ho'
          rw [if_pos ⟨hg, ho'⟩, if_neg ho']
      · intro cur M F o hc hF hM hG
        rw [refGo, if_neg hne, if_neg hsp, wordsGo, if_neg hne, if_neg hsp, if_neg (by simp), List.append_assoc]
        exact ib (cur ++ l.take (Lib.decodeL l).2) _ _ o (by simp [hc]) (by simp [hF])
          (by rw [List.append_assoc, List.take_append_drop, hM, mapD_small l hne, List.append_assoc]) (good_snoc M F _ (Lib.decodeL_rune l) hG)
/-- The reference's loop gives the folded text. -/
theorem ref_fold (l : List UInt8) : refGo l.length false [] l = fold l := by
  rw [(ref_go l.length l (Nat.le_refl _)).1 false [] (.inr rfl)]
  unfold fold joined
  rw [words_go]
  by_cases h : wordsGo space l.length [] l = []
  · rw [if_pos h, h]; rfl
  · rw [if_neg h, if_pos rfl]; rfl
end Go.Proofs.YthdlibgiejpjeaaGreatDoor.Fold

/- runes.Fold twice is runes.Fold once. -/
set_option linter.unusedVariables false
set_option linter.unusedSimpArgs false
namespace Go.Proofs.YthdlibgiejpjeaaGreatDoor.Fold
open Go
theorem u8v (z : Int) (h0 : 0 ≤ z) (h : z < 256) : (z.toNat.toUInt8).toNat = z.toNat := by
  simp only [Nat.toUInt8, UInt8.toNat_ofNat']; omega
set_option maxRecDepth 100000 in
theorem decode_enc (q : Nat) (hv : q < 55296 ∨ (57343 < q ∧ q ≤ 1114111)) (s : List UInt8) : Lib.decodeL (Lib.encodeRune (q : Int) ++ s) = (q, (Lib.encodeRune (q : Int)).length) := by
  unfold Lib.encodeRune
  by_cases h1 : q ≤ 127
  · rw [Lib.encodeRuneZ_one (by omega) (by omega)]
    show Lib.decodeL ((q : Int).toNat.toUInt8 :: s) = (q, 1)
    have hq := u8v (q : Int) (by omega) (by omega)
    rw [Lib.decodeL_ascii _ _ (by rw [hq]; omega), hq]; rfl
  by_cases h2 : q ≤ 2047
  · rw [Lib.encodeRuneZ_two (by omega) (by omega)]
    show Lib.decodeL ((192 + (q : Int) / 64).toNat.toUInt8 :: (128 + (q : Int) % 64).toNat.toUInt8 :: s) = (q, 2)
    rw [decodeL_N]
    show Lib.decodeN (s.length + 1 + 1) (192 + (q : Int) / 64).toNat.toUInt8.toNat (128 + (q : Int) % 64).toNat.toUInt8.toNat _ _ = _
    rw [u8v _ (by omega) (by omega), u8v _ (by omega) (by omega)]
    unfold Lib.decodeN
    rw [if_neg (by omega), if_pos (by omega), if_pos (by omega)]
    congr 1; omega
  by_cases h3 : q ≤ 65535
  · rw [Lib.encodeRuneZ_three (by omega)]
    show Lib.decodeL ((224 + (q : Int) / 4096).toNat.toUInt8 :: (128 + (q : Int) / 64 % 64).toNat.toUInt8 :: (128 + (q : Int) % 64).toNat.toUInt8 :: s) = (q, 3)
    rw [decodeL_N]
    show Lib.decodeN (s.length + 1 + 1 + 1) (224 + (q : Int) / 4096).toNat.toUInt8.toNat (128 + (q : Int) / 64 % 64).toNat.toUInt8.toNat (128 + (q : Int) % 64).toNat.toUInt8.toNat _ = _
    rw [u8v _ (by omega) (by omega), u8v _ (by omega) (by omega), u8v _ (by omega) (by omega)]
    have e : (224 + (q : Int) / 4096).toNat % 16 * 4096 + (128 + (q : Int) / 64 % 64).toNat % 64 * 64 + (128 + (q : Int) % 64).toNat % 64 = q := by omega
    unfold Lib.decodeN
    rw [if_neg (by omega), if_neg (by omega), if_pos (by omega), e, if_pos (by omega)]
  · rw [Lib.encodeRuneZ_four (by omega) (by omega)]
    show Lib.decodeL ((240 + (q : Int) / 262144).toNat.toUInt8 :: (128 + (q : Int) / 4096 % 64).toNat.toUInt8 :: (128 + (q : Int) / 64 % 64).toNat.toUInt8 :: (128 + (q : Int) % 64).toNat.toUInt8 :: s) = (q, 4)
    rw [decodeL_N]
    show Lib.decodeN (s.length + 1 + 1 + 1 + 1) (240 + (q : Int) / 262144).toNat.toUInt8.toNat (128 + (q : Int) / 4096 % 64).toNat.toUInt8.toNat (128 + (q : Int) / 64 % 64).toNat.toUInt8.toNat (128 + (q : Int) % 64).toNat.toUInt8.toNat = _
    rw [u8v _ (by omega) (by omega), u8v _ (by omega) (by omega), u8v _ (by omega) (by omega), u8v _ (by omega) (by omega)]
    have e : (240 + (q : Int) / 262144).toNat % 8 * 262144 + (128 + (q : Int) / 4096 % 64).toNat % 64 * 4096 + (128 + (q : Int) / 64 % 64).toNat % 64 * 64 + (128 + (q : Int) % 64).toNat % 64 = q := by omega
    unfold Lib.decodeN
    rw [if_neg (by omega), if_neg (by omega), if_neg (by omega), if_pos (by omega), e, if_pos (by omega)]
theorem refGo_fuel : ∀ (f g : Nat) (gap : Bool) (o l : List UInt8), l.length ≤ f → l.length ≤ g → refGo f gap o l = refGo g gap o l := by
  intro f
  induction f with
  | zero =>
    intro g gap o l h1 h2
    have : l = [] := List.length_eq_zero_iff.1 (by omega)
    subst this; rw [refGo_nil, refGo_nil]
  | succ f ih =>
    intro g gap o l h1 h2
    by_cases hl : l = []
    · subst hl; rw [refGo_nil, refGo_nil]
    have hw := Lib.decodeL_width l
    have h0 : 0 < l.length := List.length_pos_iff.2 hl
    obtain ⟨g, rfl⟩ : ∃ g', g = g' + 1 := ⟨g - 1, by omega⟩
    have hd : (l.drop (Lib.decodeL l).2).length = l.length - (Lib.decodeL l).2 := List.length_drop
    rw [refGo, refGo, if_neg hl, if_neg hl]
    split
    · exact ih g _ _ _ (by omega) (by omega)
    · exact ih g _ _ _ (by omega) (by omega)
/-- The loop with as many rounds as the text has bytes. -/
def rg (gap : Bool) (o l : List UInt8) : List UInt8 := refGo l.length gap o l
theorem rg_step (gap : Bool) (o l : List UInt8) (hl : l ≠ []) : rg gap o l = if space (Lib.decodeL l).1 = true then rg true o (l.drop (Lib.decodeL l).2)
    else rg false ((if gap = true ∧ o ≠ [] then o ++ [32] else o) ++ sm (Lib.decodeL l).1) (l.drop (Lib.decodeL l).2) := by
  have hw := Lib.decodeL_width l
  have hd : (l.drop (Lib.decodeL l).2).length = l.length - (Lib.decodeL l).2 := List.length_drop
  obtain ⟨n, hn⟩ : ∃ n, l.length = n + 1 := ⟨l.length - 1, by have := List.length_pos_iff.2 hl; omega⟩
  unfold rg
  rw [hn, refGo, if_neg hl]
  split
  · exact refGo_fuel _ _ _ _ _ (by omega) (by omega)
  · exact refGo_fuel _ _ _ _ _ (by omega) (by omega)
/-- A rune that is folded already. -/
theorem rg_enc (q : Nat) (hv : q < 55296 ∨ (57343 < q ∧ q ≤ 1114111)) (hs : space q = false) (hq : small q = q) (h1 : q ≠ 223) (h2 : q ≠ 7838) (gap : Bool) (o s : List UInt8) :
    rg gap o (Lib.encodeRune (q : Int) ++ s) = rg false ((if gap = true ∧ o ≠ [] then o ++ [32] else o) ++ Lib.encodeRune (q : Int)) s := by
  have hd := decode_enc q hv s
  have hne : Lib.encodeRune (q : Int) ++ s ≠ [] := by
    intro e
    have hl := List.append_eq_nil_iff.1 e
    unfold Lib.encodeRune Lib.encodeRuneZ at hl
    revert hl
    repeat' split
    all_goals simp
  rw [rg_step gap o _ hne, hd, if_neg (by rw [hs]; decide), List.drop_left]
  congr 2
  unfold sm; rw [hq, if_neg (by omega)]
theorem rg_sm (r : Nat) (hv : r < 55296 ∨ (57343 < r ∧ r ≤ 1114111)) (hs : space r = false) (gap : Bool) (o s : List UInt8) :
    rg gap o (sm r ++ s) = rg false ((if gap = true ∧ o ≠ [] then o ++ [32] else o) ++ sm r) s := by
  by_cases h : small r = 223 ∨ small r = 7838
  · have e : sm r = Lib.encodeRune ((115 : Nat) : Int) ++ Lib.encodeRune ((115 : Nat) : Int) := by unfold sm; rw [if_pos h]; rfl
    rw [e, List.append_assoc, rg_enc 115 (by omega) (by decide) (by decide) (by decide) (by decide), rg_enc 115 (by omega) (by decide) (by decide) (by decide) (by decide), if_neg (show ¬ (false = true ∧ _) by rintro ⟨h, _⟩; cases h), List.append_assoc]
  · have hb := small_in r (by omega)
    obtain ⟨q, hq⟩ : ∃ q : Nat, small r = (q : Int) := ⟨(small r).toNat, by omega⟩
    have e : sm r = Lib.encodeRune (q : Int) := by unfold sm; rw [if_neg h, hq]
    have hcase : q = r ∨ (97 ≤ q ∧ q ≤ 122) ∨ (224 ≤ q ∧ q ≤ 254 ∧ q ≠ 247) ∨ (945 ≤ q ∧ q ≤ 969) ∨ (1072 ≤ q ∧ q ≤ 1119) := by
      have hq' := hq
      unfold small at hq'
      split at hq'
      · omega
      · split at hq' <;> omega
    have hqq : small q = q := by
      rcases hcase with rfl | hc
      · exact hq
      · unfold small
        rw [if_neg (by omega), if_neg (by omega)]
    have hsq : space q = false := by
      rcases hcase with rfl | hc
      · exact hs
      · unfold space
        simp only [Bool.or_eq_false_iff, Bool.and_eq_false_iff, beq_eq_false_iff_ne, decide_eq_false_iff_not, ne_eq]
        omega
    rw [hq] at h
    rw [e]
    exact rg_enc q (by rcases hcase with rfl | hc; exact hv; omega) hsq hqq (by omega) (by omega) gap o s
/-- What is folded is read as it stands. -/
def Kept (o : List UInt8) : Prop := ∀ s, rg false [] (o ++ s) = rg false o s
theorem decodeL_valid (l : List UInt8) : (Lib.decodeL l).1 < 55296 ∨ (57343 < (Lib.decodeL l).1 ∧ (Lib.decodeL l).1 ≤ 1114111) := by
  rw [decodeL_N]
  have h0 : (l.getD 0 0).toNat < 256 := UInt8.toNat_lt _
  generalize (l.getD 0 0).toNat = b0 at *
  unfold Lib.decodeN
  repeat' split
  all_goals first | omega | (simp only; omega)
theorem kept_go : ∀ (f : Nat) (gap : Bool) (o l : List UInt8), Kept o → Kept (refGo f gap o l) := by
  intro f
  induction f with
  | zero => intro gap o l h; exact h
  | succ f ih =>
    intro gap o l h
    rw [refGo]
    split
    · exact h
    · split
      · exact ih _ _ _ h
      · next hsp =>
        have hs : space (Lib.decodeL l).1 = false := by simpa using hsp
        refine ih _ _ _ ?_
        intro s
        by_cases hg : gap = true ∧ o ≠ []
        · rw [if_pos hg, List.append_assoc, List.append_assoc, h]
          rw [List.singleton_append, rg_step false o _ (by simp), Lib.decodeL_ascii 32 _ (by decide), if_pos (by decide)]
          show rg true o (sm (Lib.decodeL l).1 ++ s) = _
          rw [rg_sm _ (decodeL_valid l) hs, if_pos ⟨rfl, hg.2⟩, List.append_assoc]
        · rw [if_neg hg, List.append_assoc, h, rg_sm _ (decodeL_valid l) hs, if_neg (by rintro ⟨h, _⟩; cases h)]
/-- Twice is once. -/
theorem fold_fold (l : List UInt8) : fold (fold l) = fold l := by
  have hk : Kept (fold l) := by
    rw [← ref_fold l]
    exact kept_go _ _ _ _ (fun s => rfl)
  have h := hk []
  rw [List.append_nil] at h
  rw [← ref_fold (fold l)]
  exact h.trans (refGo_nil _ _ _)
end Go.Proofs.YthdlibgiejpjeaaGreatDoor.Fold

