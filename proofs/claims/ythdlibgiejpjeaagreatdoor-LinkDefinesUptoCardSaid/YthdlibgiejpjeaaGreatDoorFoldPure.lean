/- runes.Fold as plain functions: a label as it is compared: its words with one blank between, small letters, and 'ss' for each sharp s. -/
import Derived.Lib.FieldsP
import Derived.Lib.MapLaws
import Derived.Lib.Join
import Derived.Lib.TrimAscii
import Derived.Lib.TrimU
set_option linter.unusedVariables false
set_option linter.unusedSimpArgs false
namespace Go.Proofs.YthdlibgiejpjeaaGreatDoor.Fold
open Go

/-- How long the pattern is with which a text begins; 0: none. -/
def hit : List UInt8 → Nat
  | 195 :: 159 :: _ => 2
  | 225 :: 186 :: 158 :: _ => 3
  | _ => 0
def foldRep : List UInt8 → List UInt8
  | 195 :: 159 :: r => 115 :: 115 :: foldRep r
  | 225 :: 186 :: 158 :: r => 115 :: 115 :: foldRep r
  | c :: r => c :: foldRep r
  | [] => []
theorem foldRep_nil : foldRep [] = [] := rfl
theorem foldRep_miss (c : UInt8) (r : List UInt8) (h : hit (c :: r) = 0) : foldRep (c :: r) = c :: foldRep r := by
  rw [foldRep]
  · rintro r' rfl hr; subst hr; simp [hit] at h
  · rintro r' rfl hr; subst hr; simp [hit] at h
theorem hit_cases (l : List UInt8) : hit l = 0 ∨ (hit l = 2 ∧ ∃ r, l = 195 :: 159 :: r) ∨ (hit l = 3 ∧ ∃ r, l = 225 :: 186 :: 158 :: r) := by
  unfold hit
  split
  · exact .inr (.inl ⟨rfl, _, rfl⟩)
  · exact .inr (.inr ⟨rfl, _, rfl⟩)
  · exact .inl rfl
theorem foldRep_hit (l : List UInt8) (h : hit l ≠ 0) : foldRep l = 115 :: 115 :: foldRep (l.drop (hit l)) := by
  rcases hit_cases l with h0 | ⟨h2, r, rfl⟩ | ⟨h3, r, rfl⟩
  · exact absurd h0 h
  · rw [h2, foldRep]; rfl
  · rw [h3, foldRep]; rfl
theorem hit_le (l : List UInt8) : hit l ≤ l.length := by
  rcases hit_cases l with h0 | ⟨h2, r, rfl⟩ | ⟨h3, r, rfl⟩
  · omega
  · rw [h2]; simp
  · rw [h3]; simp
theorem foldRep_len (l : List UInt8) : (foldRep l).length ≤ l.length := by
  obtain ⟨n, hn⟩ : ∃ n, n = l.length := ⟨_, rfl⟩
  induction n using Nat.strongRecOn generalizing l with
  | _ n ih =>
    cases l with
    | nil => simp [foldRep]
    | cons c r =>
      by_cases h : hit (c :: r) = 0
      · rw [foldRep_miss c r h]
        have := ih r.length (by rw [hn]; simp) r rfl
        simp only [List.length_cons]; omega
      · rw [foldRep_hit _ h]
        have h2 : 2 ≤ hit (c :: r) := by rcases hit_cases (c :: r) with h0 | ⟨h2, _⟩ | ⟨h3, _⟩ <;> omega
        have hl := hit_le (c :: r)
        have hd : ((c :: r).drop (hit (c :: r))).length = (c :: r).length - hit (c :: r) := List.length_drop
        have := ih _ (by rw [hn, hd]; omega) ((c :: r).drop (hit (c :: r))) rfl
        simp only [List.length_cons] at this hd hl ⊢; omega

def space (r : Nat) : Bool := r == 9 || r == 10 || r == 12 || r == 13 || r == 32 || r == 160 || r == 5760 || r == 8239 || r == 8287 || r == 12288 || (decide (8192 ≤ r) && decide (r ≤ 8202))
def small (r : Int) : Int := if (65 ≤ r ∧ r ≤ 90) ∨ (192 ≤ r ∧ r ≤ 222 ∧ r ≠ 215) ∨ (913 ≤ r ∧ r ≤ 937) ∨ (1040 ≤ r ∧ r ≤ 1071) then r + 32 else if 1024 ≤ r ∧ r ≤ 1039 then r + 80 else r
theorem small_in (x : Nat) (h : x ≤ 1114111) : 0 ≤ small x ∧ small x ≤ 2147483647 := by
  unfold small; split
  · omega
  · split <;> omega

/-! the words -/
theorem spans_more (p : Nat → Bool) (s : ByteArray) : ∀ (f pos : Nat) (st : Option Nat) (acc : List (Nat × Nat)), ∃ ext, Lib.closeSpans s (Lib.spansFromP p s f pos st acc) = acc ++ ext
  | 0, pos, st, acc => by
    cases st with
    | none => exact ⟨[], by simp [Lib.spansFromP, Lib.closeSpans]⟩
    | some a => exact ⟨[(a, s.size)], by simp [Lib.spansFromP, Lib.closeSpans]⟩
  | f + 1, pos, st, acc => by
    unfold Lib.spansFromP
    split
    · split
      · cases st with
        | none => exact spans_more p s f _ _ _
        | some a =>
          obtain ⟨ext, h⟩ := spans_more p s f (pos + (Utf8.decode s pos).2) none (acc ++ [(a, pos)])
          exact ⟨(a, pos) :: ext, by rw [h]; simp⟩
      · cases st with
        | none => exact spans_more p s f _ _ _
        | some a => exact spans_more p s f _ _ _
    · cases st with
      | none => exact ⟨[], by simp [Lib.closeSpans]⟩
      | some a => exact ⟨[(a, s.size)], by simp [Lib.closeSpans]⟩
theorem spans_open (p : Nat → Bool) (s : ByteArray) (a : Nat) : ∀ (f pos : Nat) (acc : List (Nat × Nat)), ∃ b ext, Lib.closeSpans s (Lib.spansFromP p s f pos (some a) acc) = acc ++ (a, b) :: ext ∧ min pos s.size ≤ b
  | 0, pos, acc => ⟨s.size, [], by simp [Lib.spansFromP, Lib.closeSpans], by omega⟩
  | f + 1, pos, acc => by
    unfold Lib.spansFromP
    split
    · split
      · obtain ⟨ext, h⟩ := spans_more p s f (pos + (Utf8.decode s pos).2) none (acc ++ [(a, pos)])
        exact ⟨pos, ext, by show Lib.closeSpans s (Lib.spansFromP p s f _ none (acc ++ [(a, pos)])) = _; rw [h]; simp, by omega⟩
      · obtain ⟨b, ext, h, hb⟩ := spans_open p s a f (pos + (Utf8.decode s pos).2) acc
        exact ⟨b, ext, h, by omega⟩
    · exact ⟨s.size, [], by simp [Lib.closeSpans], by omega⟩
def wide (acc : List (Nat × Nat)) : Nat := (acc.map fun x => x.2 - x.1).sum
theorem wide_snoc (acc : List (Nat × Nat)) (a b : Nat) : wide (acc ++ [(a, b)]) = wide acc + (b - a) := by unfold wide; simp
def left (st : Option Nat) (pos : Nat) : Nat := match st with | some a => a | none => pos
def opn (st : Option Nat) : Nat := match st with | some _ => 1 | none => 0
theorem spans_size (p : Nat → Bool) (s : ByteArray) : ∀ (f pos : Nat) (st : Option Nat) (acc : List (Nat × Nat)), left st pos ≤ pos →
    wide (Lib.closeSpans s (Lib.spansFromP p s f pos st acc)) ≤ wide acc + (s.size - left st pos) ∧ (Lib.closeSpans s (Lib.spansFromP p s f pos st acc)).length ≤ acc.length + opn st + (s.size - pos)
  | 0, pos, st, acc, h => by
    cases st with
    | none => simp [Lib.spansFromP, Lib.closeSpans]; omega
    | some a => simp [Lib.spansFromP, Lib.closeSpans, wide_snoc, left, opn]
  | f + 1, pos, st, acc, h => by
    unfold Lib.spansFromP
    have hw := Lib.width_pos s pos
    split
    · split
      · cases st with
        | none =>
          obtain ⟨h1, h2⟩ := spans_size p s f (pos + (Utf8.decode s pos).2) none acc (Nat.le_refl _)
          simp only [left, opn] at h1 h2 ⊢
          exact ⟨by omega, by omega⟩
        | some a =>
          obtain ⟨h1, h2⟩ := spans_size p s f (pos + (Utf8.decode s pos).2) none (acc ++ [(a, pos)]) (Nat.le_refl _)
          rw [wide_snoc] at h1
          rw [List.length_append, List.length_singleton] at h2
          simp only [left, opn] at h h1 h2 ⊢
          exact ⟨by omega, by omega⟩
      · cases st with
        | none =>
          obtain ⟨h1, h2⟩ := spans_size p s f (pos + (Utf8.decode s pos).2) (some pos) acc (by simp only [left]; omega)
          simp only [left, opn] at h1 h2 ⊢
          exact ⟨by omega, by omega⟩
        | some a =>
          obtain ⟨h1, h2⟩ := spans_size p s f (pos + (Utf8.decode s pos).2) (some a) acc (by simp only [left] at h ⊢; omega)
          simp only [left, opn] at h1 h2 ⊢
          exact ⟨by omega, by omega⟩
    · cases st with
      | none => simp [Lib.closeSpans]; omega
      | some a => simp [Lib.closeSpans, wide_snoc, left, opn]
def words (l : List UInt8) : List (List UInt8) := (Lib.goFieldsP space ⟨l.toArray⟩).map (·.data.toList)
def joined (l : List UInt8) : List UInt8 := Lib.join (words l) [32]
theorem lens_map (s : ByteArray) (acc : List (Nat × Nat)) : Lib.lens ((acc.map fun x => s.extract x.1 x.2).map (·.data.toList)) ≤ wide acc := by
  induction acc with
  | nil => simp [Lib.lens, wide]
  | cons x t ih =>
    unfold Lib.lens wide at ih ⊢
    simp only [List.map_cons, List.sum_cons]
    have hx : (s.extract x.1 x.2).data.toList.length ≤ x.2 - x.1 := by
      rw [← Lib.size_eq, ByteArray.size_extract]; omega
    omega
theorem size_mk (l : List UInt8) : (⟨l.toArray⟩ : ByteArray).size = l.length := by show l.toArray.size = _; simp
theorem words_size (l : List UInt8) : Lib.lens (words l) ≤ l.length ∧ (words l).length ≤ l.length := by
  obtain ⟨h1, h2⟩ := spans_size space ⟨l.toArray⟩ (⟨l.toArray⟩ : ByteArray).size 0 none [] (Nat.le_refl _)
  have h3 := lens_map ⟨l.toArray⟩ (Lib.spansOfP space ⟨l.toArray⟩)
  rw [size_mk] at h1 h2
  simp only [wide, left, opn, List.map_nil, List.sum_nil, List.length_nil] at h1 h2
  unfold words Lib.goFieldsP
  refine ⟨Nat.le_trans h3 ?_, ?_⟩
  · unfold wide Lib.spansOfP; rw [size_mk]; omega
  · rw [List.length_map, List.length_map]; unfold Lib.spansOfP; rw [size_mk]; omega
theorem joined_len (l : List UInt8) : (joined l).length ≤ 2 * l.length := by
  obtain ⟨h1, h2⟩ := words_size l
  unfold joined
  cases h : words l with
  | nil => rw [Lib.join_nil]; simp
  | cons x r =>
    rw [Lib.join_length]
    rw [h] at h1 h2
    simp only [List.length_cons, List.length_nil] at h2 ⊢
    omega
theorem mapGo_len (f : Int → Int) : ∀ (n : Nat) (l : List UInt8), (Lib.mapGoD f n l).length ≤ 4 * n
  | 0, l => by simp [Lib.mapGoD]
  | n + 1, l => by
    rw [Lib.mapGoD]
    split
    · simp
    · have := mapGo_len f n (l.drop (Lib.decodeL l).2)
      have he : (Lib.encodeRune (f (Lib.decodeL l).1)).length ≤ 4 := by unfold Lib.encodeRune; rw [List.length_map]; exact (Lib.encodeRuneZ_length _).2
      rw [List.length_append]
      split
      · omega
      · simp; omega
def fold (l : List UInt8) : List UInt8 := foldRep (Lib.mapD small (joined l))
theorem mapped_len (l : List UInt8) : (Lib.mapD small (joined l)).length ≤ 8 * l.length := by
  have h1 := mapGo_len small (joined l).length (joined l)
  have h2 := joined_len l
  unfold Lib.mapD; omega
theorem fold_len (l : List UInt8) : (fold l).length ≤ 8 * l.length := Nat.le_trans (foldRep_len _) (mapped_len l)

/-! a text that begins with a small letter is not blank -/
theorem words_head (c : UInt8) (r : List UInt8) (h1 : 33 ≤ c.toNat) (h2 : c.toNat < 127) : ∃ t m, words (c :: r) = (c :: t) :: m := by
  have hd : Utf8.decode ⟨(c :: r).toArray⟩ 0 = (c.toNat, 1) := Lib.decodeL_ascii c r (by omega)
  have hs : space c.toNat = false := by
    unfold space
    simp only [Bool.or_eq_false_iff, Bool.and_eq_false_iff, beq_eq_false_iff_ne, decide_eq_false_iff_not]
    refine ⟨⟨⟨⟨⟨⟨⟨⟨⟨⟨by omega, by omega⟩, by omega⟩, by omega⟩, by omega⟩, by omega⟩, by omega⟩, by omega⟩, by omega⟩, by omega⟩, by omega⟩
  have hz : (⟨(c :: r).toArray⟩ : ByteArray).size = r.length + 1 := by rw [size_mk]; rfl
  obtain ⟨b, ext, h, hb⟩ := spans_open space ⟨(c :: r).toArray⟩ 0 r.length 1 []
  have hso : Lib.spansOfP space ⟨(c :: r).toArray⟩ = (0, b) :: ext := by
    unfold Lib.spansOfP
    rw [hz, Lib.spansFromP, if_pos (by rw [hz]; omega), hd, if_neg (by rw [hs]; decide)]
    exact h
  rw [hz] at hb
  unfold words Lib.goFieldsP
  rw [hso, List.map_cons, List.map_cons]
  have hx : ((⟨(c :: r).toArray⟩ : ByteArray).extract 0 b).data.toList = c :: (r.take (b - 1)) := by
    rw [Lib.extract_data]
    obtain ⟨q, rfl⟩ : ∃ q, b = q + 1 := ⟨b - 1, by omega⟩
    simp
  exact ⟨_, _, by rw [hx]⟩
theorem fold_ne (c : UInt8) (r : List UInt8) (h1 : 97 ≤ c.toNat) (h2 : c.toNat < 123) : fold (c :: r) ≠ [] := by
  obtain ⟨t, m, hw⟩ := words_head c r (by omega) (by omega)
  have hj : ∃ t', joined (c :: r) = c :: t' := by
    unfold joined; rw [hw, Lib.join_cons]; exact ⟨_, rfl⟩
  obtain ⟨t', hj⟩ := hj
  unfold fold
  have hm : Lib.mapD small (c :: t') = c :: Lib.mapD small t' := by
    rw [Lib.mapD_step small (c :: t') (by simp), Lib.decodeL_ascii c t' (by omega)]
    have hsm : small (c.toNat : Int) = (c.toNat : Int) := by unfold small; rw [if_neg (by omega), if_neg (by omega)]
    rw [hsm, if_pos (by omega)]
    have he : Lib.encodeRune (c.toNat : Int) = [c] := by unfold Lib.encodeRune; rw [Lib.encodeRuneZ_one (by omega) (by omega)]; simp
    rw [he]; rfl
  rw [hj, hm, foldRep_miss]
  · simp
  · rcases hit_cases (c :: Lib.mapD small t') with h0 | ⟨_, _, h⟩ | ⟨_, _, h⟩
    · exact h0
    · injection h with h _; rw [h] at h2; exact absurd h2 (by decide)
    · injection h with h _; rw [h] at h2; exact absurd h2 (by decide)
theorem fold_foo : fold [70, 111, 111] = [102, 111, 111] := by decide +kernel
theorem fold_ab : fold [97, 92, 93, 98] = [97, 92, 93, 98] := by decide +kernel
end Go.Proofs.YthdlibgiejpjeaaGreatDoor.Fold
