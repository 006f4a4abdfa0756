/- Plain laws of Spec.entity and Spec.unescape: lengths, and unescape by one step. -/
import Derived.Test.YthdlibgiejpjeaaGreatDoorSpec
set_option linter.unusedVariables false
set_option linter.unusedSimpArgs false
namespace Go.Proofs.YthdlibgiejpjeaaGreatDoor.Spec
open Go

theorem encode_len (n : Int) : (Utf8.encode n).data.toList.length ≤ 4 := by
  unfold Utf8.encode
  dsimp only
  generalize (if Utf8.valid n = true then n.toNat else Utf8.runeError) = c
  split
  · exact Nat.le_of_ble_eq_true rfl
  · split
    · exact Nat.le_of_ble_eq_true rfl
    · split
      · exact Nat.le_of_ble_eq_true rfl
      · exact Nat.le_of_ble_eq_true rfl
theorem encB_len (m : Int) : (encB m).length ≤ 4 := by
  unfold encB; exact encode_len m
theorem runeText_len (n : Nat) : (runeText n).length ≤ 4 := encB_len _
theorem named_len (l : List UInt8) : (named l).length ≤ 5 := by
  have h : ∀ (ns : List (List UInt8 × List UInt8)), (ns.all fun p => decide (p.2.length ≤ 5)) = true → (namedIn l ns).length ≤ 5 := by
    intro ns
    induction ns with
    | nil => intro _; simp [namedIn]
    | cons p r ih =>
      intro h
      obtain ⟨a, b⟩ := p
      simp only [List.all_cons, Bool.and_eq_true, decide_eq_true_eq] at h
      unfold namedIn
      split
      · exact h.1
      · exact ih h.2
  exact h names (by simp [names])
theorem number_bounds (l : List UInt8) (b m : Nat) : (number l b m).2 ≤ l.length ∧ (number l b m).1.length ≤ 5 ∧ ((number l b m).2 = 0 → (number l b m).1 = []) := by
  unfold number
  dsimp only
  split
  · simp
  · rename_i h
    have hle : (l.takeWhile (fun c => decide (digit c < b))).length ≤ l.length := (List.takeWhile_sublist _).length_le
    have hne : (l.takeWhile (fun c => decide (digit c < b))).length ≠ l.length := by
      intro e
      apply h
      right; right
      rw [List.drop_eq_nil_of_le (by omega)]; simp
    refine ⟨?_, ?_, fun h0 => absurd h0 (Nat.succ_ne_zero _)⟩
    · generalize (l.takeWhile (fun c => decide (digit c < b))).length = x at hle hne
      show x + 1 ≤ l.length
      omega
    have := runeText_len (value b (l.takeWhile (fun c => decide (digit c < b))))
    simp only; omega
theorem entity_bounds (l : List UInt8) : (entity l).2 ≤ l.length ∧ (entity l).1.length ≤ 5 := by
  unfold entity
  split
  · rename_i hash
    dsimp only
    split
    · rename_i c h1 
      split
      · split
        · simp
        · have := number_bounds h1 16 6
          simp only [List.length_cons]; omega
      · split
        · simp
        · have := number_bounds (c :: h1) 10 7
          simp only [List.length_cons] at *; omega
    · simp
  · rename_i rest _
    dsimp only
    split
    · rename_i h
      have := named_len (rest.takeWhile notSemi)
      simp only [List.length_cons]; omega
    · simp
  · simp

theorem unescape_fuel : ∀ (k1 k2 : Nat) (l : List UInt8), l.length ≤ k1 → l.length ≤ k2 → unescapeK k1 l = unescapeK k2 l := by
  intro k1
  induction k1 with
  | zero =>
    intro k2 l h1 h2
    have : l = [] := List.length_eq_zero_iff.1 (by omega)
    subst this
    cases k2 <;> rfl
  | succ k1 ih =>
    intro k2 l h1 h2
    cases l with
    | nil => cases k2 <;> rfl
    | cons c r =>
      cases k2 with
      | zero => simp at h2
      | succ k2 =>
        simp only [List.length_cons] at h1 h2
        have ht : r.tail.length ≤ r.length := by simp
        have hd : 0 < (entity (c :: r)).2 → ((c :: r).drop (entity (c :: r)).2).length ≤ r.length := by
          intro h; rw [List.length_drop, List.length_cons]; omega
        simp only [unescapeK]
        split
        · rw [ih k2 r.tail (by omega) (by omega)]
        · split
          · rename_i hp
            have := hd hp
            rw [ih k2 _ (by omega) (by omega)]
          · rw [ih k2 r (by omega) (by omega)]
theorem unescape_nil : unescape [] = [] := rfl
theorem unescape_mark (d : UInt8) (r : List UInt8) (h : markC d = true) : unescape (92 :: d :: r) = d :: unescape r := by
  unfold unescape
  simp only [List.length_cons, unescapeK, List.head?_cons, Option.map_some, Option.getD_some, h, and_self, if_true, Option.toList_some, List.tail_cons]
  rw [unescape_fuel (r.length + 1) r.length r (by omega) (by omega)]; rfl
theorem unescape_ref (c : UInt8) (r : List UInt8) (h : ¬ (c = 92 ∧ (r.head?.map markC).getD false = true)) (hp : 0 < (entity (c :: r)).2) : unescape (c :: r) = (entity (c :: r)).1 ++ unescape ((c :: r).drop (entity (c :: r)).2) := by
  unfold unescape
  have hd : ((c :: r).drop (entity (c :: r)).2).length ≤ r.length := by rw [List.length_drop, List.length_cons]; omega
  simp only [List.length_cons, unescapeK, if_neg h, if_pos hp]
  rw [unescape_fuel r.length _ _ hd (Nat.le_refl _)]
theorem unescape_byte (c : UInt8) (r : List UInt8) (h : ¬ (c = 92 ∧ (r.head?.map markC).getD false = true)) (hp : ¬ 0 < (entity (c :: r)).2) : unescape (c :: r) = c :: unescape r := by
  unfold unescape
  simp only [List.length_cons, unescapeK, if_neg h, if_neg hp]
end Go.Proofs.YthdlibgiejpjeaaGreatDoor.Spec
