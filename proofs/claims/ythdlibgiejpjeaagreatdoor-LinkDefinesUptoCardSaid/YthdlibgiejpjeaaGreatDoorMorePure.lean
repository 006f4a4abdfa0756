/- Plain laws of Spec.unescape and Spec.entity: texts without escapes, marks with backslashes, numbers. -/
import Derived.Test.YthdlibgiejpjeaaGreatDoorSpecLaws
set_option linter.unusedVariables false
set_option linter.unusedSimpArgs false
namespace Go.Proofs.YthdlibgiejpjeaaGreatDoor.MorePure
open Go Go.Proofs.YthdlibgiejpjeaaGreatDoor.Spec

theorem entity_no (c : UInt8) (r : List UInt8) (h : c ≠ 38) : entity (c :: r) = ([], 0) := by
  unfold entity
  split
  · rename_i heq; injection heq with a b; exact absurd a h
  · rename_i heq; injection heq with a b; exact absurd a h
  · rfl
theorem unescape_plain (l : List UInt8) (h : ∀ c ∈ l, c ≠ 92 ∧ c ≠ 38) : unescape l = l := by
  induction l with
  | nil => rfl
  | cons c r ih =>
    have hc := h c List.mem_cons_self
    rw [unescape_byte c r (fun e => hc.1 e.1) (by rw [entity_no c r hc.2]; simp), ih (fun x hx => h x (List.mem_cons_of_mem _ hx))]
def marked (c : UInt8) : List UInt8 := if markC c then [92, c] else [c]
theorem unescape_marked (l : List UInt8) : unescape (l.flatMap marked) = l := by
  induction l with
  | nil => rfl
  | cons c r ih =>
    rw [List.flatMap_cons]
    unfold marked
    by_cases h : markC c = true
    · rw [if_pos h]
      show unescape (92 :: c :: r.flatMap marked) = c :: r
      rw [unescape_mark c _ h, ih]
    · rw [if_neg h]
      show unescape (c :: r.flatMap marked) = c :: r
      have h1 : c ≠ 92 := fun e => h (by rw [e]; rfl)
      have h2 : c ≠ 38 := fun e => h (by rw [e]; rfl)
      rw [unescape_byte c _ (fun e => h1 e.1) (by rw [entity_no c _ h2]; simp), ih]

/-- A number's digits, the last one first put down: as the law's loops write them. -/
def numL (base : Nat) : Nat → Nat → List UInt8 → List UInt8
  | 0, _, acc => acc
  | f + 1, k, acc => if k > 0 ∨ acc = [] then numL base f (k / base) (hexL (k % base) :: acc) else acc
where hexL (n : Nat) : UInt8 := if n < 10 then UInt8.ofNat (48 + n) else UInt8.ofNat (87 + n)
theorem hexL_digit : ∀ n : Fin 16, digit (numL.hexL n.val) = n.val := by decide +kernel
theorem hexL_dig (n : Nat) (h : n < 16) : digit (numL.hexL n) = n := hexL_digit ⟨n, h⟩
theorem value_cons (base : Nat) (c : UInt8) (l : List UInt8) : ∀ n, l.foldl (fun n c => base * n + digit c) n = n * base ^ l.length + value base l := by
  unfold value
  induction l with
  | nil => intro n; simp
  | cons d r ih =>
    intro n
    rw [List.foldl_cons, List.foldl_cons, ih (base * n + digit d), ih (base * 0 + digit d), List.length_cons, Nat.pow_succ]
    rw [Nat.add_mul, Nat.mul_zero, Nat.zero_add, Nat.mul_comm base n, Nat.mul_assoc, Nat.mul_comm base (base ^ r.length), Nat.add_assoc]
theorem value_cons' (base : Nat) (c : UInt8) (l : List UInt8) : value base (c :: l) = digit c * base ^ l.length + value base l := by
  show l.foldl (fun n c => base * n + digit c) (base * 0 + digit c) = _
  rw [value_cons base c l, Nat.mul_zero, Nat.zero_add]
theorem numL_facts (base : Nat) (hb : 2 ≤ base) (hb2 : base ≤ 16) : ∀ (f k : Nat) (acc : List UInt8), k < 2 ^ f → (acc = [] → 1 ≤ f) → (∀ c ∈ acc, digit c < base) →
    value base (numL base f k acc) = k * base ^ acc.length + value base acc ∧ (∀ c ∈ numL base f k acc, digit c < base) ∧ numL base f k acc ≠ [] := by
  intro f
  induction f with
  | zero =>
    intro k acc hk hf ha
    have : k = 0 := by simpa using hk
    subst this
    unfold numL
    exact ⟨by simp, ha, fun e => by have := hf e; omega⟩
  | succ f ih =>
    intro k acc hk hf ha
    unfold numL
    by_cases h : k > 0 ∨ acc = []
    · rw [if_pos h]
      have hm : k % base < base := Nat.mod_lt _ (by omega)
      have hd : digit (numL.hexL (k % base)) = k % base := hexL_dig _ (by omega)
      have hq : k / base < 2 ^ f := by
        rw [Nat.pow_succ] at hk
        have : k / base ≤ k / 2 := Nat.div_le_div_left hb (by omega)
        omega
      obtain ⟨h1, h2, h3⟩ := ih (k / base) (numL.hexL (k % base) :: acc) hq (fun e => by cases e) (by
        intro c hc
        rcases List.mem_cons.1 hc with rfl | hc
        · rw [hd]; exact hm
        · exact ha c hc)
      refine ⟨?_, h2, h3⟩
      rw [h1, value_cons', hd, List.length_cons, Nat.pow_succ, ← Nat.add_assoc]
      congr 1
      rw [Nat.mul_comm (base ^ acc.length) base, ← Nat.mul_assoc, ← Nat.add_mul]
      congr 1
      rw [Nat.mul_comm]; exact Nat.div_add_mod k base
    · rw [if_neg h]
      have hk0 : k = 0 := by omega
      subst hk0
      exact ⟨by simp, ha, fun e => h (.inr e)⟩
theorem numL_len (base : Nat) (hb : 2 ≤ base) : ∀ (m f k : Nat) (acc : List UInt8), k < base ^ m → (acc = [] → 1 ≤ m) → (numL base f k acc).length ≤ acc.length + m := by
  intro m
  induction m with
  | zero =>
    intro f k acc hk ha
    have : k = 0 := by simpa using hk
    subst this
    cases f with
    | zero => unfold numL; omega
    | succ f =>
      unfold numL
      rw [if_neg (fun h => h.elim (fun h => absurd h (by omega)) (fun h => by have := ha h; omega))]; omega
  | succ m ih =>
    intro f k acc hk ha
    cases f with
    | zero => unfold numL; omega
    | succ f =>
      unfold numL
      split
      · have hq : k / base < base ^ m := by
          rw [Nat.pow_succ] at hk
          exact (Nat.div_lt_iff_lt_mul (by omega)).2 hk
        have := ih f (k / base) (numL.hexL (k % base) :: acc) hq (fun e => by cases e)
        simp only [List.length_cons] at this; omega
      · omega
theorem takeWhile_ds (base : Nat) (hb : base ≤ 16) (ds R : List UInt8) (h : ∀ c ∈ ds, digit c < base) : (ds ++ 59 :: R).takeWhile (fun c => decide (digit c < base)) = ds := by
  rw [List.takeWhile_append_of_pos (fun a ha => by simpa using h a ha), List.takeWhile_cons, if_neg (by simp [show digit 59 = 16 from rfl]; omega)]; simp
theorem number_ds (base most : Nat) (hb : base ≤ 16) (ds R : List UInt8) (h : ∀ c ∈ ds, digit c < base) (hne : ds ≠ []) (hm : ds.length ≤ most) : number (ds ++ 59 :: R) base most = (runeText (value base ds), ds.length + 1) := by
  unfold number
  rw [takeWhile_ds base hb ds R h]
  dsimp only
  rw [if_neg]
  rintro (e | e | e)
  · exact hne e
  · omega
  · exact e (by rw [List.drop_left' rfl]; rfl)
theorem no_x : ∀ c : Fin 256, digit c.val.toUInt8 < 10 → c.val.toUInt8 ||| 32 ≠ 120 := by decide +kernel
theorem entity_ref (c : UInt8) (r : List UInt8) : entity (38 :: 35 :: c :: r) = if c ||| 32 = 120 then (if (number r 16 6).2 = 0 then ([], 0) else ((number r 16 6).1, 3 + (number r 16 6).2)) else (if (number (c :: r) 10 7).2 = 0 then ([], 0) else ((number (c :: r) 10 7).1, 2 + (number (c :: r) 10 7).2)) := by
  unfold entity
  split
  · rename_i hash heq
    injection heq with h1 h2; injection h2 with h2 h3; subst h3
    by_cases hx : c ||| 32 = 120
    · simp only [if_pos hx]
    · simp only [if_neg hx]
  · rename_i rest hx heq
    injection heq with h1 h2; subst h2; exact absurd rfl (hx _)
  · rename_i h1 h2
    exact absurd rfl (h1 _)
theorem entity_ten (ds R : List UInt8) (h : ∀ c ∈ ds, digit c < 10) (hne : ds ≠ []) (hm : ds.length ≤ 7) : entity (38 :: 35 :: (ds ++ 59 :: R)) = (runeText (value 10 ds), ds.length + 3) := by
  cases ds with
  | nil => exact absurd rfl hne
  | cons c r =>
    have hn := number_ds 10 7 (by omega) (c :: r) R h hne hm
    have hx : ¬ (c ||| 32 = 120) := by
      have := no_x ⟨c.toNat, c.toNat_lt⟩
      simp only [show c.toNat.toUInt8 = c by simp] at this
      exact this (h c List.mem_cons_self)
    rw [List.cons_append] at hn ⊢
    rw [entity_ref, if_neg hx, hn]
    dsimp only
    rw [if_neg (by omega)]
    congr 1
    omega
theorem entity_hex (ds R : List UInt8) (h : ∀ c ∈ ds, digit c < 16) (hne : ds ≠ []) (hm : ds.length ≤ 6) : entity (38 :: 35 :: 120 :: (ds ++ 59 :: R)) = (runeText (value 16 ds), ds.length + 4) := by
  have hn := number_ds 16 6 (by omega) ds R h hne hm
  rw [entity_ref, if_pos (by decide), hn]
  dsimp only
  rw [if_neg (by omega)]
  congr 1
  omega
theorem encode_pos (n : Int) : 1 ≤ (Utf8.encode n).data.toList.length := by
  unfold Utf8.encode
  dsimp only
  generalize (if Utf8.valid n = true then n.toNat else Utf8.runeError) = c
  split
  · exact Nat.le_of_ble_eq_true rfl
  · split
    · exact Nat.le_of_ble_eq_true rfl
    · split
      · exact Nat.le_of_ble_eq_true rfl
      · exact Nat.le_of_ble_eq_true rfl
theorem encB_pos (m : Int) : 1 ≤ (encB m).length := by
  unfold encB; exact encode_pos m
theorem runeText_ne (n : Nat) : runeText n ≠ [] := by
  have h : 1 ≤ (runeText n).length := by unfold runeText; exact encB_pos _
  exact List.length_pos_iff.1 h
end Go.Proofs.YthdlibgiejpjeaaGreatDoor.MorePure
