/- EscapeReads' plain law. -/
import Derived.Test.YthdlibgiejpjeaaGreatDoorGR
import Derived.Test.YthdlibgiejpjeaaGreatDoorPureAid
import Derived.Test.YthdlibgiejpjeaaGreatDoorMorePure
set_option linter.unusedVariables false
set_option linter.unusedSimpArgs false
namespace Go.Proofs.YthdlibgiejpjeaaGreatDoor.ReadsPure
open Go Go.RowKit Go.Proofs.YthdlibgiejpjeaaGreatDoor Go.Proofs.YthdlibgiejpjeaaGreatDoor.Given Go.Proofs.YthdlibgiejpjeaaGreatDoor.GR Go.Proofs.YthdlibgiejpjeaaGreatDoorW.PrintWords Go.Proofs.YthdlibgiejpjeaaGreatDoor.Spec Go.Proofs.YthdlibgiejpjeaaGreatDoor.PureAid

theorem shown_true : scriptoriumlaw02_shown.f = some true := by decide +kernel

theorem step (l A B : List UInt8) (r : List (List UInt8 × List UInt8)) (P rest : Option ByteArray) (hP : P = some (mkB B)) (hr : rest = some (mkB (namedIn l r))) :
    (if l = A then P else rest) = some (mkB (namedIn l ((A, B) :: r))) := by
  unfold namedIn
  by_cases h : l = A
  · rw [if_pos h, if_pos h.symm, hP]
  · rw [if_neg h, if_neg (fun e => h e.symm), hr]
theorem named_f (a0 : ByteArray) : scriptoriumref02_named.f a0 = some (mkB (named a0.data.toList)) := by
  unfold scriptoriumref02_named.f named names
  rw [show a0.toList = a0.data.toList from Lib.toList_data a0]
  generalize a0.data.toList = l
  repeat (refine step _ _ _ _ _ _ (by decide +kernel) ?_)
  rfl

theorem byte_mod (n : Nat) : UInt8.ofNat (((n : Nat) : Int) % 256).toNat = UInt8.ofNat n := by
  rw [show (((n : Nat) : Int) % 256).toNat = n % 256 by omega]
  apply UInt8.toNat_inj.1
  simp
theorem td (n m : Nat) : Int.tdiv (n : Int) (m : Int) = ((n / m : Nat) : Int) := rfl
theorem tm (n m : Nat) : Int.tmod (n : Int) (m : Int) = ((n % m : Nat) : Int) := rfl
theorem wn (n : Nat) (h : n ≤ 9223372036854775807) : wrap64 (n : Int) = (n : Int) := wrap_in _ (by omega)
theorem sum2 (a n : Nat) : (a : Int) + (n : Int) = ((a + n : Nat) : Int) := by omega
/-- What Utf8.encode writes, as lists. -/
def encN (c : Nat) : List UInt8 :=
  if c < 128 then [UInt8.ofNat c]
  else if c < 2048 then [UInt8.ofNat (192 + c / 64), UInt8.ofNat (128 + c % 64)]
  else if c < 65536 then [UInt8.ofNat (224 + c / 4096), UInt8.ofNat (128 + c / 64 % 64), UInt8.ofNat (128 + c % 64)]
  else [UInt8.ofNat (240 + c / 262144), UInt8.ofNat (128 + c / 4096 % 64), UInt8.ofNat (128 + c / 64 % 64), UInt8.ofNat (128 + c % 64)]
theorem enc_of (m : Int) (c : Nat) (h : (if Utf8.valid m = true then m.toNat else Utf8.runeError) = c) : (Utf8.encode m).data.toList = encN c := by
  unfold Utf8.encode
  dsimp only
  rw [h]
  unfold encN
  by_cases h1 : c < 128
  · rw [if_pos h1, if_pos h1]
  rw [if_neg h1, if_neg h1]
  by_cases h2 : c < 2048
  · rw [if_pos h2, if_pos h2]
  rw [if_neg h2, if_neg h2]
  by_cases h3 : c < 65536
  · rw [if_pos h3, if_pos h3]
  rw [if_neg h3, if_neg h3]
theorem encB_nat (m : Int) (n : Nat) (hm : m = (n : Int)) (hv : Utf8.valid m = true) : encB m = encN n := by
  unfold encB
  exact enc_of m n (by rw [if_pos hv, hm]; exact Int.toNat_natCast n)
theorem sum_mod (a : Int) (m : Nat) (h0 : 0 ≤ a) (h1 : a ≤ 1000) (h2 : m ≤ 2000000) : wrap64 (a + (m : Int)) % 256 = (((a.toNat + m : Nat) : Int)) % 256 := by
  rw [wrap_in _ (by omega)]; congr 1; omega
theorem str_mod : ∀ l : List Nat, strOfNums (l.map fun n => ((n : Nat) : Int) % 256) = mkB (l.map UInt8.ofNat) := by
  intro l
  unfold strOfNums mkB
  rw [List.map_map]
  congr 2
  exact List.map_congr_left fun n _ => byte_mod n
theorem put_f (n : Nat) (hv : Utf8.valid (n : Int) = true) : scriptoriumref01_Put.f (n : Int) = some (mkB (encB (n : Int))) := by
  have hn : n ≤ 1114111 := by
    simp only [Utf8.valid, Bool.or_eq_true, Bool.and_eq_true, decide_eq_true_eq] at hv
    omega
  rw [encB_nat (n : Int) n rfl hv]
  have d64 : n / 64 ≤ n := Nat.div_le_self _ _
  have d4 : n / 4096 ≤ n := Nat.div_le_self _ _
  have d2 : n / 262144 ≤ n := Nat.div_le_self _ _
  have m1 : n % 64 < 64 := Nat.mod_lt _ (by decide)
  have m2 : n / 64 % 64 < 64 := Nat.mod_lt _ (by decide)
  have m3 : n / 4096 % 64 < 64 := Nat.mod_lt _ (by decide)
  have e64 : wrap64 (Int.tdiv (n : Int) 64) = ((n / 64 : Nat) : Int) := by rw [show Int.tdiv (n : Int) 64 = ((n / 64 : Nat) : Int) from td n 64]; exact wn _ (by omega)
  have e4 : wrap64 (Int.tdiv (n : Int) 4096) = ((n / 4096 : Nat) : Int) := by rw [show Int.tdiv (n : Int) 4096 = ((n / 4096 : Nat) : Int) from td n 4096]; exact wn _ (by omega)
  have e2 : wrap64 (Int.tdiv (n : Int) 262144) = ((n / 262144 : Nat) : Int) := by rw [show Int.tdiv (n : Int) 262144 = ((n / 262144 : Nat) : Int) from td n 262144]; exact wn _ (by omega)
  have f1 : Int.tmod (n : Int) 64 = ((n % 64 : Nat) : Int) := tm n 64
  have f2 : Int.tmod ((n / 64 : Nat) : Int) 64 = ((n / 64 % 64 : Nat) : Int) := tm _ 64
  have f3 : Int.tmod ((n / 4096 : Nat) : Int) 64 = ((n / 4096 % 64 : Nat) : Int) := tm _ 64
  unfold scriptoriumref01_Put.f encN
  rw [e64, e4, e2, f1, f2, f3, sum_mod 128 (n % 64) (by omega) (by omega) (by omega), sum_mod 192 (n / 64 ) (by omega) (by omega) (by omega), sum_mod 224 (n / 4096) (by omega) (by omega) (by omega),
    sum_mod 128 (n / 64 % 64) (by omega) (by omega) (by omega), sum_mod 240 (n / 262144) (by omega) (by omega) (by omega), sum_mod 128 (n / 4096 % 64) (by omega) (by omega) (by omega)]
  by_cases h1 : n < 128
  · rw [if_pos (by omega), if_pos h1]
    exact congrArg some (str_mod [n])
  rw [if_neg (by omega), if_neg h1]
  by_cases h2 : n < 2048
  · rw [if_pos (by omega), if_pos h2]
    exact congrArg some (str_mod [192 + n / 64, 128 + n % 64])
  rw [if_neg (by omega), if_neg h2]
  by_cases h3 : n < 65536
  · rw [if_pos (by omega), if_pos h3]
    exact congrArg some (str_mod [224 + n / 4096, 128 + n / 64 % 64, 128 + n % 64])
  rw [if_neg (by omega), if_neg h3]
  exact congrArg some (str_mod [240 + n / 262144, 128 + n / 4096 % 64, 128 + n / 64 % 64, 128 + n % 64])

theorem digit_at (c : UInt8) : scriptoriumref02_digit.f 2 (c.toNat : Int) = some ((digit c : Nat) : Int) :=
  all_bytes (P := fun c => scriptoriumref02_digit.f 2 (c.toNat : Int) = some ((digit c : Nat) : Int)) (by decide +kernel) c
theorem digit_ev (c : UInt8) : Ev (fun k => scriptoriumref02_digit.f k (c.toNat : Int)) ((digit c : Nat) : Int) := Ev.of (fun k => scriptoriumref02_digit.mono _ k) (digit_at c)
theorem digit_bd (c : UInt8) : digit c ≤ 16 := all_bytes (P := fun c => digit c ≤ 16) (by decide +kernel) c
theorem mark_f (c : UInt8) : scriptoriumref01_Mark.f (c.toNat : Int) = some (markC c) :=
  all_bytes (P := fun c => scriptoriumref01_Mark.f (c.toNat : Int) = some (markC c)) (by decide +kernel) c

theorem j3_true (k n i : Int) (m : Nat) : scriptoriumref02_number.j3 (m + 1) n i true = some (mkB [], 0) := by
  rw [scriptoriumref02_number.j3, if_pos rfl]; rfl
theorem rune_valid (n : Nat) : Utf8.valid ((runeOf n : Nat) : Int) = true := by
  unfold runeOf Utf8.valid
  simp only [Bool.or_eq_true, Bool.and_eq_true, decide_eq_true_eq]
  split <;> omega
theorem put_rune (n : Nat) : scriptoriumref01_Put.f ((runeOf n : Nat) : Int) = some (mkB (runeText n)) := put_f _ (rune_valid n)
theorem j3_false (n i : Nat) (m : Nat) (hi : i ≤ 1000000000000) : scriptoriumref02_number.j3 (m + 1) (n : Int) (i : Int) false = some (mkB (runeText n), ((i + 1 : Nat) : Int)) := by
  have hp := put_rune n
  have hw : wrap64 ((i : Int) + 1) = ((i + 1 : Nat) : Int) := by rw [wrap_in _ (by omega)]; rfl
  rw [scriptoriumref02_number.j3, if_neg (by decide), hw]
  unfold runeOf at hp
  by_cases h0 : n = 0
  · rw [if_pos (by omega)]
    rw [if_pos (.inl h0)] at hp
    rw [show (65533 : Int) = ((65533 : Nat) : Int) from rfl, hp, Option.bind_some]
  rw [if_neg (by omega)]
  by_cases h1 : 55296 ≤ n
  · rw [if_pos (by omega)]
    by_cases h2 : n ≤ 57343
    · rw [if_pos (by omega)]
      rw [if_pos (.inr (.inl ⟨h1, h2⟩))] at hp
      rw [show (65533 : Int) = ((65533 : Nat) : Int) from rfl, hp, Option.bind_some]
    · rw [if_neg (by omega)]
      by_cases h3 : 1114111 < n
      · rw [if_pos (by omega)]
        rw [if_pos (.inr (.inr h3))] at hp
        rw [show (65533 : Int) = ((65533 : Nat) : Int) from rfl, hp, Option.bind_some]
      · rw [if_neg (by omega)]
        rw [if_neg (by omega)] at hp
        rw [hp, Option.bind_some]
  · rw [if_neg (by omega)]
    by_cases h3 : 1114111 < n
    · omega
    · rw [if_neg (by omega)]
      rw [if_neg (by omega)] at hp
      rw [hp, Option.bind_some]

/-- What the reference's reading of digits comes to. -/
def numR (a base room n j : Nat) (rest : List UInt8) : List UInt8 × Nat :=
  let ds := rest.takeWhile (fun c => digit c < base)
  if ds.length ≤ room ∧ j + ds.length ≠ 0 ∧ (rest.drop ds.length).head? = some 59 then (runeText (ds.foldl (fun n c => base * n + digit c) n), a + j + ds.length + 1) else ([], 0)
def res (p : List UInt8 × Nat) : ByteArray × Int := (mkB p.1, (p.2 : Int))
theorem res_mk (a : List UInt8) (b : Nat) : res (a, b) = (mkB a, (b : Int)) := rfl
theorem res_no : res ([], 0) = (mkB [], 0) := rfl
theorem tw_yes (base : Nat) (c : UInt8) (r : List UInt8) (h : digit c < base) : (c :: r).takeWhile (fun c => decide (digit c < base)) = c :: r.takeWhile (fun c => decide (digit c < base)) := by
  rw [List.takeWhile_cons, if_pos (show decide (digit c < base) = true by simpa using h)]
theorem tw_no (base : Nat) (c : UInt8) (r : List UInt8) (h : ¬ digit c < base) : (c :: r).takeWhile (fun c => decide (digit c < base)) = [] := by
  rw [List.takeWhile_cons, if_neg (show ¬ decide (digit c < base) = true by simpa using h)]

theorem j2_ev (l : List UInt8) (a n j : Nat) (rest : List UInt8) (hl : l.length ≤ 1000000000) (hr : l.drop (a + j) = rest) (hk : a + j ≤ l.length) :
    Ev (fun k => scriptoriumref02_number.j2 k (mkB l) (a : Int) (n : Int) ((a + j : Nat) : Int)) (res (if j ≠ 0 ∧ rest.head? = some 59 then (runeText n, a + j + 1) else ([], 0))) := by
  refine ⟨2, fun k hk2 => ?_⟩
  obtain ⟨m, rfl⟩ : ∃ m, k = m + 1 + 1 := ⟨k - 2, by omega⟩
  show scriptoriumref02_number.j2 (m + 1 + 1) _ _ _ _ = _
  rw [scriptoriumref02_number.j2]
  by_cases h0 : j = 0
  · rw [if_pos (by omega), j3_true 0, if_neg (fun h => h.1 h0), res_no]
  rw [if_neg (by omega)]
  cases rest with
  | nil =>
    have := drop_end hr
    rw [if_pos (by rw [mkB_size]; omega), j3_true 0, if_neg (fun h => by simp at h), res_no]
  | cons c r =>
    have hlt := drop_lt hr
    rw [if_neg (by rw [mkB_size]; omega), if_pos (by omega), if_pos (by rw [mkB_size]; omega), bt_drop l (a + j) c r hr]
    by_cases hc : c = 59
    · rw [show ((c.toNat : Int) != 59) = false by rw [hc]; rfl, j3_false _ _ _ (by omega), if_pos ⟨h0, by rw [hc]; rfl⟩, res_mk]
    · rw [show ((c.toNat : Int) != 59) = true by rw [bne_iff_ne]; exact ne_int c 59 hc, j3_true 0, if_neg (fun h => hc (by simpa using h.2)), res_no]

theorem numR_stop (a base room n j : Nat) (rest : List UInt8) (h : rest.takeWhile (fun c => digit c < base) = []) :
    numR a base room n j rest = if j ≠ 0 ∧ rest.head? = some 59 then (runeText n, a + j + 1) else ([], 0) := by
  unfold numR
  rw [h]; simp
theorem numR_full (a base n j : Nat) (c : UInt8) (r : List UInt8) (hb : base ≤ 16) (h : digit c < base) :
    numR a base 0 n j (c :: r) = if j ≠ 0 ∧ (c :: r).head? = some 59 then (runeText n, a + j + 1) else ([], 0) := by
  have hc : c ≠ 59 := fun e => by rw [e, show digit 59 = 16 from rfl] at h; omega
  unfold numR
  rw [tw_yes base c r h, if_neg (fun hh => by have := hh.1; simp at this), if_neg (fun hh => hc (by simpa using hh.2))]
theorem numR_next (a base room n j : Nat) (c : UInt8) (r : List UInt8) (h : digit c < base) :
    numR a base (room + 1) n j (c :: r) = numR a base room (base * n + digit c) (j + 1) r := by
  unfold numR
  rw [tw_yes base c r h]
  simp only [List.length_cons, List.drop_succ_cons, List.foldl_cons]
  generalize (r.takeWhile (fun c => decide (digit c < base))) = ds
  rw [show a + j + (ds.length + 1) + 1 = a + (j + 1) + ds.length + 1 by omega]
  by_cases h1 : ds.length ≤ room ∧ (r.drop ds.length).head? = some 59
  · rw [if_pos ⟨by omega, by omega, h1.2⟩, if_pos ⟨by omega, by omega, h1.2⟩]
  · rw [if_neg (fun hh => h1 ⟨by omega, hh.2.2⟩), if_neg (fun hh => h1 ⟨by omega, hh.2.2⟩)]

theorem l0_yes (l : List UInt8) (a base most j n k : Nat) (hlt : a + j < l.length) (hl : l.length ≤ 1000000000) (hj : j < most) : scriptoriumref02_number.l0 (k + 1) (mkB l) (a : Int) (base : Int) (most : Int) (n : Int) ((a + j : Nat) : Int) = scriptoriumref02_number.j1 k (mkB l) (a : Int) (base : Int) (most : Int) (n : Int) ((a + j : Nat) : Int) true := by
  have h1 : ((a + j : Nat) : Int) < ((mkB l).size : Int) := by rw [mkB_size]; omega
  have h2 : wrap64 (((a + j : Nat) : Int) - (a : Int)) = (j : Int) := by rw [wrap_in _ (by omega)]; omega
  have h3 : decide ((j : Int) < (most : Int)) = true := by simp; omega
  rw [scriptoriumref02_number.l0, if_pos h1, h2, h3]
theorem l0_no (l : List UInt8) (a base most j n k : Nat) (h : l.length ≤ a + j ∨ most ≤ j) (hl : l.length ≤ 1000000000) (hk : a + j ≤ l.length) : scriptoriumref02_number.l0 (k + 1) (mkB l) (a : Int) (base : Int) (most : Int) (n : Int) ((a + j : Nat) : Int) = scriptoriumref02_number.j1 k (mkB l) (a : Int) (base : Int) (most : Int) (n : Int) ((a + j : Nat) : Int) false := by
  rw [scriptoriumref02_number.l0]
  by_cases h1 : ((a + j : Nat) : Int) < ((mkB l).size : Int)
  · have h0 := h1
    rw [mkB_size] at h0
    have h2 : wrap64 (((a + j : Nat) : Int) - (a : Int)) = (j : Int) := by rw [wrap_in _ (by omega)]; omega
    have h3 : decide ((j : Int) < (most : Int)) = false := by simp; omega
    rw [if_pos h1, h2, h3]
  · rw [if_neg h1]
theorem j1_no (x : ByteArray) (a base most n i : Int) (k : Nat) : scriptoriumref02_number.j1 (k + 1) x a base most n i false = scriptoriumref02_number.j2 k x a n i := by
  rw [scriptoriumref02_number.j1, if_neg (by decide)]
theorem j1_yes (l : List UInt8) (a base most n i k : Nat) (c : UInt8) (r : List UInt8) (hr : l.drop i = c :: r) (hl : l.length ≤ 1000000000) (hB : base * n ≤ 200000000000) :
    scriptoriumref02_number.j1 (k + 1) (mkB l) (a : Int) (base : Int) (most : Int) (n : Int) (i : Int) true = (scriptoriumref02_digit.f k (c.toNat : Int)).bind fun t => if t ≥ (base : Int) then scriptoriumref02_number.j2 k (mkB l) (a : Int) (n : Int) (i : Int) else scriptoriumref02_number.l0 k (mkB l) (a : Int) (base : Int) (most : Int) (wrap64 (((base * n : Nat) : Int) + t)) ((i + 1 : Nat) : Int) := by
  have hlt := drop_lt hr
  have h1 : (i : Int) < ((mkB l).size : Int) := by rw [mkB_size]; omega
  have hw1 : wrap64 ((base : Int) * (n : Int)) = ((base * n : Nat) : Int) := by
    rw [show (base : Int) * (n : Int) = ((base * n : Nat) : Int) by simp]
    exact wn _ (by omega)
  have hw3 : wrap64 ((i : Int) + 1) = ((i + 1 : Nat) : Int) := by rw [wrap_in _ (by omega)]; rfl
  rw [scriptoriumref02_number.j1, if_pos rfl, if_pos (show (0 : Int) ≤ (i : Int) by omega), if_pos h1, bt_drop l i c r hr, hw1, hw3]
theorem l0_ev (l : List UInt8) (a base : Nat) (most : Nat) (hb : base ≤ 16) (hm : most ≤ 7) (hl : l.length ≤ 1000000000) : ∀ (room j n : Nat) (rest : List UInt8), l.drop (a + j) = rest → a + j ≤ l.length → j + room = most → n ≤ 16 * 17 ^ j →
    Ev (fun k => scriptoriumref02_number.l0 k (mkB l) (a : Int) (base : Int) (most : Int) (n : Int) ((a + j : Nat) : Int)) (res (numR a base room n j rest)) := by
  intro room
  induction room with
  | zero =>
    intro j n rest hr hk hj hn
    have hstop : numR a base 0 n j rest = if j ≠ 0 ∧ rest.head? = some 59 then (runeText n, a + j + 1) else ([], 0) := by
      cases rest with
      | nil => exact numR_stop _ _ _ _ _ _ rfl
      | cons c r =>
        by_cases hd : digit c < base
        · exact numR_full a base n j c r hb hd
        · exact numR_stop _ _ _ _ _ _ (tw_no base c r hd)
    rw [hstop]
    exact Ev.step (fun k => l0_no l a base most j n k (.inr (by omega)) hl hk) (Ev.step (fun k => j1_no _ _ _ _ _ _ k) (j2_ev l a n j rest hl hr hk))
  | succ room ih =>
    intro j n rest hr hk hj hn
    cases rest with
    | nil =>
      rw [numR_stop _ _ _ _ _ _ rfl]
      have hend := drop_end hr
      exact Ev.step (fun k => l0_no l a base most j n k (.inl hend) hl hk) (Ev.step (fun k => j1_no _ _ _ _ _ _ k) (j2_ev l a n j [] hl hr hk))
    | cons c r =>
      have hlt := drop_lt hr
      have hb0 := digit_bd c
      obtain ⟨hN, hnext⟩ : base * n + digit c ≤ 200000000000 ∧ base * n + digit c ≤ 16 * 17 ^ (j + 1) := by
        have hp : 17 ^ j ≤ 410338673 := Nat.le_trans (Nat.pow_le_pow_right (n := 17) (by decide) (show j ≤ 7 by omega)) (by decide)
        have hbn : base * n ≤ 16 * n := Nat.mul_le_mul_right _ hb
        have h1 : 1 ≤ 17 ^ j := Nat.pow_pos (by decide)
        rw [Nat.pow_succ]
        generalize 17 ^ j = P at *
        generalize base * n = Q at *
        omega
      clear hn
      have hw2 : wrap64 (((base * n : Nat) : Int) + ((digit c : Nat) : Int)) = ((base * n + digit c : Nat) : Int) := by
        rw [sum2]; exact wn _ (by clear hnext; omega)
      have hB : base * n ≤ 200000000000 := by clear hnext; omega
      clear hN
      have hnext2 := Lib.hid hnext
      clear hnext
      refine Ev.step (fun k => l0_yes l a base most j n k hlt hl (by omega)) (Ev.step (fun k => j1_yes l a base most n (a + j) k c r hr hl hB) (Ev.bind (digit_ev c) ?_))
      by_cases hd : digit c < base
      · rw [numR_next a base room n j c r hd]
        refine Ev.congr (fun k => ?_) (ih (j + 1) (base * n + digit c) r (by rw [← Nat.add_assoc]; exact drop_next hr) (by omega) (by omega) ?_)
        · show (if ((digit c : Nat) : Int) ≥ (base : Int) then _ else _) = _
          rw [if_neg (by omega), hw2, Nat.add_assoc a j 1]
        · exact hnext2.out
      · rw [numR_stop _ _ _ _ _ _ (tw_no base c r hd)]
        refine Ev.congr (fun k => ?_) (j2_ev l a n j (c :: r) hl hr hk)
        show (if ((digit c : Nat) : Int) ≥ (base : Int) then _ else _) = _
        rw [if_pos (by omega)]

theorem numR_spec (a base most : Nat) (l : List UInt8) : numR a base most 0 0 l = ((number l base most).1, if (number l base most).2 = 0 then 0 else a + (number l base most).2) := by
  unfold numR number value
  dsimp only
  generalize (l.takeWhile (fun c => decide (digit c < base))) = ds
  by_cases h : ds = [] ∨ most < ds.length ∨ (l.drop ds.length).head? ≠ some 59
  · rw [if_pos h, if_neg (fun hh => ?_)]
    · simp
    rcases h with h | h | h
    · exact hh.2.1 (by rw [h]; rfl)
    · omega
    · exact h hh.2.2
  · have h1 : ¬ ds = [] := fun e => h (.inl e)
    have h2 : ¬ most < ds.length := fun e => h (.inr (.inl e))
    have h3 : (l.drop ds.length).head? = some 59 := Decidable.byContradiction fun e => h (.inr (.inr e))
    rw [if_neg h, if_pos ⟨by omega, by have := List.length_pos_iff.2 h1; omega, h3⟩]
    simp
    omega
theorem number_ev (l : List UInt8) (a base most : Nat) (hb : base ≤ 16) (hm : most ≤ 7) (hl : l.length ≤ 1000000000) (ha : a ≤ l.length) :
    Ev (fun k => scriptoriumref02_number.f k (mkB l) (a : Int) (base : Int) (most : Int)) (res ((number (l.drop a) base most).1, if (number (l.drop a) base most).2 = 0 then 0 else a + (number (l.drop a) base most).2)) := by
  rw [← numR_spec]
  have := l0_ev l a base most hb hm hl most 0 0 (l.drop a) rfl ha (by omega) (by omega)
  exact this

theorem named_long (l : List UInt8) (h : 13 < l.length) : named l = [] := by
  have h : ∀ (ns : List (List UInt8 × List UInt8)), (ns.all fun p => decide (p.1.length ≤ 13)) = true → namedIn l ns = [] := by
    intro ns
    induction ns with
    | nil => intro _; rfl
    | cons p r ih =>
      intro hh
      obtain ⟨a, b⟩ := p
      simp only [List.all_cons, Bool.and_eq_true, decide_eq_true_eq] at hh
      unfold namedIn
      rw [if_neg (fun e => by rw [e] at hh; omega)]
      exact ih hh.2
  exact h names (by decide +kernel)

theorem take_notSemi (l : List UInt8) (i : Nat) (hi : i < (l.takeWhile notSemi).length) : ∃ c r, l.drop i = c :: r ∧ c ≠ 59 := by
  have hp := List.takeWhile_prefix (p := notSemi) (l := l)
  have hle := hp.length_le
  have hil : i < l.length := by omega
  refine ⟨l[i], l.drop (i + 1), List.drop_eq_getElem_cons hil, ?_⟩
  have h1 : (l.takeWhile notSemi)[i] = l[i] := hp.getElem hi
  have h2 : notSemi ((l.takeWhile notSemi)[i]) = true := by
    have := List.all_takeWhile (l := l) (p := notSemi)
    exact List.all_eq_true.1 this _ (List.getElem_mem hi)
  rw [h1] at h2
  simpa [notSemi] using h2
theorem at_semi (l : List UInt8) (h : (l.takeWhile notSemi).length < l.length) : ∃ r, l.drop (l.takeWhile notSemi).length = 59 :: r := by
  induction l with
  | nil => simp at h
  | cons c r ih =>
    by_cases hc : notSemi c = true
    · rw [List.takeWhile_cons, if_pos hc] at h ⊢
      simp only [List.length_cons, List.drop_succ_cons] at h ⊢
      exact ih (by omega)
    · rw [List.takeWhile_cons, if_neg hc]
      have : c = 59 := by simpa [notSemi] using hc
      exact ⟨r, by rw [this]; rfl⟩

/-- The name's part: from the byte at 1 on. -/
theorem j4_true (x : ByteArray) (i : Int) (m : Nat) : scriptoriumref02_Entity.j4 (m + 1) x i true = some (res ([], 0)) := by
  rw [scriptoriumref02_Entity.j4, if_pos rfl]; rfl
theorem j4_false (l : List UInt8) (i m : Nat) (h1 : 1 ≤ i) (h2 : i ≤ l.length) (hl : l.length ≤ 1000000000) :
    scriptoriumref02_Entity.j4 (m + 1) (mkB l) (i : Int) false = some (res (if named ((l.drop 1).take (i - 1)) = [] then ([], 0) else (named ((l.drop 1).take (i - 1)), i + 1))) := by
  rw [scriptoriumref02_Entity.j4, if_neg (by decide), if_pos (by omega), if_pos (by rw [mkB_size]; omega), Int.toNat_natCast, mkB_piece, named_f, Option.bind_some, mkB_data, mkB_toList]
  by_cases h : named ((l.drop 1).take (i - 1)) = []
  · rw [if_pos h, if_pos h]; rfl
  · rw [if_neg h, if_neg h, wrap_in _ (by omega)]; rfl
theorem j3_ev (l : List UInt8) (i : Nat) (h1 : 1 ≤ i) (h2 : i ≤ l.length) (hl : l.length ≤ 1000000000) :
    Ev (fun k => scriptoriumref02_Entity.j3 k (mkB l) (i : Int)) (res (if (l.drop i).head? = some 59 ∧ named ((l.drop 1).take (i - 1)) ≠ [] then (named ((l.drop 1).take (i - 1)), i + 1) else ([], 0))) := by
  refine ⟨2, fun k hk => ?_⟩
  obtain ⟨m, rfl⟩ : ∃ m, k = m + 1 + 1 := ⟨k - 2, by omega⟩
  show scriptoriumref02_Entity.j3 (m + 1 + 1) _ _ = _
  rw [scriptoriumref02_Entity.j3]
  cases hr : l.drop i with
  | nil =>
    have := drop_end hr
    rw [if_pos (by rw [mkB_size]; omega), j4_true, if_neg (fun h => by simp at h)]
  | cons c r =>
    have hlt := drop_lt hr
    rw [if_neg (by rw [mkB_size]; omega), if_pos (by omega), if_pos (by rw [mkB_size]; omega), bt_drop l i c r hr]
    by_cases hc : c = 59
    · rw [show ((c.toNat : Int) != 59) = false by rw [hc]; rfl, j4_false l i m h1 h2 hl]
      by_cases hn : named ((l.drop 1).take (i - 1)) = []
      · rw [if_pos hn, if_neg (fun h => h.2 hn)]
      · rw [if_neg hn, if_pos ⟨by rw [hc]; rfl, hn⟩]
    · rw [show ((c.toNat : Int) != 59) = true by rw [bne_iff_ne]; exact ne_int c 59 hc, j4_true, if_neg (fun h => hc (by simpa using h.1))]

theorem l0e_ev (c0 : UInt8) (rest : List UInt8) (hl : rest.length < 1000000000) (e : Nat) (he : e = min (1 + (rest.takeWhile notSemi).length) 20) : ∀ (d i : Nat), 1 ≤ i → i + d = e → ∀ r,
    Ev (fun k => scriptoriumref02_Entity.j3 k (mkB (c0 :: rest)) (e : Int)) r → Ev (fun k => scriptoriumref02_Entity.l0 k (mkB (c0 :: rest)) (i : Int)) r := by
  have hle : (rest.takeWhile notSemi).length ≤ rest.length := (List.takeWhile_sublist _).length_le
  intro d
  induction d with
  | zero =>
    intro i hi hd r hr
    obtain rfl : i = e := by omega
    refine Ev.step (fun k => ?_) hr
    show scriptoriumref02_Entity.l0 (k + 1) _ _ = _
    rw [scriptoriumref02_Entity.l0]
    by_cases h1 : i < rest.length + 1
    · rw [if_pos (by rw [mkB_size]; simp only [List.length_cons]; omega)]
      by_cases h2 : i < 20
      · rw [if_pos (by omega), if_pos (by omega)]
        obtain ⟨q, hq⟩ := at_semi rest (by omega)
        have hq2 : (c0 :: rest).drop i = 59 :: q := by
          obtain rfl : i = (rest.takeWhile notSemi).length + 1 := by omega
          rw [List.drop_succ_cons]; exact hq
        rw [bt_drop _ _ _ _ hq2, if_pos (by rfl)]
      · rw [if_neg (by omega)]
    · rw [if_neg (by rw [mkB_size]; simp only [List.length_cons]; omega)]
  | succ d ih =>
    intro i hi hd r hr
    have h := ih (i + 1) (by omega) (by omega) r hr
    refine Ev.step (fun k => ?_) h
    show scriptoriumref02_Entity.l0 (k + 1) _ _ = _
    obtain ⟨c, q, hq, hc⟩ := take_notSemi rest (i - 1) (by omega)
    have hq2 : (c0 :: rest).drop i = c :: q := by
      obtain ⟨j, rfl⟩ : ∃ j, i = j + 1 := ⟨i - 1, by omega⟩
      rw [List.drop_succ_cons]; exact hq
    have hw : wrap64 ((i : Int) + 1) = ((i + 1 : Nat) : Int) := by rw [wrap_in _ (by omega)]; rfl
    rw [scriptoriumref02_Entity.l0, if_pos (by rw [mkB_size]; simp only [List.length_cons]; omega), if_pos (by omega), if_pos (by omega), bt_drop _ _ _ _ hq2, if_neg (show ¬ ((c.toNat : Int) = 59) from ne_int c 59 hc), hw]

theorem name_ev (c0 : UInt8) (rest : List UInt8) (hl : rest.length < 1000000000) :
    Ev (fun k => scriptoriumref02_Entity.l0 k (mkB (c0 :: rest)) 1) (res (if (rest.takeWhile notSemi).length < rest.length ∧ named (rest.takeWhile notSemi) ≠ [] then (named (rest.takeWhile notSemi), (rest.takeWhile notSemi).length + 2) else ([], 0))) := by
  have hle : (rest.takeWhile notSemi).length ≤ rest.length := (List.takeWhile_sublist _).length_le
  have hp := List.takeWhile_prefix (p := notSemi) (l := rest)
  refine l0e_ev c0 rest hl (min (1 + (rest.takeWhile notSemi).length) 20) rfl _ 1 (by omega) (show 1 + (min (1 + (rest.takeWhile notSemi).length) 20 - 1) = _ by omega) _ ?_
  by_cases h20 : (rest.takeWhile notSemi).length < 20
  · rw [show min (1 + (rest.takeWhile notSemi).length) 20 = (rest.takeWhile notSemi).length + 1 by omega]
    have h := j3_ev (c0 :: rest) ((rest.takeWhile notSemi).length + 1) (by omega) (by simp only [List.length_cons]; omega) (by simp only [List.length_cons]; omega)
    have hnm : ((c0 :: rest).drop 1).take ((rest.takeWhile notSemi).length + 1 - 1) = rest.takeWhile notSemi := by
      rw [List.drop_succ_cons, List.drop_zero, Nat.add_sub_cancel]
      exact (List.prefix_iff_eq_take.1 hp).symm
    rw [hnm, List.drop_succ_cons] at h
    by_cases hlt : (rest.takeWhile notSemi).length < rest.length
    · obtain ⟨q, hq⟩ := at_semi rest hlt
      rw [hq] at h
      by_cases hn : named (rest.takeWhile notSemi) = []
      · rw [if_neg (fun e => e.2 hn)] at h ⊢; exact h
      · rw [if_pos ⟨rfl, hn⟩] at h
        rw [if_pos ⟨hlt, hn⟩]; exact h
    · rw [if_neg (fun e => hlt e.1)]
      rw [List.drop_eq_nil_of_le (by omega), if_neg (fun e => by simp at e)] at h
      exact h
  · rw [show min (1 + (rest.takeWhile notSemi).length) 20 = 20 by omega]
    have h := j3_ev (c0 :: rest) 20 (by omega) (by simp only [List.length_cons]; omega) (by simp only [List.length_cons]; omega)
    rw [named_long (((c0 :: rest).drop 1).take (20 - 1)) (by simp only [List.drop_succ_cons, List.drop_zero, List.length_take]; omega), if_neg (fun e => e.2 rfl)] at h
    rw [named_long (rest.takeWhile notSemi) (by omega), if_neg (fun e => e.2 rfl)]
    exact h

theorem j0_true (x : ByteArray) (m : Nat) : scriptoriumref02_Entity.j0 (m + 1) x true = some (res ([], 0)) := by
  rw [scriptoriumref02_Entity.j0, if_pos rfl]; rfl
theorem bt0 (c : UInt8) (r : List UInt8) : bt (mkB (c :: r)) 0 = (c.toNat : Int) := bt_drop (c :: r) 0 c r rfl
theorem bt1 (c d : UInt8) (r : List UInt8) : bt (mkB (c :: d :: r)) 1 = (d.toNat : Int) := bt_drop (c :: d :: r) 1 d r rfl
theorem bt2 (c d e : UInt8) (r : List UInt8) : bt (mkB (c :: d :: e :: r)) 2 = (e.toNat : Int) := bt_drop (c :: d :: e :: r) 2 e r rfl
theorem num_bind {g : Nat → Option (ByteArray × Int)} {p : ByteArray × Int} (h : Ev g p) : Ev (fun k => (g k).bind fun q => some (q.1, q.2)) p :=
  Ev.congr (fun k => by cases g k <;> rfl) h
theorem low_x : ∀ c : UInt8, (c ||| 32 = 120) ↔ (c = 120 ∨ c = 88) :=
  all_bytes (P := fun c => (c ||| 32 = 120) ↔ (c = 120 ∨ c = 88)) (by decide +kernel)
theorem entity_small (l : List UInt8) (h : l.length < 3) : entity l = ([], 0) := by
  match l, h with
  | [], _ => rfl
  | [c], _ =>
    unfold entity
    split
    · simp_all
    · rename_i heq; injection heq with h1 h2; subst h2; rfl
    · rfl
  | [c, d], _ =>
    unfold entity
    split
    · rename_i hash heq
      injection heq with h1 h2; injection h2 with h2 h3; subst h3; rfl
    · rename_i rest hx heq
      injection heq with h1 h2; subst h2
      dsimp only
      rw [if_neg]
      rintro ⟨h3, h4⟩
      by_cases hd : notSemi d = true
      · rw [List.takeWhile_cons, if_pos hd] at h3; simp at h3
      · rw [List.takeWhile_cons, if_neg hd] at h4; exact h4 rfl
    · rfl
theorem entity_hash (hash : List UInt8) (c : UInt8) (r : List UInt8) (h : hash = c :: r) : entity (38 :: 35 :: hash) =
    if c = 120 ∨ c = 88 then ((number r 16 6).1, if (number r 16 6).2 = 0 then 0 else 3 + (number r 16 6).2) else ((number hash 10 7).1, if (number hash 10 7).2 = 0 then 0 else 2 + (number hash 10 7).2) := by
  subst h
  rw [MorePure.entity_ref]
  by_cases hx : c ||| 32 = 120
  · rw [if_pos hx, if_pos ((low_x c).1 hx)]
    by_cases h0 : (number r 16 6).2 = 0
    · rw [if_pos h0, if_pos h0, (number_bounds r 16 6).2.2 h0]
    · rw [if_neg h0, if_neg h0]
  · rw [if_neg hx, if_neg (fun e => hx ((low_x c).2 e))]
    by_cases h0 : (number (c :: r) 10 7).2 = 0
    · rw [if_pos h0, if_pos h0, (number_bounds (c :: r) 10 7).2.2 h0]
    · rw [if_neg h0, if_neg h0]
theorem entity_name (rest : List UInt8) (h : rest.head? ≠ some 35) : entity (38 :: rest) = if (rest.takeWhile notSemi).length < rest.length ∧ named (rest.takeWhile notSemi) ≠ [] then (named (rest.takeWhile notSemi), (rest.takeWhile notSemi).length + 2) else ([], 0) := by
  unfold entity
  split
  · rename_i hash heq
    injection heq with h1 h2; subst h2; exact absurd rfl h
  · rename_i rest' hx heq
    injection heq with h1 h2; subst h2; rfl
  · rename_i h1 h2
    exact absurd rfl (h2 _)
theorem entity_not (c : UInt8) (r : List UInt8) (h : c ≠ 38) : entity (c :: r) = ([], 0) := by
  unfold entity
  split
  · rename_i heq; injection heq with a b; exact absurd a h
  · rename_i heq; injection heq with a b; exact absurd a h
  · rfl

theorem entity_ev (l : List UInt8) (hl : l.length ≤ 1000000000) : Ev (fun k => scriptoriumref02_Entity.f k (mkB l)) (res (entity l)) := by
  by_cases h3 : l.length < 3
  · rw [entity_small l h3]
    refine ⟨1, fun k hk => ?_⟩
    obtain ⟨m, rfl⟩ : ∃ m, k = m + 1 := ⟨k - 1, by omega⟩
    show scriptoriumref02_Entity.f (m + 1) _ = _
    unfold scriptoriumref02_Entity.f
    rw [if_pos (by rw [mkB_size]; omega), j0_true]
  match l, h3 with
  | c :: d :: e :: r, _ =>
  have hlen : r.length + 3 ≤ 1000000000 := by simpa using hl
  have hf : ∀ k, scriptoriumref02_Entity.f k (mkB (c :: d :: e :: r)) = scriptoriumref02_Entity.j0 k (mkB (c :: d :: e :: r)) ((c.toNat : Int) != 38) := fun k => by
    unfold scriptoriumref02_Entity.f
    rw [if_neg (by rw [mkB_size]; simp only [List.length_cons]; omega), if_pos (by rw [mkB_size]; simp only [List.length_cons]; omega), bt0]
  refine Ev.congr hf ?_
  by_cases hc : c = 38
  · subst hc
    rw [show (((38 : UInt8).toNat : Int) != 38) = false from rfl]
    by_cases hd : d = 35
    · subst hd
      have h1 : ∀ k, scriptoriumref02_Entity.j0 (k + 1) (mkB (38 :: 35 :: e :: r)) false = if (e.toNat : Int) = 120 then scriptoriumref02_Entity.j1 k (mkB (38 :: 35 :: e :: r)) true else scriptoriumref02_Entity.j1 k (mkB (38 :: 35 :: e :: r)) ((e.toNat : Int) == 88) := fun k => by
        rw [scriptoriumref02_Entity.j0, if_neg (by decide), if_pos (by rw [mkB_size]; simp only [List.length_cons]; omega), bt1, if_pos (by rfl), if_pos (by rw [mkB_size]; simp only [List.length_cons]; omega), bt2]
      refine Ev.step h1 ?_
      rw [entity_hash (e :: r) e r rfl]
      by_cases hx : e = 120 ∨ e = 88
      · rw [if_pos hx]
        refine Ev.congr (f := fun k => scriptoriumref02_Entity.j1 k (mkB (38 :: 35 :: e :: r)) true) (fun k => ?_) ?_
        · rcases hx with hx | hx
          · rw [hx]; rw [if_pos (by rfl)]
          · rw [hx]; rw [if_neg (by decide)]; rfl
        · have h2 : ∀ k, scriptoriumref02_Entity.j1 (k + 1) (mkB (38 :: 35 :: e :: r)) true = (scriptoriumref02_number.f k (mkB (38 :: 35 :: e :: r)) 3 16 6).bind fun q => some (q.1, q.2) := fun k => by
            rw [scriptoriumref02_Entity.j1, if_pos rfl]
          refine Ev.step h2 (num_bind ?_)
          exact number_ev (38 :: 35 :: e :: r) 3 16 6 (by omega) (by omega) hl (by simp only [List.length_cons]; omega)
      · rw [if_neg hx]
        have hx1 : e ≠ 120 := fun h => hx (.inl h)
        have hx2 : e ≠ 88 := fun h => hx (.inr h)
        refine Ev.congr (f := fun k => scriptoriumref02_Entity.j1 k (mkB (38 :: 35 :: e :: r)) false) (fun k => ?_) ?_
        · rw [if_neg (show ¬ ((e.toNat : Int) = 120) from ne_int e 120 hx1), show ((e.toNat : Int) == 88) = false from beq_eq_false_iff_ne.2 (ne_int e 88 hx2)]
        · have h2 : ∀ k, scriptoriumref02_Entity.j1 (k + 1) (mkB (38 :: 35 :: e :: r)) false = (scriptoriumref02_number.f k (mkB (38 :: 35 :: e :: r)) 2 10 7).bind fun q => some (q.1, q.2) := fun k => by
            rw [scriptoriumref02_Entity.j1, if_neg (by decide), if_pos (by rw [mkB_size]; simp only [List.length_cons]; omega), bt1, if_pos (by rfl)]
          refine Ev.step h2 (num_bind ?_)
          exact number_ev (38 :: 35 :: e :: r) 2 10 7 (by omega) (by omega) hl (by simp only [List.length_cons]; omega)
    · rw [entity_name (d :: e :: r) (fun h => hd (by simpa using h))]
      have h1 : ∀ k, scriptoriumref02_Entity.j0 (k + 1) (mkB (38 :: d :: e :: r)) false = scriptoriumref02_Entity.j1 k (mkB (38 :: d :: e :: r)) false := fun k => by
        rw [scriptoriumref02_Entity.j0, if_neg (by decide), if_pos (by rw [mkB_size]; simp only [List.length_cons]; omega), bt1, if_neg (show ¬ ((d.toNat : Int) = 35) from ne_int d 35 hd)]
      have h2 : ∀ k, scriptoriumref02_Entity.j1 (k + 1) (mkB (38 :: d :: e :: r)) false = scriptoriumref02_Entity.l0 k (mkB (38 :: d :: e :: r)) 1 := fun k => by
        rw [scriptoriumref02_Entity.j1, if_neg (by decide), if_pos (by rw [mkB_size]; simp only [List.length_cons]; omega), bt1, if_neg (show ¬ ((d.toNat : Int) = 35) from ne_int d 35 hd)]
      exact Ev.step h1 (Ev.step h2 (name_ev 38 (d :: e :: r) (by simp only [List.length_cons]; omega)))
  · rw [entity_not c _ hc, show ((c.toNat : Int) != 38) = true by rw [bne_iff_ne]; exact ne_int c 38 hc]
    refine ⟨1, fun k hk => ?_⟩
    obtain ⟨m, rfl⟩ : ∃ m, k = m + 1 := ⟨k - 1, by omega⟩
    show scriptoriumref02_Entity.j0 (m + 1) _ true = _
    exact j0_true _ m
  | [], h => exact absurd (by simp) h
  | [_], h => exact absurd (by simp) h
  | [_, _], h => exact absurd (by simp) h

/-- What one round comes to, where no mark stands behind a backslash. -/
theorem un_tail (l acc : List UInt8) (i : Nat) (c : UInt8) (r : List UInt8) (hl : l.length ≤ 1000000000) (hr : l.drop i = c :: r) (ha : acc.length ≤ 5 * i) (hk : i < l.length)
    (hm : ¬ (c = 92 ∧ (r.head?.map markC).getD false = true))
    (ih : ∀ (j : Nat) (acc' : List UInt8), i < j → j ≤ l.length → acc'.length ≤ 5 * j → Ev (fun k => scriptoriumref02_Unescape.l0 k (mkB l) (bnums acc') (j : Int)) (mkB (acc' ++ unescape (l.drop j)))) :
    Ev (fun k => if 0 ≤ (i : Int) then (if (i : Int) ≤ ((mkB l).size : Int) then ((scriptoriumref02_Entity.f k ((mkB l).extract (i : Int).toNat (mkB l).size)).bind fun q => (if q.2 > 0 then (if (bnums acc).length + q.1.size < 140737488355328 then (scriptoriumref02_Unescape.l0 k (mkB l) (bnums acc ++ bytesOf q.1) (wrap64 ((i : Int) + q.2))) else (none)) else (if (i : Int) < ((mkB l).size : Int) then (if (bnums acc).length < 140737488355328 then (scriptoriumref02_Unescape.l0 k (mkB l) (bnums acc ++ [bt (mkB l) (i : Int)]) (wrap64 ((i : Int) + 1))) else (none)) else (none)))) else (none)) else (none)) (mkB (acc ++ unescape (c :: r))) := by
  have he := entity_bounds (c :: r)
  have hlen := drop_len hr (by omega)
  have hent := entity_ev (c :: r) (by omega)
  refine Ev.congr (f := fun k => (scriptoriumref02_Entity.f k (mkB (c :: r))).bind fun q => (if q.2 > 0 then (if (bnums acc).length + q.1.size < 140737488355328 then (scriptoriumref02_Unescape.l0 k (mkB l) (bnums acc ++ bytesOf q.1) (wrap64 ((i : Int) + q.2))) else (none)) else (scriptoriumref02_Unescape.l0 k (mkB l) (bnums (acc ++ [c])) ((i + 1 : Nat) : Int)))) (fun k => ?_) (Ev.bind hent ?_)
  · rw [if_pos (by omega), if_pos (by rw [mkB_size]; omega), Int.toNat_natCast, mkB_drop, hr]
    congr 1
    funext q
    congr 1
    rw [if_pos (by rw [mkB_size]; omega), if_pos (by rw [nums_len]; omega), bt_drop l i c r hr, nums_snoc, wrap_in _ (by omega)]
    rfl
  · by_cases hp : 0 < (entity (c :: r)).2
    · rw [unescape_ref c r hm hp, ← List.append_assoc]
      have hd : (c :: r).drop (entity (c :: r)).2 = l.drop (i + (entity (c :: r)).2) := by rw [← hr, List.drop_drop]
      rw [hd]
      refine Ev.congr (fun k => ?_) (ih (i + (entity (c :: r)).2) (acc ++ (entity (c :: r)).1) (by omega) (by omega) (by rw [List.length_append]; omega))
      show (if (((entity (c :: r)).2 : Nat) : Int) > 0 then (if (bnums acc).length + (mkB (entity (c :: r)).1).size < 140737488355328 then (scriptoriumref02_Unescape.l0 k (mkB l) (bnums acc ++ bytesOf (mkB (entity (c :: r)).1)) (wrap64 ((i : Int) + (((entity (c :: r)).2 : Nat) : Int)))) else (none)) else _) = _
      rw [if_pos (by omega), if_pos (by rw [nums_len, mkB_size]; omega), nums_app, wrap_in _ (by omega)]
      rfl
    · rw [unescape_byte c r hm hp]
      have ih1 := ih (i + 1) (acc ++ [c]) (by omega) (by omega) (by rw [List.length_append]; simp only [List.length_singleton]; omega)
      rw [drop_next hr, List.append_assoc, List.singleton_append] at ih1
      refine Ev.congr (fun k => ?_) ih1
      show (if (((entity (c :: r)).2 : Nat) : Int) > 0 then _ else _) = _
      rw [if_neg (by omega)]

theorem un_ev (l : List UInt8) (hl : l.length ≤ 1000000000) : ∀ (d i : Nat) (acc : List UInt8), i ≤ l.length → l.length - i ≤ d → acc.length ≤ 5 * i →
    Ev (fun k => scriptoriumref02_Unescape.l0 k (mkB l) (bnums acc) (i : Int)) (mkB (acc ++ unescape (l.drop i))) := by
  have hend : ∀ (i : Nat) (acc : List UInt8), l.length ≤ i → Ev (fun k => scriptoriumref02_Unescape.l0 k (mkB l) (bnums acc) (i : Int)) (mkB (acc ++ unescape (l.drop i))) := by
    intro i acc hi
    rw [List.drop_eq_nil_of_le hi, unescape_nil, List.append_nil]
    refine ⟨1, fun k hk => ?_⟩
    obtain ⟨m, rfl⟩ : ∃ m, k = m + 1 := ⟨k - 1, by omega⟩
    show scriptoriumref02_Unescape.l0 (m + 1) _ _ _ = _
    rw [scriptoriumref02_Unescape.l0, if_neg (by rw [mkB_size]; omega)]
    rw [nums_str]
  intro d
  induction d with
  | zero => intro i acc hi hd ha; exact hend i acc (by omega)
  | succ d ih =>
    intro i acc hi hd ha
    rcases Nat.lt_or_ge i l.length with hlt | hge
    case inr => exact hend i acc hge
    obtain ⟨c, r, hr⟩ : ∃ c r, l.drop i = c :: r := ⟨_, _, List.drop_eq_getElem_cons hlt⟩
    have hlen := drop_len hr hi
    simp only [List.length_cons] at hlen
    have hw1 : wrap64 ((i : Int) + 1) = ((i + 1 : Nat) : Int) := by rw [wrap_in _ (by omega)]; rfl
    have hw2 : wrap64 ((i : Int) + 2) = ((i + 2 : Nat) : Int) := by rw [wrap_in _ (by omega)]; rfl
    have ih' : ∀ (j : Nat) (acc' : List UInt8), i < j → j ≤ l.length → acc'.length ≤ 5 * j → Ev (fun k => scriptoriumref02_Unescape.l0 k (mkB l) (bnums acc') (j : Int)) (mkB (acc' ++ unescape (l.drop j))) := fun j acc' h1 h2 h3 => ih j acc' h2 (by omega) h3
    rw [hr]
    by_cases hm : c = 92 ∧ (r.head?.map markC).getD false = true
    · obtain ⟨rfl, hm2⟩ := hm
      cases r with
      | nil => simp at hm2
      | cons e r2 =>
        have hme : markC e = true := by simpa using hm2
        simp only [List.length_cons] at hlen
        rw [unescape_mark e r2 hme]
        have hr2 : l.drop (i + 1) = e :: r2 := drop_next hr
        have h1 : ∀ k, scriptoriumref02_Unescape.l0 (k + 1) (mkB l) (bnums acc) (i : Int) = scriptoriumref02_Unescape.j1 k (mkB l) (bnums acc) (i : Int) true := fun k => by
          rw [scriptoriumref02_Unescape.l0, if_pos (by rw [mkB_size]; omega), if_pos (by omega), bt_drop l i _ _ hr, if_pos (by rfl), hw1, mkB_size, show decide (((i + 1 : Nat) : Int) < (l.length : Int)) = true by simp; omega]
        have h2 : ∀ k, scriptoriumref02_Unescape.j1 (k + 1) (mkB l) (bnums acc) (i : Int) true = scriptoriumref02_Unescape.l0 k (mkB l) (bnums (acc ++ [e])) ((i + 2 : Nat) : Int) := fun k => by
          rw [scriptoriumref02_Unescape.j1]
          have hb := e.toNat_lt
          rw [if_pos rfl, hw1, hw2, if_pos (by omega), if_pos (by rw [mkB_size]; omega), bt_drop l (i + 1) _ _ hr2, wrap_in (e.toNat : Int) (by omega), mark_f, hme, Option.bind_some, if_pos rfl, if_pos (by rw [nums_len]; omega), nums_snoc]
        have := ih' (i + 2) (acc ++ [e]) (by omega) (by omega) (by rw [List.length_append]; simp only [List.length_singleton]; omega)
        rw [drop_next hr2, List.append_assoc, List.singleton_append] at this
        exact Ev.step h1 (Ev.step h2 this)
    · have ht := un_tail l acc i c r hl hr ha hlt hm ih'
      by_cases hb : c = 92 ∧ r ≠ []
      · obtain ⟨rfl, hne⟩ := hb
        cases r with
        | nil => exact absurd rfl hne
        | cons e r2 =>
          have hme : markC e = false := by
            have : ¬ ((92 : UInt8) = 92 ∧ markC e = true) := by simpa using hm
            simpa using this
          simp only [List.length_cons] at hlen
          have hr2 : l.drop (i + 1) = e :: r2 := drop_next hr
          have h1 : ∀ k, scriptoriumref02_Unescape.l0 (k + 1) (mkB l) (bnums acc) (i : Int) = scriptoriumref02_Unescape.j1 k (mkB l) (bnums acc) (i : Int) true := fun k => by
            rw [scriptoriumref02_Unescape.l0, if_pos (by rw [mkB_size]; omega), if_pos (by omega), bt_drop l i _ _ hr, if_pos (by rfl), hw1, mkB_size, show decide (((i + 1 : Nat) : Int) < (l.length : Int)) = true by simp; omega]
          refine Ev.step h1 (Ev.step (fun k => ?_) ht)
          rw [scriptoriumref02_Unescape.j1]
          have hb := e.toNat_lt
          rw [if_pos rfl]
          rw [hw1, if_pos (by omega), if_pos (by rw [mkB_size]; omega), bt_drop l (i + 1) _ _ hr2, wrap_in (e.toNat : Int) (by omega), mark_f, hme, Option.bind_some, if_neg (by decide)]
          try rw [hw1]
      · have h1 : ∀ k, scriptoriumref02_Unescape.l0 (k + 1) (mkB l) (bnums acc) (i : Int) = scriptoriumref02_Unescape.j1 k (mkB l) (bnums acc) (i : Int) false := fun k => by
          rw [scriptoriumref02_Unescape.l0, if_pos (by rw [mkB_size]; omega), if_pos (by omega), bt_drop l i _ _ hr]
          by_cases hc : c = 92
          · have hrn : r = [] := Decidable.byContradiction fun e => hb ⟨hc, e⟩
            subst hrn
            rw [if_pos (by rw [hc]; rfl), hw1, mkB_size, show decide (((i + 1 : Nat) : Int) < (l.length : Int)) = false by simp at hlen ⊢; omega]
          · rw [if_neg (show ¬ ((c.toNat : Int) = 92) from ne_int c 92 hc)]
        refine Ev.step h1 (Ev.step (fun k => ?_) ht)
        rw [scriptoriumref02_Unescape.j1, if_neg (by decide)]

theorem pure (l : List UInt8) (hl : l.length ≤ 100000000) : ∃ k, scriptoriumlaw02_EscapeReads.f k (mkB l) = some true := by
  have he : escape_Entity.f (mkB l) = some (res (entity l)) := by
    unfold escape_Entity.f
    rw [if_pos (by rw [mkB_size]; omega)]; rfl
  have hu : escape_Unescape.f (mkB l) = some (mkB (unescape l)) := by
    unfold escape_Unescape.f
    rw [if_pos (by rw [mkB_size]; omega)]; rfl
  have hun : Ev (fun k => scriptoriumref02_Unescape.f k (mkB l)) (mkB (unescape l)) := by
    have := un_ev l (by omega) l.length 0 [] (by omega) (by omega) (by simp)
    rw [List.drop_zero, List.nil_append] at this
    exact this
  have h : Ev (fun k => scriptoriumlaw02_EscapeReads.f k (mkB l)) true := by
    refine Ev.congr (fun k => by
      unfold scriptoriumlaw02_EscapeReads.f
      rw [shown_true, Option.bind_some, he, Option.bind_some]) (Ev.bind (entity_ev l (by omega)) ?_)
    refine Ev.congr (f := fun k => (scriptoriumref02_Unescape.f k (mkB l)).bind fun t => some ((mkB (unescape l)).toList == t.toList)) (fun k => ?_) (Ev.bind hun ⟨0, fun k _ => by simp⟩)
    show (if true = true then (if (mkB (entity l).1).toList = (mkB (entity l).1).toList then (if (((entity l).2 : Nat) : Int) = (((entity l).2 : Nat) : Int) then _ else _) else _) else _) = _
    rw [if_pos rfl, if_pos rfl, if_pos rfl, hu, Option.bind_some]
  exact h.rounds
end Go.Proofs.YthdlibgiejpjeaaGreatDoor.ReadsPure
