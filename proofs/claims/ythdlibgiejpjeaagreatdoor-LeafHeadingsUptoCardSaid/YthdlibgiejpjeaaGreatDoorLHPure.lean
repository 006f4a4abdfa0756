/- LeafHeadings' plain law. -/
import Derived.Test.YthdlibgiejpjeaaGreatDoorLH
import Derived.Test.YthdlibgiejpjeaaGreatDoorPureAid
import Derived.Lib.QuoteBits
set_option linter.unusedVariables false
set_option linter.unusedSimpArgs false
namespace Go.Proofs.YthdlibgiejpjeaaGreatDoor.LHPure
open Go Go.RowKit Go.Proofs.YthdlibgiejpjeaaGreatDoor Go.Proofs.YthdlibgiejpjeaaGreatDoor.Given Go.Proofs.YthdlibgiejpjeaaGreatDoor.LH Go.Proofs.YthdlibgiejpjeaaGreatDoorW.PrintWords Go.Proofs.YthdlibgiejpjeaaGreatDoor.Spec Go.Proofs.YthdlibgiejpjeaaGreatDoor.PureAid
theorem bnums_one (c : UInt8) : strOfNums [(c.toNat : Int)] = mkB [c] := nums_str [c]
/-- A piece, so many times. -/
def rep (l : List UInt8) : Nat → List UInt8
  | 0 => []
  | n + 1 => rep l n ++ l
theorem rep_len (l : List UInt8) (n : Nat) : (rep l n).length = n * l.length := by
  induction n with
  | zero => simp [rep]
  | succ n ih => rw [rep, List.length_append, ih, Nat.succ_mul]
theorem rep_one (c : UInt8) (n : Nat) : rep [c] n = List.replicate n c := by
  induction n with
  | zero => rfl
  | succ n ih => rw [rep, ih, List.replicate_succ']

theorem shown_ev : Ev (fun k => scriptoriumlaw05_shown.f k) true := Ev.of (fun k => scriptoriumlaw05_shown.mono k) (k := 4) (by decide +kernel)
theorem many_l0 (l : List UInt8) (n : Nat) (hn : n * l.length ≤ 1000000000) (hn2 : n ≤ 1000000000) : ∀ (d i : Nat), i + d = n →
    Ev (fun k => scriptoriumlaw05_many.l0 k (mkB l) (n : Int) (mkB (rep l i)) (i : Int)) (mkB (rep l n)) := by
  intro d
  induction d with
  | zero =>
    intro i hi
    obtain rfl : i = n := by omega
    refine ⟨1, fun k hk => ?_⟩
    obtain ⟨m, rfl⟩ : ∃ m, k = m + 1 := ⟨k - 1, by omega⟩
    show scriptoriumlaw05_many.l0 (m + 1) _ _ _ _ = _
    rw [scriptoriumlaw05_many.l0, if_neg (by omega)]
  | succ d ih =>
    intro i hi
    have hm : i * l.length + l.length ≤ n * l.length := by
      rw [← Nat.succ_mul]; exact Nat.mul_le_mul_right _ (by omega)
    refine Ev.step (fun k => ?_) (ih (i + 1) (by omega))
    show scriptoriumlaw05_many.l0 (k + 1) _ _ _ _ = _
    rw [scriptoriumlaw05_many.l0, if_pos (by omega), if_pos (by rw [mkB_size, mkB_size, rep_len]; omega), mkB_append, wrap_in _ (by omega)]
    rfl
theorem many_ev (c : UInt8) (n : Nat) (hn2 : n ≤ 1000000) : Ev (fun k => scriptoriumlaw05_many.f k (mkB [c]) (n : Int)) (mkB (List.replicate n c)) := by
  have h := many_l0 [c] n (by simp only [List.length_singleton]; omega) (by omega) n 0 (by omega)
  rw [rep_one c n] at h
  exact h
theorem and_mask (x : Int) (m : Nat) (hm : m < 9223372036854775807) : ∃ v : Nat, v ≤ m ∧ Go.bits .and .i64 x (m : Int) = (v : Int) := by
  refine ⟨(BitVec.ofInt 64 x &&& BitVec.ofInt 64 (m : Int)).toNat, ?_, ?_⟩
  · rw [BitVec.toNat_and, ofInt_u64 m (by omega)]; exact Nat.and_le_right
  · show IntKind.i64.wrap ((BitVec.ofInt 64 x &&& BitVec.ofInt 64 ((m : Nat) : Int)).toNat : Int) = _
    have hle : (BitVec.ofInt 64 x &&& BitVec.ofInt 64 ((m : Nat) : Int)).toNat ≤ m := by
      rw [BitVec.toNat_and, ofInt_u64 m (by omega)]; exact Nat.and_le_right
    exact IntWalk.i64_in _ (by omega)
theorem run_rep (c : UInt8) (n : Nat) (r : List UInt8) (h : ∀ d s, r = d :: s → d ≠ c) : run (List.replicate n c ++ r) c = n := by
  unfold run
  rw [List.takeWhile_append_of_pos (fun a ha => by simpa using (List.mem_replicate.1 ha).2)]
  cases r with
  | nil => simp
  | cons d s => rw [List.takeWhile_cons, if_neg (by simpa using h d s rfl)]; simp

/-! letters -/
def letter (c : UInt8) : Bool := 97 ≤ c && c ≤ 122
/-- What 'letters' hands back. -/
structure Words (t : List UInt8) : Prop where
  len : t.length ≤ 300
  all : ∀ c ∈ t, letter c = true ∨ c = 32
  head : ∀ d s, t = d :: s → d ≠ 32
  last : ∀ s z, t = s ++ [z] → z ≠ 32
structure Words0 (t : List UInt8) : Prop where
  len : t.length ≤ 300
  all : ∀ c ∈ t, letter c = true ∨ c = 32
  head : ∀ d s, t = d :: s → d ≠ 32
theorem snoc_cases (l : List UInt8) : l = [] ∨ ∃ s z, l = s ++ [z] := by
  cases h : l.reverse with
  | nil => left; simpa using h
  | cons z s => right; exact ⟨s.reverse, z, by rw [← List.reverse_reverse l, h]; simp⟩
theorem rd_last (s : List UInt8) (z : UInt8) : rd (bnums (s ++ [z])) ((s.length : Nat) : Int) = (z.toNat : Int) := by
  unfold rd bnums
  rw [Int.toNat_natCast]
  simp
theorem l1_ev : ∀ (d : Nat) (a : List UInt8), a.length ≤ d → Words0 a → ∃ t, Words t ∧ Ev (fun k => scriptoriumlaw05_letters.l1 k (bnums a)) (mkB t) := by
  intro d
  induction d with
  | zero =>
    intro a hd ha
    have h0 : a = [] := List.length_eq_zero_iff.1 (by omega)
    subst h0
    refine ⟨[], ⟨by simp, (fun c h => by cases h), (fun d s h => by cases h), (fun s z h => by simp at h)⟩, 1, fun k hk => ?_⟩
    obtain ⟨m, rfl⟩ : ∃ m, k = m + 1 := ⟨k - 1, by omega⟩
    show scriptoriumlaw05_letters.l1 (m + 1) _ = _
    rw [scriptoriumlaw05_letters.l1, if_neg (by rw [nums_len]; simp), nums_str]
  | succ d ih =>
    intro a hd ha
    rcases snoc_cases a with rfl | ⟨s, z, rfl⟩
    · exact ih [] (by simp) ha
    have hl : (bnums (s ++ [z])).length = s.length + 1 := by rw [nums_len, List.length_append]; rfl
    have hl300 := ha.len
    rw [List.length_append, List.length_singleton] at hl300 hd
    have hw : wrap64 (((bnums (s ++ [z])).length : Int) - 1) = ((s.length : Nat) : Int) := by rw [hl, wrap_in _ (by omega)]; omega
    by_cases hz : z = 32
    · have hs : Words0 s := ⟨by omega, fun c hc => ha.all c (List.mem_append_left _ hc), fun d r h => ha.head d (r ++ [z]) (by rw [h]; rfl)⟩
      obtain ⟨t, ht, hev⟩ := ih s (by omega) hs
      refine ⟨t, ht, Ev.step (fun k => ?_) hev⟩
      show scriptoriumlaw05_letters.l1 (k + 1) _ = _
      rw [scriptoriumlaw05_letters.l1, if_pos (by rw [hl]; omega), hw, if_pos (by omega), if_pos (by rw [hl]; omega), rd_last, if_pos (by rw [hz]; rfl), if_pos (by rw [hl]; omega), Int.toNat_natCast]
      congr 1
      unfold bnums; simp
    · refine ⟨s ++ [z], ⟨by rw [List.length_append, List.length_singleton]; omega, ha.all, ha.head, fun s' z' h => ?_⟩, 1, fun k hk => ?_⟩
      · have := List.append_inj_right' h rfl
        injection this with h1; rw [← h1]; exact hz
      obtain ⟨m, rfl⟩ : ∃ m, k = m + 1 := ⟨k - 1, by omega⟩
      show scriptoriumlaw05_letters.l1 (m + 1) _ = _
      rw [scriptoriumlaw05_letters.l1, if_pos (by rw [hl]; omega), hw, if_pos (by omega), if_pos (by rw [hl]; omega), rd_last, if_neg (show ¬ ((z.toNat : Int) = 32) from ne_int z 32 hz), nums_str]
theorem l0_ev (l : List UInt8) (hl : l.length ≤ 1000000000) : ∀ (d i : Nat) (a : List UInt8), i + d = l.length → Words0 a → ∃ t, Words t ∧ Ev (fun k => scriptoriumlaw05_letters.l0 k (mkB l) 300 (bnums a) (i : Int)) (mkB t) := by
  intro d
  have stop : ∀ (i : Nat) (a : List UInt8), Words0 a → (l.length ≤ i ∨ 300 ≤ a.length) → ∃ t, Words t ∧ Ev (fun k => scriptoriumlaw05_letters.l0 k (mkB l) 300 (bnums a) (i : Int)) (mkB t) := by
    intro i a ha h
    obtain ⟨t, ht, hev⟩ := l1_ev a.length a (Nat.le_refl _) ha
    refine ⟨t, ht, Ev.step (f := fun k => scriptoriumlaw05_letters.j1 k (mkB l) 300 (bnums a) (i : Int) false) (fun k => ?_) (Ev.step (fun k => ?_) hev)⟩
    · show scriptoriumlaw05_letters.l0 (k + 1) _ _ _ _ = _
      rw [scriptoriumlaw05_letters.l0]
      by_cases h1 : (i : Int) < ((mkB l).size : Int)
      · rw [if_pos h1, show decide (((bnums a).length : Int) < 300) = false by rw [mkB_size] at h1; rw [nums_len]; simp; omega]
      · rw [if_neg h1]
    · show scriptoriumlaw05_letters.j1 (k + 1) _ _ _ _ false = _
      rw [scriptoriumlaw05_letters.j1, if_neg (by decide)]
  induction d with
  | zero => intro i a hi ha; exact stop i a ha (.inl (by omega))
  | succ d ih =>
    intro i a hi ha
    by_cases hfull : 300 ≤ a.length
    · exact stop i a ha (.inr hfull)
    have hlt : i < l.length := by omega
    obtain ⟨c, r, hr⟩ : ∃ c r, l.drop i = c :: r := ⟨_, _, List.drop_eq_getElem_cons hlt⟩
    have hw : wrap64 ((i : Int) + 1) = ((i + 1 : Nat) : Int) := by rw [wrap_in _ (by omega)]; rfl
    have hcb := c.toNat_lt
    have h0 : ∀ k, scriptoriumlaw05_letters.l0 (k + 1) (mkB l) 300 (bnums a) (i : Int) = scriptoriumlaw05_letters.j1 k (mkB l) 300 (bnums a) (i : Int) true := fun k => by
      rw [scriptoriumlaw05_letters.l0, if_pos (by rw [mkB_size]; omega), show decide (((bnums a).length : Int) < 300) = true by rw [nums_len]; simp; omega]
    have hsz1 : (i : Int) < ((mkB l).size : Int) := by rw [mkB_size]; omega
    have hlim : (bnums a).length < 140737488355328 := by rw [nums_len]; omega
    -- the byte is put down
    have put : letter c = true ∨ (c = 32 ∧ a ≠ []) → ∃ t, Words t ∧ Ev (fun k => scriptoriumlaw05_letters.l0 k (mkB l) 300 (bnums (a ++ [c])) ((i + 1 : Nat) : Int)) (mkB t) := fun h => by
      refine ih (i + 1) (a ++ [c]) (by omega) ⟨by rw [List.length_append, List.length_singleton]; omega, fun x hx => ?_, fun x s hx => ?_⟩
      · rcases List.mem_append.1 hx with hx | hx
        · exact ha.all x hx
        · rw [List.mem_singleton.1 hx]; rcases h with h | h
          · exact .inl h
          · exact .inr h.1
      · cases a with
        | nil =>
          injection hx with h1 h2; subst h1
          rcases h with h | h
          · intro e; rw [e] at h; exact absurd h (by decide)
          · exact absurd rfl h.2
        | cons y ys => injection hx with h1 h2; exact ha.head x ys (by rw [h1])
    -- the byte is passed over
    have skip := ih (i + 1) a (by omega) ha
    by_cases h32 : c = 32
    · -- a blank
      have h97 : ¬ ((c.toNat : Int) ≥ 97) := by rw [h32]; decide
      rcases snoc_cases a with rfl | ⟨s, z, rfl⟩
      · obtain ⟨t, ht, hev⟩ := skip
        refine ⟨t, ht, Ev.step h0 (Ev.step (fun k => ?_) hev)⟩
        show scriptoriumlaw05_letters.j1 (k + 1) _ _ _ _ true = _
        rw [scriptoriumlaw05_letters.j1, if_pos rfl, if_pos (by omega), if_pos hsz1, bt_drop l i c r hr, if_neg h97, if_pos (by rw [h32]; rfl), if_neg (by rw [nums_len]; simp), hw]
      · have hlen : (bnums (s ++ [z])).length = s.length + 1 := by rw [nums_len, List.length_append]; rfl
        have hl300 := ha.len
        rw [List.length_append, List.length_singleton] at hl300
        have hwl : wrap64 (((bnums (s ++ [z])).length : Int) - 1) = ((s.length : Nat) : Int) := by rw [hlen, wrap_in _ (by omega)]; omega
        by_cases hz : z = 32
        · obtain ⟨t, ht, hev⟩ := skip
          refine ⟨t, ht, Ev.step h0 (Ev.step (fun k => ?_) hev)⟩
          show scriptoriumlaw05_letters.j1 (k + 1) _ _ _ _ true = _
          rw [scriptoriumlaw05_letters.j1, if_pos rfl, if_pos (by omega), if_pos hsz1, bt_drop l i c r hr, if_neg h97, if_pos (by rw [h32]; rfl), if_pos (by rw [hlen]; omega), hwl, if_pos (by omega), if_pos (by rw [hlen]; omega), rd_last, if_pos (by rw [hz]; rfl), hw]
        · obtain ⟨t, ht, hev⟩ := put (.inr ⟨h32, by simp⟩)
          refine ⟨t, ht, Ev.step h0 (Ev.step (fun k => ?_) hev)⟩
          show scriptoriumlaw05_letters.j1 (k + 1) _ _ _ _ true = _
          rw [scriptoriumlaw05_letters.j1, if_pos rfl, if_pos (by omega), if_pos hsz1, bt_drop l i c r hr, if_neg h97, if_pos (by rw [h32]; rfl), if_pos (by rw [hlen]; omega), hwl, if_pos (by omega), if_pos (by rw [hlen]; omega), rd_last, if_neg (show ¬ ((z.toNat : Int) = 32) from ne_int z 32 hz), if_pos hlim, nums_snoc, hw]
    · by_cases hlet : letter c = true
      · have hb : 97 ≤ c.toNat ∧ c.toNat ≤ 122 := by
          unfold letter at hlet
          simp only [Bool.and_eq_true, decide_eq_true_eq, UInt8.le_iff_toNat_le] at hlet
          exact hlet
        obtain ⟨t, ht, hev⟩ := put (.inl hlet)
        refine ⟨t, ht, Ev.step h0 (Ev.step (fun k => ?_) hev)⟩
        show scriptoriumlaw05_letters.j1 (k + 1) _ _ _ _ true = _
        rw [scriptoriumlaw05_letters.j1, if_pos rfl, if_pos (by omega), if_pos hsz1, bt_drop l i c r hr, if_pos (by omega), if_pos (by omega), if_pos hlim, nums_snoc, hw]
      · have hb : ¬ (97 ≤ c.toNat ∧ c.toNat ≤ 122) := fun h => hlet (by
          unfold letter
          simp only [Bool.and_eq_true, decide_eq_true_eq, UInt8.le_iff_toNat_le]
          exact h)
        have h32i : ¬ ((c.toNat : Int) = 32) := ne_int c 32 h32
        obtain ⟨t, ht, hev⟩ := skip
        refine ⟨t, ht, Ev.step h0 (Ev.step (fun k => ?_) hev)⟩
        show scriptoriumlaw05_letters.j1 (k + 1) _ _ _ _ true = _
        rw [scriptoriumlaw05_letters.j1, if_pos rfl, if_pos (by omega), if_pos hsz1, bt_drop l i c r hr, hw]
        by_cases h97 : (c.toNat : Int) ≥ 97
        · rw [if_pos h97, if_neg (by omega), if_neg h32i]
        · rw [if_neg h97, if_neg h32i]
theorem letters_ev (l : List UInt8) (hl : l.length ≤ 1000000000) : ∃ t, Words t ∧ Ev (fun k => scriptoriumlaw05_letters.f k (mkB l) 300) (mkB t) :=
  l0_ev l hl l.length 0 [] (by omega) ⟨by simp, by simp, fun d s h => by cases h⟩

/-! trimming -/
theorem left_eq (cs b l : List UInt8) (hb : ∀ c ∈ b, cs.contains c = true) (hl : ∀ d s, l = d :: s → cs.contains d = false) : Lib.trimLeftS (b ++ l) cs = l := by
  unfold Lib.trimLeftS
  induction b with
  | nil =>
    cases l with
    | nil => rfl
    | cons d s => rw [List.nil_append, List.dropWhile_cons, if_neg (by rw [hl d s rfl]; decide)]
  | cons c b ih =>
    rw [List.cons_append, List.dropWhile_cons, if_pos (hb c List.mem_cons_self)]
    exact ih (fun x hx => hb x (List.mem_cons_of_mem _ hx))
theorem right_eq (cs b l : List UInt8) (hb : ∀ c ∈ b, cs.contains c = true) (hl : ∀ s z, l = s ++ [z] → cs.contains z = false) : Lib.trimRightS (l ++ b) cs = l := by
  have h := left_eq cs b.reverse l.reverse (fun c hc => hb c (by simpa using hc)) (fun d s hd => hl s.reverse d (by rw [← List.reverse_reverse l, hd]; simp))
  unfold Lib.trimRightS
  rw [List.reverse_append]
  unfold Lib.trimLeftS at h
  rw [h, List.reverse_reverse]

def blank (c : UInt8) : Prop := c = 32 ∨ c = 9
theorem blank_in (c : UInt8) (h : blank c) : ([32, 9] : List UInt8).contains c = true := by rcases h with rfl | rfl <;> rfl
theorem letter_out (c : UInt8) (h : letter c = true) : ([32, 9] : List UInt8).contains c = false ∧ ([35] : List UInt8).contains c = false := by
  have : ∀ c : Fin 256, letter c.val.toUInt8 = true → ([32, 9] : List UInt8).contains c.val.toUInt8 = false ∧ ([35] : List UInt8).contains c.val.toUInt8 = false := by decide +kernel
  have h2 := this ⟨c.toNat, c.toNat_lt⟩
  simp only [show c.toNat.toUInt8 = c by simp] at h2
  exact h2 h
theorem trim_f (l : List UInt8) (h : l.length ≤ 4000000000) : strings_Trim.f (mkB l) (⟨#[32, 9]⟩ : ByteArray) = some (mkB (Lib.trimS l [32, 9])) := by
  unfold strings_Trim.f
  rw [if_pos ⟨by rw [mkB_size]; omega, by show 2 < 4294967281; omega, by rfl⟩]; rfl
theorem trimR_f (l : List UInt8) (h : l.length ≤ 4000000000) : strings_TrimRight.f (mkB l) (⟨#[35]⟩ : ByteArray) = some (mkB (Lib.trimRightS l [35])) := by
  unfold strings_TrimRight.f
  rw [if_pos ⟨by rw [mkB_size]; omega, by show 1 < 4294967281; omega, by rfl⟩]; rfl
theorem trimR2_f (l : List UInt8) (h : l.length ≤ 4000000000) : strings_TrimRight.f (mkB l) (⟨#[32, 9]⟩ : ByteArray) = some (mkB (Lib.trimRightS l [32, 9])) := by
  unfold strings_TrimRight.f
  rw [if_pos ⟨by rw [mkB_size]; omega, by show 2 < 4294967281; omega, by rfl⟩]; rfl
theorem beh_f (l : List UInt8) : leaf_behind.f (mkB l) = some (behind l) := rfl

/-- What leaf.Heading says of a row of signs, blanks, a text of words, and perhaps blanks, signs, blanks. -/
theorem head_ev (n : Nat) (g t tail : List UInt8) (c : Nat) (hn1 : 1 ≤ n) (hn2 : n ≤ 8) (hg : ∀ x ∈ g, blank x) (hg2 : g.length ≤ 100) (ht : Words t) (hc : c ≤ 100)
    (htail : (t = [] ∧ tail = []) ∨ (t ≠ [] ∧ tail = 32 :: (g ++ (List.replicate c 35 ++ g)))) :
    Ev (fun k => leaf_Heading.f k (mkB (List.replicate n 35 ++ (32 :: (g ++ (t ++ tail)))))) (if n ≤ 6 then ((n : Int), mkB t) else (0, mkB [])) := by
  have hrun : run (List.replicate n 35 ++ (32 :: (g ++ (t ++ tail)))) 35 = n := run_rep 35 n _ (fun d s h => by injection h with a b; rw [← a]; decide)
  have hdrop : (List.replicate n 35 ++ (32 :: (g ++ (t ++ tail)))).drop n = 32 :: (g ++ (t ++ tail)) := List.drop_left' (by simp)
  have hl300 := ht.len
  have htl : tail.length ≤ 400 := by
    rcases htail with ⟨_, rfl⟩ | ⟨_, rfl⟩
    · simp
    · simp only [List.length_cons, List.length_append, List.length_replicate]; omega
  have hlen : (List.replicate n 35 ++ (32 :: (g ++ (t ++ tail)))).length ≤ 2000 := by
    simp only [List.length_cons, List.length_append, List.length_replicate]; omega
  have hln : n ≤ (List.replicate n 35 ++ (32 :: (g ++ (t ++ tail)))).length := by rw [List.length_append, List.length_replicate]; omega
  have hrf : leaf_run.f (mkB (List.replicate n 35 ++ (32 :: (g ++ (t ++ tail))))) 35 = some (n : Int) := by
    unfold leaf_run.f
    rw [if_pos ⟨by omega, by omega, by rw [mkB_size]; omega⟩, mkB_data, show ((35 : Int).toNat.toUInt8) = 35 from rfl, hrun]
  generalize hL : List.replicate n 35 ++ (32 :: (g ++ (t ++ tail))) = l at *
  have hsz2 : ((n : Nat) : Int) ≤ ((mkB l).size : Int) := by rw [mkB_size]; omega
  refine ⟨1, fun k hk => ?_⟩
  obtain ⟨q, rfl⟩ : ∃ q, k = q + 1 := ⟨k - 1, by omega⟩
  show leaf_Heading.f (q + 1) (mkB l) = _
  unfold leaf_Heading.f
  rw [hrf, Option.bind_some, if_neg (by omega)]
  by_cases h6 : n ≤ 6
  case neg =>
    rw [if_pos (by omega), if_neg h6, leaf_Heading.j0, if_pos rfl]; rfl
  rw [if_neg (by omega), if_pos (by omega), if_pos hsz2, Int.toNat_natCast, mkB_drop, hdrop, beh_f, Option.bind_some, if_pos h6]
  rw [show (!(behind (32 :: (g ++ (t ++ tail))))) = false from rfl, leaf_Heading.j0, if_neg (by decide), if_pos (by omega), if_pos hsz2, Int.toNat_natCast, mkB_drop, hdrop]
  have hbl : ∀ x ∈ (32 :: g), ([32, 9] : List UInt8).contains x = true := fun x hx => by
    rcases List.mem_cons.1 hx with rfl | hx
    · rfl
    · exact blank_in x (hg x hx)
  rcases snoc_cases t with rfl | ⟨s, z, hsz⟩
  · -- no text
    rcases htail with ⟨_, rfl⟩ | ⟨h0, _⟩
    · have h1 : Lib.trimS (32 :: (g ++ ([] ++ []))) [32, 9] = [] := by
        unfold Lib.trimS
        have := right_eq [32, 9] (32 :: g) [] hbl (fun s z h => by simp at h)
        rw [List.nil_append] at this
        rw [List.append_nil, List.append_nil, this]; rfl
      rw [trim_f _ (by simp only [List.length_cons, List.length_append, List.length_nil]; omega), h1, Option.bind_some, trimR_f [] (by simp), Option.bind_some, show Lib.trimRightS [] [35] = [] from rfl, mkB_toList, if_pos rfl]
      rfl
    · exact absurd rfl h0
  · have hz32 := ht.last s z hsz
    have hzl : letter z = true := (ht.all z (by rw [hsz]; simp)).resolve_right hz32
    obtain ⟨d, r, hdr⟩ : ∃ d r, t = d :: r := by
      cases t with
      | nil => simp at hsz
      | cons d r => exact ⟨d, r, rfl⟩
    have hd32 := ht.head d r hdr
    have hdl : letter d = true := (ht.all d (by rw [hdr]; simp)).resolve_right hd32
    have hne : ¬ t = [] := by rw [hdr]; simp
    have hlast : ∀ s' z', t = s' ++ [z'] → letter z' = true := fun s' z' h => by
      rw [hsz] at h
      have := List.append_inj_right' h rfl
      injection this with h1; rw [← h1]; exact hzl
    have hhead : ∀ d' s' (y : List UInt8), t ++ y = d' :: s' → ([32, 9] : List UInt8).contains d' = false := fun d' s' y h => by
      rw [hdr] at h; injection h with h1 h2; rw [← h1]; exact (letter_out d hdl).1
    rcases htail with ⟨h0, _⟩ | ⟨_, rfl⟩
    · exact absurd h0 hne
    by_cases hc0 : c = 0
    · subst hc0
      have h1 : Lib.trimS (32 :: (g ++ (t ++ 32 :: (g ++ (List.replicate 0 35 ++ g))))) [32, 9] = t := by
        unfold Lib.trimS
        rw [show (32 :: (g ++ (t ++ 32 :: (g ++ (List.replicate 0 35 ++ g)))) : List UInt8) = ((32 :: g) ++ t) ++ (32 :: (g ++ g)) by simp]
        rw [right_eq [32, 9] (32 :: (g ++ g)) ((32 :: g) ++ t) (fun x hx => by
          rcases List.mem_cons.1 hx with rfl | hx
          · rfl
          · exact blank_in x (hg x (by simpa using hx))) (fun s' z' h => by
          rw [hsz, ← List.append_assoc] at h
          have := List.append_inj_right' h rfl
          injection this with h1; rw [← h1]; exact (letter_out z hzl).1)]
        exact left_eq [32, 9] (32 :: g) t hbl (fun d' s' h => hhead d' s' [] (by rw [List.append_nil]; exact h))
      have h2 : Lib.trimRightS t [35] = t := by
        have := right_eq [35] [] t (fun _ h => by cases h) (fun s' z' h => (letter_out z' (hlast s' z' h)).2)
        rwa [List.append_nil] at this
      rw [trim_f _ (by simp only [List.length_cons, List.length_append, List.length_replicate]; omega), h1, Option.bind_some, trimR_f t (by omega), h2, Option.bind_some, mkB_toList, if_neg hne, if_pos rfl]
    · have h1 : Lib.trimS (32 :: (g ++ (t ++ 32 :: (g ++ (List.replicate c 35 ++ g))))) [32, 9] = t ++ 32 :: (g ++ List.replicate c 35) := by
        unfold Lib.trimS
        rw [show (32 :: (g ++ (t ++ 32 :: (g ++ (List.replicate c 35 ++ g)))) : List UInt8) = ((32 :: g) ++ (t ++ 32 :: (g ++ List.replicate c 35))) ++ g by simp]
        rw [right_eq [32, 9] g _ (fun x hx => blank_in x (hg x hx)) (fun s' z' h => by
          obtain ⟨c', rfl⟩ : ∃ c', c = c' + 1 := ⟨c - 1, by omega⟩
          rw [List.replicate_succ', ← List.append_assoc, ← List.cons_append, ← List.append_assoc, ← List.append_assoc] at h
          have := List.append_inj_right' h rfl
          injection this with h1; rw [← h1]; rfl)]
        exact left_eq [32, 9] (32 :: g) _ hbl (fun d' s' h => hhead d' s' _ h)
      have h2 : Lib.trimRightS (t ++ 32 :: (g ++ List.replicate c 35)) [35] = t ++ 32 :: g := by
        rw [show t ++ 32 :: (g ++ List.replicate c 35) = (t ++ 32 :: g) ++ List.replicate c 35 by simp]
        refine right_eq [35] _ _ (fun x hx => by rw [(List.mem_replicate.1 hx).2]; rfl) (fun s' z' h => ?_)
        rcases snoc_cases g with rfl | ⟨g', y, rfl⟩
        · have := List.append_inj_right' h rfl
          injection this with h1; rw [← h1]; rfl
        · rw [← List.cons_append, ← List.append_assoc] at h
          have := List.append_inj_right' h rfl
          injection this with h1; rw [← h1]
          rcases hg y (by simp) with rfl | rfl <;> rfl
      have h3 : Lib.trimRightS (t ++ 32 :: g) [32, 9] = t := right_eq [32, 9] (32 :: g) t hbl (fun s' z' h => (letter_out z' (hlast s' z' h)).1)
      have hu : (t ++ 32 :: g).length = t.length + g.length + 1 := by rw [List.length_append, List.length_cons]; omega
      have hw : wrap64 (((mkB (t ++ 32 :: g)).size : Int) - 1) = ((t.length + g.length : Nat) : Int) := by rw [mkB_size, hu, wrap_in _ (by omega)]; omega
      have hb : behind ((t ++ 32 :: g).drop (t.length + g.length)) = true := by
        rcases snoc_cases g with rfl | ⟨g', y, rfl⟩
        · rw [List.length_nil, Nat.add_zero, List.drop_left' rfl]; rfl
        · rw [show t ++ 32 :: (g' ++ [y]) = (t ++ 32 :: g') ++ [y] by simp, List.drop_left' (by simp <;> omega)]
          exact blank_in y (hg y (by simp))
      rw [trim_f _ (by simp only [List.length_cons, List.length_append, List.length_replicate]; omega), h1, Option.bind_some, trimR_f _ (by simp only [List.length_cons, List.length_append, List.length_replicate]; omega), h2, Option.bind_some, mkB_toList, mkB_toList,
        if_neg (by simp), if_neg (fun h => by
          have := congrArg List.length h
          simp only [List.length_cons, List.length_append, List.length_replicate] at this; omega), hw, if_pos (by omega), if_pos (by rw [mkB_size, hu]; omega), Int.toNat_natCast, mkB_drop, beh_f, hb, Option.bind_some, if_pos rfl, trimR2_f _ (by omega), h3, Option.bind_some]
theorem x_ev (n : Nat) (t : List UInt8) (hn1 : 1 ≤ n) (hn2 : n ≤ 6) (ht : t.length ≤ 300) : Ev (fun k => leaf_Heading.f k (mkB (List.replicate n 35 ++ 120 :: t))) (0, mkB []) := by
  have hrun : run (List.replicate n 35 ++ 120 :: t) 35 = n := run_rep 35 n _ (fun d s h => by injection h with a b; rw [← a]; decide)
  have hdrop : (List.replicate n 35 ++ 120 :: t).drop n = 120 :: t := List.drop_left' (by simp)
  have hlen : (List.replicate n 35 ++ 120 :: t).length ≤ 2000 := by simp only [List.length_cons, List.length_append, List.length_replicate]; omega
  have hln : n ≤ (List.replicate n 35 ++ 120 :: t).length := by rw [List.length_append, List.length_replicate]; omega
  have hrf : leaf_run.f (mkB (List.replicate n 35 ++ 120 :: t)) 35 = some (n : Int) := by
    unfold leaf_run.f
    rw [if_pos ⟨by omega, by omega, by rw [mkB_size]; omega⟩, mkB_data, show ((35 : Int).toNat.toUInt8) = 35 from rfl, hrun]
  generalize hL : List.replicate n 35 ++ 120 :: t = l at *
  refine ⟨1, fun k hk => ?_⟩
  obtain ⟨q, rfl⟩ : ∃ q, k = q + 1 := ⟨k - 1, by omega⟩
  show leaf_Heading.f (q + 1) (mkB l) = _
  unfold leaf_Heading.f
  rw [hrf, Option.bind_some, if_neg (by omega), if_neg (by omega), if_pos (by omega), if_pos (by rw [mkB_size]; omega), Int.toNat_natCast, mkB_drop, hdrop, beh_f, Option.bind_some, show (!(behind (120 :: t))) = true from rfl, leaf_Heading.j0, if_pos rfl]
  rfl
theorem j0_ev (n : Nat) (g t tail : List UInt8) (c : Nat) (hn1 : 1 ≤ n) (hn2 : n ≤ 8) (hg : ∀ x ∈ g, blank x) (hg2 : g.length ≤ 100) (ht : Words t) (hc : c ≤ 100)
    (htail : (t = [] ∧ tail = []) ∨ (t ≠ [] ∧ tail = 32 :: (g ++ (List.replicate c 35 ++ g)))) (S : List UInt8) (hS : S = List.replicate n 35 ++ (32 :: (g ++ (t ++ tail)))) :
    Ev (fun k => scriptoriumlaw05_LeafHeadings.j0 k (n : Int) true (mkB t) (mkB S)) true := by
  have h1 := head_ev n g t tail c hn1 hn2 hg hg2 ht hc htail
  rw [← hS] at h1
  have hl := ht.len
  refine Ev.step (f := fun k => (leaf_Heading.f k (mkB S)).bind fun bt166 => (if (n : Int) > 6 then (if true = true then (if bt166.1 = 0 then (some (bt166.2.toList == ([] : List UInt8))) else (some false)) else (some false)) else ((scriptoriumlaw05_many.f k (mkB [35]) (n : Int)).bind fun t168 => (if t168.size + 1 ≤ 9223372036854775807 then (if (t168 ++ mkB [120]).size + (mkB t).size ≤ 9223372036854775807 then ((leaf_Heading.f k ((t168 ++ mkB [120]) ++ mkB t)).bind fun bt169 => (if true = true then (if bt166.1 = (n : Int) then (if bt166.2.toList = (mkB t).toList then (if bt169.1 = 0 then (some (bt169.2.toList == ([] : List UInt8))) else (some false)) else (some false)) else (some false)) else (some false))) else (none)) else (none))))) (fun k => ?_) ?_
  · show scriptoriumlaw05_LeafHeadings.j0 (k + 1) _ _ _ _ = _
    rw [scriptoriumlaw05_LeafHeadings.j0]; rfl
  refine Ev.bind h1 ?_
  by_cases h6 : n ≤ 6
  · rw [if_pos h6]
    have hx := x_ev n t hn1 h6 hl
    have hm := many_ev 35 n (by omega)
    refine Ev.congr (fun k => if_neg (show ¬ ((n : Int) > 6) by omega)) (Ev.bind hm ?_)
    have e1 : (mkB (List.replicate n 35)).size + 1 ≤ 9223372036854775807 := by rw [mkB_size, List.length_replicate]; omega
    have e2 : (mkB (List.replicate n 35) ++ mkB [120]).size + (mkB t).size ≤ 9223372036854775807 := by rw [mkB_append, mkB_size, mkB_size, List.length_append, List.length_replicate]; simp only [List.length_singleton]; omega
    refine Ev.congr (fun k => (if_pos e1).trans (if_pos e2)) ?_
    rw [mkB_append, mkB_append, show List.replicate n 35 ++ [120] ++ t = List.replicate n 35 ++ 120 :: t by simp]
    refine Ev.bind hx ⟨0, fun k _ => ?_⟩
    show (if true = true then (if (n : Int) = (n : Int) then (if (mkB t).toList = (mkB t).toList then (if (0 : Int) = 0 then (some ((mkB []).toList == ([] : List UInt8))) else _) else _) else _) else _) = _
    rw [if_pos rfl, if_pos rfl, if_pos rfl, if_pos rfl, mkB_toList]
    rfl
  · rw [if_neg h6]
    refine ⟨0, fun k _ => ?_⟩
    have h7 : (n : Int) > 6 := by omega
    exact (if_pos h7).trans ((if_pos (show true = true from rfl)).trans ((if_pos (show (0 : Int) = 0 from rfl)).trans (by rw [mkB_toList]; rfl)))
theorem pure (a0 : Int) (h0 : -9223372036854775808 ≤ a0 ∧ a0 ≤ 9223372036854775807) (l : List UInt8) (hl : l.length ≤ 100000000) (a2 : Int) (h2 : -9223372036854775808 ≤ a2 ∧ a2 ≤ 9223372036854775807) (a3 : Int) (h3 : -9223372036854775808 ≤ a3 ∧ a3 ≤ 9223372036854775807) :
    ∃ k, scriptoriumlaw05_LeafHeadings.f k a0 (mkB l) a2 a3 = some true := by
  obtain ⟨m, hm, em0⟩ := and_mask a0 7 (by decide)
  obtain ⟨p, hp, ep0⟩ := and_mask a2 7 (by decide)
  obtain ⟨q, hq, eq_0⟩ := and_mask (a2 / 8) 1 (by decide)
  obtain ⟨c, hc, ec0⟩ := and_mask a3 15 (by decide)
  have em2 := Lib.hid (show Go.bits .and .i64 a0 7 = (m : Int) from em0); clear em0
  have ep2 := Lib.hid (show Go.bits .and .i64 a2 7 = (p : Int) from ep0); clear ep0
  have eq2 := Lib.hid (show Go.bits .and .i64 (a2 / 8) 1 = (q : Int) from eq_0); clear eq_0
  have ec2 := Lib.hid (show Go.bits .and .i64 a3 15 = (c : Int) from ec0); clear ec0
  have ew : wrap64 (1 + (m : Int)) = ((m + 1 : Nat) : Int) := by rw [wrap_in _ (by omega)]; omega
  obtain ⟨t, ht, hlet⟩ := letters_ev l (by omega)
  have hl3 := ht.len
  have m1 := many_ev 32 p (by omega)
  have m2 := many_ev 9 q (by omega)
  have m3 := many_ev 35 (m + 1) (by omega)
  have m4 := many_ev 35 c (by omega)
  have hg : ∀ x ∈ List.replicate p 32 ++ List.replicate q 9, blank x := fun x hx => by
    rcases List.mem_append.1 hx with h | h
    · exact .inl (List.mem_replicate.1 h).2
    · exact .inr (List.mem_replicate.1 h).2
  have hgl : (List.replicate p 32 ++ List.replicate q (9 : UInt8)).length = p + q := by simp
  have h : Ev (fun k => scriptoriumlaw05_LeafHeadings.f k a0 (mkB l) a2 a3) true := by
    refine Ev.congr (f := fun k => (scriptoriumlaw05_shown.f k).bind fun t160 => ((scriptoriumlaw05_letters.f k (mkB l) 300).bind fun t161 => ((scriptoriumlaw05_many.f k (mkB [32]) (p : Int)).bind fun t162 => ((scriptoriumlaw05_many.f k (mkB [9]) (q : Int)).bind fun t163 => (if t162.size + t163.size ≤ 9223372036854775807 then ((scriptoriumlaw05_many.f k (mkB [35]) ((m + 1 : Nat) : Int)).bind fun t164 => (if t164.size + 1 ≤ 9223372036854775807 then (if (t164 ++ mkB [32]).size + (t162 ++ t163).size ≤ 9223372036854775807 then (if ((t164 ++ mkB [32]) ++ (t162 ++ t163)).size + t161.size ≤ 9223372036854775807 then (if t161.toList = ([] : List UInt8) then (scriptoriumlaw05_LeafHeadings.j0 k ((m + 1 : Nat) : Int) t160 t161 (((t164 ++ mkB [32]) ++ (t162 ++ t163)) ++ t161)) else (if (((t164 ++ mkB [32]) ++ (t162 ++ t163)) ++ t161).size + 1 ≤ 9223372036854775807 then (if ((((t164 ++ mkB [32]) ++ (t162 ++ t163)) ++ t161) ++ mkB [32]).size + (t162 ++ t163).size ≤ 9223372036854775807 then ((scriptoriumlaw05_many.f k (mkB [35]) (c : Int)).bind fun t165 => (if (((((t164 ++ mkB [32]) ++ (t162 ++ t163)) ++ t161) ++ mkB [32]) ++ (t162 ++ t163)).size + t165.size ≤ 9223372036854775807 then (if ((((((t164 ++ mkB [32]) ++ (t162 ++ t163)) ++ t161) ++ mkB [32]) ++ (t162 ++ t163)) ++ t165).size + (t162 ++ t163).size ≤ 9223372036854775807 then (scriptoriumlaw05_LeafHeadings.j0 k ((m + 1 : Nat) : Int) t160 t161 (((((((t164 ++ mkB [32]) ++ (t162 ++ t163)) ++ t161) ++ mkB [32]) ++ (t162 ++ t163)) ++ t165) ++ (t162 ++ t163))) else (none)) else (none))) else (none)) else (none))) else (none)) else (none)) else (none))) else (none)))))) (fun k => by
      unfold scriptoriumlaw05_LeafHeadings.f
      rw [em2.out, ep2.out, eq2.out, ec2.out, ew]; rfl) ?_
    refine Ev.bind shown_ev (Ev.bind hlet (Ev.bind m1 (Ev.bind m2 ?_)))
    have s0 : (mkB (List.replicate p 32)).size + (mkB (List.replicate q 9)).size ≤ 9223372036854775807 := by rw [mkB_size, mkB_size, List.length_replicate, List.length_replicate]; omega
    refine Ev.congr (fun k => if_pos s0) (Ev.bind m3 ?_)
    rw [mkB_append]
    have s1 : (mkB (List.replicate (m + 1) 35)).size + 1 ≤ 9223372036854775807 := by rw [mkB_size, List.length_replicate]; omega
    have s2 : (mkB (List.replicate (m + 1) 35) ++ mkB [32]).size + (mkB (List.replicate p 32 ++ List.replicate q 9)).size ≤ 9223372036854775807 := by rw [mkB_append, mkB_size, mkB_size, hgl, List.length_append, List.length_replicate]; simp only [List.length_singleton]; omega
    have s3 : ((mkB (List.replicate (m + 1) 35) ++ mkB [32]) ++ mkB (List.replicate p 32 ++ List.replicate q 9)).size + (mkB t).size ≤ 9223372036854775807 := by rw [mkB_append, mkB_append, mkB_size, mkB_size, List.length_append, hgl, List.length_append, List.length_replicate]; simp only [List.length_singleton]; omega
    refine Ev.congr (fun k => (if_pos s1).trans ((if_pos s2).trans (if_pos s3))) ?_
    rw [mkB_append, mkB_append, mkB_append, mkB_toList]
    generalize hG : List.replicate p 32 ++ List.replicate q (9 : UInt8) = g at *
    by_cases hne : t = []
    · refine Ev.congr (fun k => if_pos hne) ?_
      exact j0_ev (m + 1) g t [] 0 (by omega) (by omega) hg (by omega) ht (by omega) (.inl ⟨hne, rfl⟩) _ (by simp)
    · refine Ev.congr (fun k => if_neg hne) ?_
      have u1 : (mkB (List.replicate (m + 1) 35 ++ [32] ++ g ++ t)).size + 1 ≤ 9223372036854775807 := by rw [mkB_size]; simp only [List.length_append, List.length_replicate, List.length_singleton]; omega
      have u2 : (mkB (List.replicate (m + 1) 35 ++ [32] ++ g ++ t) ++ mkB [32]).size + (mkB g).size ≤ 9223372036854775807 := by rw [mkB_append, mkB_size, mkB_size]; simp only [List.length_append, List.length_replicate, List.length_singleton]; omega
      refine Ev.congr (fun k => (if_pos u1).trans (if_pos u2)) (Ev.bind m4 ?_)
      have u3 : ((mkB (List.replicate (m + 1) 35 ++ [32] ++ g ++ t) ++ mkB [32]) ++ mkB g).size + (mkB (List.replicate c 35)).size ≤ 9223372036854775807 := by rw [mkB_append, mkB_append, mkB_size, mkB_size]; simp only [List.length_append, List.length_replicate, List.length_singleton]; omega
      have u4 : (((mkB (List.replicate (m + 1) 35 ++ [32] ++ g ++ t) ++ mkB [32]) ++ mkB g) ++ mkB (List.replicate c 35)).size + (mkB g).size ≤ 9223372036854775807 := by rw [mkB_append, mkB_append, mkB_append, mkB_size, mkB_size]; simp only [List.length_append, List.length_replicate, List.length_singleton]; omega
      refine Ev.congr (fun k => (if_pos u3).trans (if_pos u4)) ?_
      rw [mkB_append, mkB_append, mkB_append, mkB_append]
      exact j0_ev (m + 1) g t (32 :: (g ++ (List.replicate c 35 ++ g))) c (by omega) (by omega) hg (by omega) ht (by omega) (.inr ⟨hne, rfl⟩) _ (by simp)
  exact h.rounds
end Go.Proofs.YthdlibgiejpjeaaGreatDoor.LHPure
