/- The plain laws of EscapeWrites, EscapeNumbers, EscapePlain and EscapeMarks. -/
import Derived.Test.YthdlibgiejpjeaaGreatDoorGM
import Derived.Test.YthdlibgiejpjeaaGreatDoorPureAid
import Derived.Test.YthdlibgiejpjeaaGreatDoorMorePure
set_option linter.unusedVariables false
set_option linter.unusedSimpArgs false
namespace Go.Proofs.YthdlibgiejpjeaaGreatDoor.GMPure
open Go Go.RowKit Go.Proofs.YthdlibgiejpjeaaGreatDoor Go.Proofs.YthdlibgiejpjeaaGreatDoor.Given Go.Proofs.YthdlibgiejpjeaaGreatDoor.GM Go.Proofs.YthdlibgiejpjeaaGreatDoorW.PrintWords Go.Proofs.YthdlibgiejpjeaaGreatDoor.Spec Go.Proofs.YthdlibgiejpjeaaGreatDoor.PureAid Go.Proofs.YthdlibgiejpjeaaGreatDoor.MorePure

theorem shown_true : scriptoriumlaw02_shown.f = some true := by decide +kernel
theorem un_f (l : List UInt8) (h : l.length ≤ 4000000000) : escape_Unescape.f (mkB l) = some (mkB (unescape l)) := by
  unfold escape_Unescape.f
  rw [if_pos (by rw [mkB_size]; omega)]; rfl
theorem en_f (l : List UInt8) (h : l.length ≤ 4000000000) : escape_Entity.f (mkB l) = some (mkB (entity l).1, ((entity l).2 : Int)) := by
  unfold escape_Entity.f
  rw [if_pos (by rw [mkB_size]; omega)]; rfl

/-! EscapePlain -/
def kept (c : UInt8) : List UInt8 := if c = 92 then [] else if c = 38 then [] else [c]
theorem kept_len (c : UInt8) : (kept c).length ≤ 1 := by unfold kept; split; · simp
                                                         split <;> simp
theorem kept_plain (l : List UInt8) : ∀ c ∈ l.flatMap kept, c ≠ 92 ∧ c ≠ 38 := by
  intro c hc
  obtain ⟨d, _, hd⟩ := List.mem_flatMap.1 hc
  unfold kept at hd
  split at hd
  · simp at hd
  · split at hd
    · simp at hd
    · rename_i h1 h2
      obtain rfl := List.mem_singleton.1 hd
      exact ⟨h1, h2⟩
theorem plain_pure (l : List UInt8) (hl : l.length ≤ 100000000) : ∃ k, scriptoriumlaw02_EscapePlain.f k (mkB l) = some true := by
  have h := loop_bytes (fun k x4 x5 => scriptoriumlaw02_EscapePlain.l0 k (mkB l) true x4 x5) (fun k acc => (escape_Unescape.f (mkB acc)).bind fun t => some (t.toList == (mkB acc).toList)) l kept 1 kept_len
    (fun k acc i c r hr hlt ha => by
      show scriptoriumlaw02_EscapePlain.l0 (k + 1) (mkB l) true (bnums acc) (i : Int) = _
      have hw : wrap64 ((i : Int) + 1) = ((i + 1 : Nat) : Int) := by rw [wrap_in _ (by omega)]; rfl
      conv => lhs; unfold scriptoriumlaw02_EscapePlain.l0
      rw [if_pos (by rw [mkB_size]; omega), if_pos (by omega), bt_drop l i c r hr, hw]
      unfold kept
      by_cases h1 : c = 92
      · rw [if_pos (by rw [h1]; rfl), if_pos h1, List.append_nil]
      · rw [if_neg (show ¬ ((c.toNat : Int) = 92) from ne_int c 92 h1), if_neg h1]
        by_cases h2 : c = 38
        · rw [if_pos (by rw [h2]; rfl), if_pos h2, List.append_nil]
        · rw [if_neg (show ¬ ((c.toNat : Int) = 38) from ne_int c 38 h2), if_neg h2, if_pos (by rw [nums_len]; omega), nums_snoc])
    (fun k acc ha => by
      show scriptoriumlaw02_EscapePlain.l0 (k + 1) (mkB l) true (bnums acc) (l.length : Int) = _
      unfold scriptoriumlaw02_EscapePlain.l0
      rw [if_neg (by rw [mkB_size]; omega), if_pos rfl, nums_str]) 0 l 0 [] (by simp) (by omega) (by simp)
  refine ⟨l.length + 1 + 0, ?_⟩
  unfold scriptoriumlaw02_EscapePlain.f
  rw [shown_true, Option.bind_some]
  refine h.trans ?_
  rw [List.nil_append]
  have hlen : (l.flatMap kept).length ≤ l.length := by
    rw [List.length_flatMap]
    have : ∀ l : List UInt8, (l.map fun c => (kept c).length).sum ≤ l.length := by
      intro l
      induction l with
      | nil => simp
      | cons c r ih => have := kept_len c; simp only [List.map_cons, List.sum_cons, List.length_cons]; omega
    exact this l
  rw [un_f _ (by omega), unescape_plain _ (kept_plain l), Option.bind_some]
  simp

/-! EscapeMarks -/
theorem mark_f (c : UInt8) : runes_Mark.f (c.toNat : Int) = some (markC c) := by
  unfold runes_Mark.f; simp
theorem marked_len (c : UInt8) : (marked c).length ≤ 2 := by unfold marked; split <;> simp
theorem marks_pure (l : List UInt8) (hl : l.length ≤ 100000000) : ∃ k, scriptoriumlaw02_EscapeMarks.f k (mkB l) = some true := by
  have h := loop_bytes (fun k x4 x5 => scriptoriumlaw02_EscapeMarks.l0 k (mkB l) true x4 x5) (fun k acc => (escape_Unescape.f (mkB acc)).bind fun t => some (t.toList == (mkB l).toList)) l marked 2 marked_len
    (fun k acc i c r hr hlt ha => by
      show scriptoriumlaw02_EscapeMarks.l0 (k + 1) (mkB l) true (bnums acc) (i : Int) = _
      have hw : wrap64 ((i : Int) + 1) = ((i + 1 : Nat) : Int) := by rw [wrap_in _ (by omega)]; rfl
      conv => lhs; unfold scriptoriumlaw02_EscapeMarks.l0
      rw [if_pos (by rw [mkB_size]; omega), if_pos (by omega), bt_drop l i c r hr, hw, mark_f, Option.bind_some]
      unfold marked
      by_cases h1 : markC c = true
      · rw [if_pos h1, if_pos h1, if_pos (by rw [nums_len]; omega), Option.bind_some, if_pos (by rw [List.length_append, nums_len]; simp only [List.length_singleton]; omega),
          show bnums acc ++ [92] = bnums (acc ++ [92]) from nums_snoc acc 92, nums_snoc, List.append_assoc]; rfl
      · rw [if_neg h1, if_neg h1, if_pos (by rw [nums_len]; omega), nums_snoc])
    (fun k acc ha => by
      show scriptoriumlaw02_EscapeMarks.l0 (k + 1) (mkB l) true (bnums acc) (l.length : Int) = _
      unfold scriptoriumlaw02_EscapeMarks.l0
      rw [if_neg (by rw [mkB_size]; omega), if_pos rfl, nums_str]) 0 l 0 [] (by simp) (by omega) (by simp)
  refine ⟨l.length + 1 + 0, ?_⟩
  unfold scriptoriumlaw02_EscapeMarks.f
  rw [shown_true, Option.bind_some]
  refine h.trans ?_
  rw [List.nil_append]
  have hlen : (l.flatMap marked).length ≤ 2 * l.length := by
    rw [List.length_flatMap]
    have : ∀ l : List UInt8, (l.map fun c => (marked c).length).sum ≤ 2 * l.length := by
      intro l
      induction l with
      | nil => simp
      | cons c r ih => have := marked_len c; simp only [List.map_cons, List.sum_cons, List.length_cons]; omega
    exact this l
  rw [un_f _ (by omega), unescape_marked, Option.bind_some]
  simp

/-! EscapeWrites -/
theorem htmlC_len (c : UInt8) : (htmlC c).length ≤ 6 := by
  unfold htmlC
  split; · simp
  split; · simp
  split; · simp
  split <;> simp
theorem html_f (l : List UInt8) (hl : l.length ≤ 100000000) : scriptoriumref02_HTML.f (l.length + 1 + 0) (mkB l) = some (mkB (html l)) := by
  have h := loop_bytes (fun k x3 x4 => scriptoriumref02_HTML.l0 k (mkB l) x3 x4) (fun k acc => some (mkB acc)) l htmlC 6 htmlC_len
    (fun k acc i c r hr hlt ha => by
      show scriptoriumref02_HTML.l0 (k + 1) (mkB l) (bnums acc) (i : Int) = _
      have hw : wrap64 ((i : Int) + 1) = ((i + 1 : Nat) : Int) := by rw [wrap_in _ (by omega)]; rfl
      conv => lhs; unfold scriptoriumref02_HTML.l0
      rw [if_pos (by rw [mkB_size]; omega), if_pos (by omega), bt_drop l i c r hr, hw]
      unfold htmlC
      by_cases h1 : c = 38
      · rw [if_pos (by rw [h1]; rfl), if_pos h1, if_pos (by rw [nums_len]; omega), show (⟨#[38, 97, 109, 112, 59]⟩ : ByteArray) = mkB [38, 97, 109, 112, 59] from rfl, nums_app]
      rw [if_neg (show ¬ ((c.toNat : Int) = 38) from ne_int c 38 h1), if_neg h1]
      by_cases h2 : c = 60
      · rw [if_pos (by rw [h2]; rfl), if_pos h2, if_pos (by rw [nums_len]; omega), show (⟨#[38, 108, 116, 59]⟩ : ByteArray) = mkB [38, 108, 116, 59] from rfl, nums_app]
      rw [if_neg (show ¬ ((c.toNat : Int) = 60) from ne_int c 60 h2), if_neg h2]
      by_cases h3 : c = 62
      · rw [if_pos (by rw [h3]; rfl), if_pos h3, if_pos (by rw [nums_len]; omega), show (⟨#[38, 103, 116, 59]⟩ : ByteArray) = mkB [38, 103, 116, 59] from rfl, nums_app]
      rw [if_neg (show ¬ ((c.toNat : Int) = 62) from ne_int c 62 h3), if_neg h3]
      by_cases h4 : c = 34
      · rw [if_pos (by rw [h4]; rfl), if_pos h4, if_pos (by rw [nums_len]; omega), show (⟨#[38, 113, 117, 111, 116, 59]⟩ : ByteArray) = mkB [38, 113, 117, 111, 116, 59] from rfl, nums_app]
      rw [if_neg (show ¬ ((c.toNat : Int) = 34) from ne_int c 34 h4), if_neg h4, if_pos (by rw [nums_len]; omega), nums_snoc])
    (fun k acc ha => by
      show scriptoriumref02_HTML.l0 (k + 1) (mkB l) (bnums acc) (l.length : Int) = _
      unfold scriptoriumref02_HTML.l0
      rw [if_neg (by rw [mkB_size]; omega), nums_str]) 0 l 0 [] (by simp) (by omega) (by simp)
  exact h
theorem plain_f (c : UInt8) : scriptoriumref02_Plain.f (c.toNat : Int) = some (plainU c) := by
  unfold scriptoriumref02_Plain.f
  have := c.toNat_lt
  rw [if_pos ⟨by omega, by omega⟩]
  simp
theorem urlC_len (c : UInt8) : (urlC c).length ≤ 5 := by
  unfold urlC
  split; · simp
  split <;> simp
def hexB : ByteArray := ⟨#[48, 49, 50, 51, 52, 53, 54, 55, 56, 57, 65, 66, 67, 68, 69, 70]⟩
theorem hexU_at : ∀ n : Fin 16, bt hexB (n.val : Int) = ((hexU n.val).toNat : Int) := by decide +kernel
theorem hexU_bt (n : Nat) (h : n < 16) : bt hexB (n : Int) = ((hexU n).toNat : Int) := hexU_at ⟨n, h⟩
theorem url_f (l : List UInt8) (hl : l.length ≤ 100000000) : scriptoriumref02_URL.f (l.length + 1 + 0) (mkB l) = some (mkB (url l)) := by
  have h := loop_bytes (fun k x4 x5 => scriptoriumref02_URL.l0 k (mkB l) hexB x4 x5) (fun k acc => some (mkB acc)) l urlC 5 urlC_len
    (fun k acc i c r hr hlt ha => by
      show scriptoriumref02_URL.l0 (k + 1) (mkB l) hexB (bnums acc) (i : Int) = _
      have hw : wrap64 ((i : Int) + 1) = ((i + 1 : Nat) : Int) := by rw [wrap_in _ (by omega)]; rfl
      have hc := c.toNat_lt
      have hq : (Int.tdiv (c.toNat : Int) 16) % 256 = ((c.toNat / 16 : Nat) : Int) := by
        rw [show Int.tdiv (c.toNat : Int) 16 = ((c.toNat / 16 : Nat) : Int) from rfl]; omega
      have hm : Int.tmod (c.toNat : Int) 16 = ((c.toNat % 16 : Nat) : Int) := rfl
      have hs : hexB.size = 16 := rfl
      conv => lhs; unfold scriptoriumref02_URL.l0
      rw [if_pos (by rw [mkB_size]; omega), if_pos (by omega), bt_drop l i c r hr, hw, plain_f, Option.bind_some]
      unfold urlC
      by_cases h1 : plainU c = true
      · rw [if_pos h1, if_pos h1, if_pos (by rw [nums_len]; omega), nums_snoc]
      rw [if_neg h1, if_neg h1]
      by_cases h2 : c = 38
      · rw [if_pos (by rw [h2]; rfl), if_pos h2, if_pos (by rw [nums_len]; omega), show (⟨#[38, 97, 109, 112, 59]⟩ : ByteArray) = mkB [38, 97, 109, 112, 59] from rfl, nums_app]
      rw [if_neg (show ¬ ((c.toNat : Int) = 38) from ne_int c 38 h2), if_neg h2, hq, hm, hs, if_pos (by omega), if_pos (by omega), if_pos (by omega), if_pos (by omega), Option.bind_some,
        hexU_bt _ (by omega), hexU_bt _ (by omega), if_pos (by rw [nums_len]; simp only [List.length_cons, List.length_nil]; omega)]
      congr 1
      unfold bnums; simp)
    (fun k acc ha => by
      show scriptoriumref02_URL.l0 (k + 1) (mkB l) hexB (bnums acc) (l.length : Int) = _
      unfold scriptoriumref02_URL.l0
      rw [if_neg (by rw [mkB_size]; omega), nums_str]) 0 l 0 [] (by simp) (by omega) (by simp)
  exact h
theorem writes_pure (l : List UInt8) (hl : l.length ≤ 100000000) : ∃ k, scriptoriumlaw02_EscapeWrites.f k (mkB l) = some true := by
  refine ⟨l.length + 1 + 0, ?_⟩
  unfold scriptoriumlaw02_EscapeWrites.f
  have h1 : escape_HTML.f (mkB l) = some (mkB (html l)) := by
    unfold escape_HTML.f
    rw [if_pos (by rw [mkB_size]; omega)]; rfl
  have h2 : escape_URL.f (mkB l) = some (mkB (url l)) := by
    unfold escape_URL.f
    rw [if_pos (by rw [mkB_size]; omega)]; rfl
  rw [shown_true, Option.bind_some, if_pos rfl, h1, Option.bind_some, html_f l hl, Option.bind_some, if_pos rfl, h2, Option.bind_some, url_f l hl, Option.bind_some]
  simp

/-! EscapeNumbers -/
def lowB : ByteArray := ⟨#[48, 49, 50, 51, 52, 53, 54, 55, 56, 57, 97, 98, 99, 100, 101, 102]⟩
theorem hexL_at : ∀ n : Fin 16, bt lowB (n.val : Int) = ((numL.hexL n.val).toNat : Int) := by decide +kernel
theorem hexL_bt (n : Nat) (h : n < 16) : bt lowB (n : Int) = ((numL.hexL n).toNat : Int) := hexL_at ⟨n, h⟩
theorem dec_at : ∀ n : Fin 10, UInt8.ofNat (((48 + (n.val : Int)) % 256).toNat) = numL.hexL n.val := by decide +kernel
theorem one_str (c : UInt8) : strOfNums [(c.toNat : Int)] = mkB [c] := nums_str [c]
theorem dec_str (n : Nat) (h : n < 10) : strOfNums [(wrap64 (48 + (n : Int))) % 256] = mkB [numL.hexL n] := by
  rw [wrap_in _ (by omega)]
  show (⟨[UInt8.ofNat ((48 + (n : Int)) % 256).toNat].toArray⟩ : ByteArray) = _
  rw [dec_at ⟨n, h⟩]; rfl

def T0 (x0 : Int) (x1 : List UInt8) (k : Nat) (ds : List UInt8) : Option Bool :=
  (escape_Entity.f (mkB (38 :: 35 :: (ds ++ 59 :: x1)))).bind fun bt146 => (if bt146.2 = ((ds.length + 3 : Nat) : Int) then (scriptoriumlaw02_EscapeNumbers.j2 k x0 (mkB x1) bt146.1 (bt146.1.toList == ([] : List UInt8))) else (scriptoriumlaw02_EscapeNumbers.j2 k x0 (mkB x1) bt146.1 true))
def T1 (x1 : List UInt8) (x8 : ByteArray) (ds : List UInt8) : Option Bool :=
  (escape_Entity.f (mkB (38 :: 35 :: 120 :: (ds ++ 59 :: x1)))).bind fun bt154 => (if bt154.2 = ((ds.length + 4 : Nat) : Int) then (some (bt154.1.toList == x8.toList)) else (some false))
theorem l0_step (x0 : Int) (x1 acc : List UInt8) (n k : Nat) (hx : x1.length ≤ 100000000) (ha : acc.length ≤ 1000) (hn : n ≤ 100000000) : scriptoriumlaw02_EscapeNumbers.l0 (k + 1) x0 (mkB x1) true (mkB acc) (n : Int) =
    if n > 0 ∨ acc = [] then scriptoriumlaw02_EscapeNumbers.l0 k x0 (mkB x1) true (mkB (numL.hexL (n % 10) :: acc)) ((n / 10 : Nat) : Int) else T0 x0 x1 k acc := by
  have hm : Int.tmod (n : Int) 10 = ((n % 10 : Nat) : Int) := rfl
  have hd : wrap64 (Int.tdiv (n : Int) 10) = ((n / 10 : Nat) : Int) := by
    rw [show Int.tdiv (n : Int) 10 = ((n / 10 : Nat) : Int) from rfl]; exact wrap_in _ (by omega)
  have hs := dec_str (n % 10) (by omega)
  rw [show scriptoriumlaw02_EscapeNumbers.l0 (k + 1) x0 (mkB x1) true (mkB acc) (n : Int) = _ from by unfold scriptoriumlaw02_EscapeNumbers.l0; rfl]
  rw [hm, hd, Option.bind_some, hs, mkB_append, mkB_size, mkB_size, if_pos (show (([numL.hexL (n % 10)] : List UInt8).length + acc.length ≤ 9223372036854775807) by simp only [List.length_singleton]; omega), List.singleton_append]
  by_cases h1 : n > 0
  · rw [if_pos (by omega), if_pos (.inl h1)]
  · rw [if_neg (by omega), mkB_toList]
    by_cases h2 : acc = []
    · rw [if_pos h2, if_pos (.inr h2)]
    · rw [if_neg h2]
      rw [show (⟨#[38, 35]⟩ : ByteArray) = mkB [38, 35] from rfl, show (⟨#[59]⟩ : ByteArray) = mkB [59] from rfl, mkB_append, mkB_append, mkB_append]
      simp only [mkB_size, List.length_append, List.length_cons, List.length_nil]
      rw [if_pos (by omega), if_pos (by omega), if_pos (by omega)]
      simp only [if_true, show wrap64 ((acc.length : Int) + 3) = ((acc.length + 3 : Nat) : Int) by rw [wrap_in _ (by omega)]; rfl]
      rw [if_neg (show ¬ (n > 0 ∨ acc = []) from fun e => e.elim h1 h2)]
      unfold T0
      rw [show [38, 35] ++ acc ++ [59] ++ x1 = 38 :: 35 :: (acc ++ 59 :: x1) by simp]
theorem l1_step (x1 acc : List UInt8) (x8 : ByteArray) (n k : Nat) (hx : x1.length ≤ 100000000) (ha : acc.length ≤ 1000) (hn : n ≤ 100000000) : scriptoriumlaw02_EscapeNumbers.l1 (k + 1) (mkB x1) x8 lowB (mkB acc) (n : Int) =
    if n > 0 ∨ acc = [] then scriptoriumlaw02_EscapeNumbers.l1 k (mkB x1) x8 lowB (mkB (numL.hexL (n % 16) :: acc)) ((n / 16 : Nat) : Int) else T1 x1 x8 acc := by
  have hm : Int.tmod (n : Int) 16 = ((n % 16 : Nat) : Int) := rfl
  have hd : wrap64 (Int.tdiv (n : Int) 16) = ((n / 16 : Nat) : Int) := by
    rw [show Int.tdiv (n : Int) 16 = ((n / 16 : Nat) : Int) from rfl]; exact wrap_in _ (by omega)
  have hs : strOfNums [bt lowB ((n % 16 : Nat) : Int)] = mkB [numL.hexL (n % 16)] := by rw [hexL_bt _ (by omega)]; exact one_str _
  have hz : lowB.size = 16 := rfl
  rw [show scriptoriumlaw02_EscapeNumbers.l1 (k + 1) (mkB x1) x8 lowB (mkB acc) (n : Int) = _ from by unfold scriptoriumlaw02_EscapeNumbers.l1; rfl]
  rw [hm, hd, hz, if_pos (show (0 : Int) ≤ ((n % 16 : Nat) : Int) by omega), if_pos (show ((n % 16 : Nat) : Int) < ((16 : Nat) : Int) by omega), Option.bind_some, hs, mkB_append, mkB_size, mkB_size, if_pos (show (([numL.hexL (n % 16)] : List UInt8).length + acc.length ≤ 9223372036854775807) by simp only [List.length_singleton]; omega), List.singleton_append]
  by_cases h1 : n > 0
  · rw [if_pos (by omega), if_pos (.inl h1)]
  · rw [if_neg (by omega), mkB_toList]
    by_cases h2 : acc = []
    · rw [if_pos h2, if_pos (.inr h2)]
    · rw [if_neg h2]
      rw [show (⟨#[38, 35, 120]⟩ : ByteArray) = mkB [38, 35, 120] from rfl, show (⟨#[59]⟩ : ByteArray) = mkB [59] from rfl, mkB_append, mkB_append, mkB_append]
      simp only [mkB_size, List.length_append, List.length_cons, List.length_nil]
      rw [if_pos (by omega), if_pos (by omega), if_pos (by omega)]
      simp only [show wrap64 ((acc.length : Int) + 4) = ((acc.length + 4 : Nat) : Int) by rw [wrap_in _ (by omega)]; rfl]
      rw [if_neg (show ¬ (n > 0 ∨ acc = []) from fun e => e.elim h1 h2)]
      unfold T1
      rw [show [38, 35, 120] ++ acc ++ [59] ++ x1 = 38 :: 35 :: 120 :: (acc ++ 59 :: x1) by simp]
theorem l0_ev (x0 : Int) (x1 : List UInt8) (hx : x1.length ≤ 100000000) (r : Bool) : ∀ (f n : Nat) (acc : List UInt8), n < 2 ^ f → n ≤ 100000000 → (acc = [] → 1 ≤ f) → acc.length + f ≤ 1000 →
    Ev (fun k => T0 x0 x1 k (numL 10 f n acc)) r → Ev (fun k => scriptoriumlaw02_EscapeNumbers.l0 k x0 (mkB x1) true (mkB acc) (n : Int)) r := by
  intro f
  induction f with
  | zero =>
    intro n acc hn hn2 hf ha h
    have h0 : n = 0 := by simpa using hn
    subst h0
    refine Ev.step (fun k => ?_) h
    show scriptoriumlaw02_EscapeNumbers.l0 (k + 1) x0 (mkB x1) true (mkB acc) ((0 : Nat) : Int) = _
    rw [l0_step x0 x1 acc 0 k hx (by omega) (by omega), if_neg (fun e => e.elim (by omega) (fun e => by have := hf e; omega))]
    rfl
  | succ f ih =>
    intro n acc hn hn2 hf ha h
    by_cases hc : n > 0 ∨ acc = []
    · refine Ev.step (f := fun k => scriptoriumlaw02_EscapeNumbers.l0 k x0 (mkB x1) true (mkB (numL.hexL (n % 10) :: acc)) ((n / 10 : Nat) : Int)) (fun k => ?_) (ih (n / 10) (numL.hexL (n % 10) :: acc) (by rw [Nat.pow_succ] at hn; omega) (by omega) (fun e => by cases e) (by simp only [List.length_cons]; omega) ?_)
      · show scriptoriumlaw02_EscapeNumbers.l0 (k + 1) x0 (mkB x1) true (mkB acc) (n : Int) = _
        rw [l0_step x0 x1 acc n k hx (by omega) hn2, if_pos hc]
      · unfold numL at h
        rw [if_pos hc] at h
        exact h
    · unfold numL at h
      rw [if_neg hc] at h
      refine Ev.step (fun k => ?_) h
      show scriptoriumlaw02_EscapeNumbers.l0 (k + 1) x0 (mkB x1) true (mkB acc) (n : Int) = _
      rw [l0_step x0 x1 acc n k hx (by omega) hn2, if_neg hc]
theorem l1_ev (x1 : List UInt8) (x8 : ByteArray) (hx : x1.length ≤ 100000000) (r : Bool) : ∀ (f n : Nat) (acc : List UInt8), n < 2 ^ f → n ≤ 100000000 → (acc = [] → 1 ≤ f) → acc.length + f ≤ 1000 →
    T1 x1 x8 (numL 16 f n acc) = some r → Ev (fun k => scriptoriumlaw02_EscapeNumbers.l1 k (mkB x1) x8 lowB (mkB acc) (n : Int)) r := by
  intro f
  induction f with
  | zero =>
    intro n acc hn hn2 hf ha h
    have h0 : n = 0 := by simpa using hn
    subst h0
    refine Ev.step (f := fun _ => T1 x1 x8 (numL 16 0 0 acc)) (fun k => ?_) ⟨0, fun _ _ => h⟩
    show scriptoriumlaw02_EscapeNumbers.l1 (k + 1) (mkB x1) x8 lowB (mkB acc) ((0 : Nat) : Int) = _
    rw [l1_step x1 acc x8 0 k hx (by omega) (by omega), if_neg (fun e => e.elim (by omega) (fun e => by have := hf e; omega))]
    rfl
  | succ f ih =>
    intro n acc hn hn2 hf ha h
    by_cases hc : n > 0 ∨ acc = []
    · refine Ev.step (f := fun k => scriptoriumlaw02_EscapeNumbers.l1 k (mkB x1) x8 lowB (mkB (numL.hexL (n % 16) :: acc)) ((n / 16 : Nat) : Int)) (fun k => ?_) (ih (n / 16) (numL.hexL (n % 16) :: acc) (by rw [Nat.pow_succ] at hn; omega) (by omega) (fun e => by cases e) (by simp only [List.length_cons]; omega) ?_)
      · show scriptoriumlaw02_EscapeNumbers.l1 (k + 1) (mkB x1) x8 lowB (mkB acc) (n : Int) = _
        rw [l1_step x1 acc x8 n k hx (by omega) hn2, if_pos hc]
      · unfold numL at h
        rw [if_pos hc] at h
        exact h
    · unfold numL at h
      rw [if_neg hc] at h
      refine Ev.step (f := fun _ => T1 x1 x8 acc) (fun k => ?_) ⟨0, fun _ _ => h⟩
      show scriptoriumlaw02_EscapeNumbers.l1 (k + 1) (mkB x1) x8 lowB (mkB acc) (n : Int) = _
      rw [l1_step x1 acc x8 n k hx (by omega) hn2, if_neg hc]
theorem j0_ev (m : Nat) (x1 : List UInt8) (hx : x1.length ≤ 100000000) : Ev (fun k => scriptoriumlaw02_EscapeNumbers.j0 k (m : Int) (mkB x1) true) true := by
  have hm : Int.tmod (m : Int) 10000000 = ((m % 10000000 : Nat) : Int) := rfl
  have hlt : m % 10000000 < 10000000 := Nat.mod_lt _ (by decide)
  generalize hN : m % 10000000 = n at hm hlt
  have t := numL_facts 10 (by decide) (by decide) 24 n [] (by omega) (fun _ => by decide) (by simp)
  have u := numL_facts 16 (by decide) (by decide) 24 n [] (by omega) (fun _ => by decide) (by simp)
  have tl := numL_len 10 (by decide) 7 24 n [] (by omega) (fun _ => by decide)
  have ul := numL_len 16 (by decide) 6 24 n [] (by omega) (fun _ => by decide)
  have vt : value 10 (numL 10 24 n []) = n := by rw [t.1]; simp [value]
  have vu : value 16 (numL 16 24 n []) = n := by rw [u.1]; simp [value]
  simp only [List.length_nil, Nat.zero_add] at tl ul
  refine Ev.step (f := fun k => scriptoriumlaw02_EscapeNumbers.l0 k (n : Int) (mkB x1) true (mkB []) (n : Int)) (fun k => ?_) (l0_ev (n : Int) x1 hx true 24 n [] (by omega) (by omega) (fun _ => by decide) (by simp) ?_)
  · show scriptoriumlaw02_EscapeNumbers.j0 (k + 1) (m : Int) (mkB x1) true = _
    rw [scriptoriumlaw02_EscapeNumbers.j0, hm]; rfl
  have he := entity_ten (numL 10 24 n []) x1 t.2.1 t.2.2 tl
  have hh := entity_hex (numL 16 24 n []) x1 u.2.1 u.2.2 ul
  rw [vt] at he
  rw [vu] at hh
  have hl1 : Ev (fun k => scriptoriumlaw02_EscapeNumbers.l1 k (mkB x1) (mkB (runeText n)) lowB (mkB []) (n : Int)) true := by
    refine l1_ev x1 (mkB (runeText n)) hx true 24 n [] (by omega) (by omega) (fun _ => by decide) (by simp) ?_
    unfold T1
    rw [en_f _ (by simp only [List.length_cons, List.length_append]; omega), hh, Option.bind_some, if_pos rfl]
    simp
  refine Ev.congr (f := fun k => scriptoriumlaw02_EscapeNumbers.j2 k (n : Int) (mkB x1) (mkB (runeText n)) false) (fun k => ?_) (Ev.step (fun k => ?_) hl1)
  · unfold T0
    rw [en_f _ (by simp only [List.length_cons, List.length_append]; omega), he, Option.bind_some, if_pos rfl]
    congr 1
    rw [mkB_toList]
    have := runeText_ne n
    cases h : runeText n with
    | nil => exact absurd h this
    | cons a b => rfl
  · show scriptoriumlaw02_EscapeNumbers.j2 (k + 1) (n : Int) (mkB x1) (mkB (runeText n)) false = _
    rw [scriptoriumlaw02_EscapeNumbers.j2, if_neg (by decide), if_neg (by omega)]
    rfl
theorem numbers_pure (a0 : Int) (x1 : List UInt8) (hx : x1.length ≤ 100000000) (h0 : -9223372036854775808 ≤ a0 ∧ a0 ≤ 9223372036854775807) : ∃ k, scriptoriumlaw02_EscapeNumbers.f k a0 (mkB x1) = some true := by
  have h : Ev (fun k => scriptoriumlaw02_EscapeNumbers.f k a0 (mkB x1)) true := by
    by_cases hn : a0 < 0
    · have := j0_ev (-(a0 + 1)).toNat x1 hx
      refine Ev.congr (fun k => ?_) this
      unfold scriptoriumlaw02_EscapeNumbers.f
      rw [shown_true, Option.bind_some, if_pos hn, wrap_in (a0 + 1) (by omega), wrap_in _ (by omega), Int.toNat_of_nonneg (by omega)]
    · have := j0_ev a0.toNat x1 hx
      refine Ev.congr (fun k => ?_) this
      unfold scriptoriumlaw02_EscapeNumbers.f
      rw [shown_true, Option.bind_some, if_neg hn, Int.toNat_of_nonneg (by omega)]
  exact h.rounds
theorem numbers_swap (a0 : Int) (h0 : -9223372036854775808 ≤ a0 ∧ a0 ≤ 9223372036854775807) (x1 : List UInt8) (hx : x1.length ≤ 100000000) : ∃ k, scriptoriumlaw02_EscapeNumbers.f k a0 (mkB x1) = some true := numbers_pure a0 x1 hx h0
end Go.Proofs.YthdlibgiejpjeaaGreatDoor.GMPure
