/- EscapeURL's plain law. -/
import Derived.Test.YthdlibgiejpjeaaGreatDoorGF
set_option linter.unusedVariables false
set_option linter.unusedSimpArgs false
namespace Go.Proofs.YthdlibgiejpjeaaGreatDoor.UrlPure
open Go Go.RowKit Go.Proofs.YthdlibgiejpjeaaGreatDoor Go.Proofs.YthdlibgiejpjeaaGreatDoor.Given Go.Proofs.YthdlibgiejpjeaaGreatDoor.GF Go.Proofs.YthdlibgiejpjeaaGreatDoorW.PrintWords Go.Proofs.YthdlibgiejpjeaaGreatDoor.Spec

theorem shown_true : scriptoriumlaw02_shown.f = some true := by decide +kernel
theorem bt_drop (l : List UInt8) (k : Nat) (c : UInt8) (r : List UInt8) (h : l.drop k = c :: r) : bt (mkB l) (k : Int) = (c.toNat : Int) := by
  have hk : k < l.length := by
    rcases Nat.lt_or_ge k l.length with h' | h'
    · exact h'
    · rw [List.drop_eq_nil_of_le h'] at h; cases h
  have hc : l[k] = c := by
    have := List.drop_eq_getElem_cons hk
    rw [h] at this; injection this with a b; exact a.symm
  unfold bt
  rw [dif_pos (show (k : Int).toNat < (mkB l).size by rw [mkB_size]; exact hk)]
  show (((mkB l)[(k : Int).toNat]'_).toNat : Int) = _
  congr 2
theorem plain_f (c : UInt8) : scriptoriumref02_Plain.f (c.toNat : Int) = some (plainU c) := by
  unfold scriptoriumref02_Plain.f
  have := c.toNat_lt
  rw [if_pos ⟨by omega, by omega⟩]
  simp
def lenC (c : UInt8) : Nat := if plainU c then 1 else if c = 38 then 5 else 3
theorem urlC_len : ∀ c : UInt8, (urlC c).length = lenC c := by
  intro c
  unfold urlC lenC
  split
  · rfl
  · split <;> rfl
def okB (c : UInt8) : Bool := plainU c || c == 38
theorem urlC_ok : ∀ c : Fin 256, (urlC c.val.toUInt8).all okB = true := by decide +kernel
theorem url_ok (l : List UInt8) : (url l).all okB = true := by
  unfold url
  rw [List.all_flatMap]
  exact List.all_eq_true.2 fun c _ => by
    have := urlC_ok ⟨c.toNat, c.toNat_lt⟩
    rwa [show (⟨c.toNat, c.toNat_lt⟩ : Fin 256).val = c.toNat from rfl, show c.toNat.toUInt8 = c by simp] at this
theorem url_len (l : List UInt8) : (url l).length = (l.map lenC).sum := by
  unfold url
  rw [List.length_flatMap]
  congr 1
  exact List.map_congr_left fun c _ => urlC_len c
theorem lenC_bd (c : UInt8) : 1 ≤ lenC c ∧ lenC c ≤ 5 := by
  unfold lenC; split
  · omega
  · split <;> omega
theorem sum_bd (l : List UInt8) : (l.map lenC).sum ≤ 5 * l.length := by
  induction l with
  | nil => simp
  | cons c r ih => have := lenC_bd c; simp only [List.map_cons, List.sum_cons, List.length_cons]; omega
theorem wrap_in (n : Int) (h : -9223372036854775808 ≤ n ∧ n ≤ 9223372036854775807) : wrap64 n = n := IntWalk.wrap64_in n h

theorem l1_ok (u : List UInt8) (N : Int) (hu : u.all okB = true) (hl : u.length ≤ 1000000000000) (hN : N = (u.length : Int)) : ∀ (rest : List UInt8) (k : Nat), u.drop k = rest →
    scriptoriumlaw02_EscapeURL.l1 (rest.length + 1) true (mkB u) N (k : Int) = some true := by
  intro rest
  induction rest with
  | nil =>
    intro k hk
    have hk2 : u.length ≤ k := List.drop_eq_nil_iff.1 hk
    unfold scriptoriumlaw02_EscapeURL.l1
    rw [if_neg (by rw [mkB_size]; omega), if_pos rfl, mkB_size, hN]
    simp
  | cons c r ih =>
    intro k hk
    have hk2 : k < u.length := by
      rcases Nat.lt_or_ge k u.length with h' | h'
      · exact h'
      · rw [List.drop_eq_nil_of_le h'] at hk; cases hk
    have hr : u.drop (k + 1) = r := by
      have := List.drop_eq_getElem_cons hk2
      rw [hk] at this; injection this with a b; exact b.symm
    have hc : okB c = true := List.all_eq_true.1 hu c (List.mem_of_mem_drop (i := k) (by rw [hk]; exact List.mem_cons_self))
    have hbt := bt_drop u k c r hk
    have ihk := ih (k + 1) hr
    have hw : wrap64 ((k : Int) + 1) = ((k + 1 : Nat) : Int) := by rw [wrap_in _ (by omega)]; rfl
    show scriptoriumlaw02_EscapeURL.l1 (r.length + 1 + 1) true (mkB u) N (k : Int) = some true
    unfold scriptoriumlaw02_EscapeURL.l1
    rw [if_pos (by rw [mkB_size]; omega), if_pos (by omega), hbt, plain_f, Option.bind_some, hw]
    by_cases hp : plainU c = true
    · rw [if_pos hp]; exact ihk
    · rw [if_neg hp, if_pos (by
        have : c = 38 := by simpa [okB, hp] using hc
        rw [this]; rfl)]
      exact ihk

theorem l0_ok (l : List UInt8) (U : ByteArray) (m : Nat) (hl : l.length ≤ 100000000000) : ∀ (rest : List UInt8) (k : Nat) (n : Nat), l.drop k = rest → n ≤ 5 * k → k ≤ l.length →
    scriptoriumlaw02_EscapeURL.l0 (rest.length + 1 + m) (mkB l) true U (n : Int) (k : Int) = scriptoriumlaw02_EscapeURL.l1 m true U ((n + (rest.map lenC).sum : Nat) : Int) 0 := by
  intro rest
  induction rest with
  | nil =>
    intro k n hk hn hkl
    have hk2 : l.length ≤ k := List.drop_eq_nil_iff.1 hk
    rw [show ([] : List UInt8).length + 1 + m = m + 1 by simp; omega]
    unfold scriptoriumlaw02_EscapeURL.l0
    rw [if_neg (by rw [mkB_size]; omega)]
    simp
  | cons c r ih =>
    intro k n hk hn hkl
    have hk2 : k < l.length := by
      rcases Nat.lt_or_ge k l.length with h' | h'
      · exact h'
      · rw [List.drop_eq_nil_of_le h'] at hk; cases hk
    have hr : l.drop (k + 1) = r := by
      have := List.drop_eq_getElem_cons hk2
      rw [hk] at this; injection this with a b; exact b.symm
    have hbt := bt_drop l k c r hk
    have hw : wrap64 ((k : Int) + 1) = ((k + 1 : Nat) : Int) := by rw [wrap_in _ (by omega)]; rfl
    rw [show (c :: r).length + 1 + m = (r.length + 1 + m) + 1 by simp only [List.length_cons]; omega]
    unfold scriptoriumlaw02_EscapeURL.l0
    rw [if_pos (by rw [mkB_size]; omega), if_pos (by omega), hbt, plain_f, Option.bind_some, hw]
    rw [List.map_cons, List.sum_cons]
    by_cases hp : plainU c = true
    · rw [if_pos hp, wrap_in _ (by omega), show (n : Int) + 1 = ((n + 1 : Nat) : Int) by omega, ih (k + 1) (n + 1) hr (by omega) (by omega), show lenC c = 1 by simp [lenC, hp]]
      congr 2; omega
    · rw [if_neg hp]
      by_cases h38 : c = 38
      · rw [if_pos (by rw [h38]; rfl), wrap_in _ (by omega), show (n : Int) + 5 = ((n + 5 : Nat) : Int) by omega, ih (k + 1) (n + 5) hr (by omega) (by omega), show lenC c = 5 by unfold lenC; rw [if_neg hp, if_pos h38]]
        congr 2; omega
      · rw [if_neg (fun h => h38 (UInt8.toNat_inj.1 (show c.toNat = 38 by omega))), wrap_in _ (by omega), show (n : Int) + 3 = ((n + 3 : Nat) : Int) by omega, ih (k + 1) (n + 3) hr (by omega) (by omega), show lenC c = 3 by unfold lenC; rw [if_neg hp, if_neg h38]]
        congr 2; omega

theorem pure (l : List UInt8) (hl : l.length ≤ 1000000000) : ∃ k, scriptoriumlaw02_EscapeURL.f k (mkB l) = some true := by
  have hb := sum_bd l
  have hul := url_len l
  refine ⟨l.length + 1 + ((url l).length + 1), ?_⟩
  unfold scriptoriumlaw02_EscapeURL.f
  rw [shown_true, Option.bind_some]
  have hf : escape_URL.f (mkB l) = some (mkB (url l)) := by
    unfold escape_URL.f
    rw [if_pos (by rw [mkB_size]; omega)]; rfl
  rw [hf, Option.bind_some]
  have h0 := l0_ok l (mkB (url l)) ((url l).length + 1) (by omega) l 0 0 (by simp) (by omega) (by omega)
  rw [show ((0 : Nat) : Int) = 0 from rfl] at h0
  rw [h0]
  exact l1_ok (url l) _ (url_ok l) (by omega) (by rw [hul]; simp) (url l) 0 (by simp)
end Go.Proofs.YthdlibgiejpjeaaGreatDoor.UrlPure
