/- EscapeBack's plain law. -/
import Derived.Test.YthdlibgiejpjeaaGreatDoorUrlPure
import Derived.Test.YthdlibgiejpjeaaGreatDoorSpecLaws
set_option linter.unusedVariables false
set_option linter.unusedSimpArgs false
namespace Go.Proofs.YthdlibgiejpjeaaGreatDoor.BackPure
open Go Go.RowKit Go.Proofs.YthdlibgiejpjeaaGreatDoor Go.Proofs.YthdlibgiejpjeaaGreatDoor.Given Go.Proofs.YthdlibgiejpjeaaGreatDoor.GF Go.Proofs.YthdlibgiejpjeaaGreatDoorW.PrintWords Go.Proofs.YthdlibgiejpjeaaGreatDoor.Spec Go.Proofs.YthdlibgiejpjeaaGreatDoor.UrlPure

theorem entity_other (c : UInt8) (r : List UInt8) (h : c ≠ 38) : entity (c :: r) = ([], 0) := by
  unfold entity
  split
  · rename_i heq; injection heq with a b; exact absurd a h
  · rename_i heq; injection heq with a b; exact absurd a h
  · rfl
theorem entity_nm (nm : List UInt8) (R v : List UInt8) (hn : nm.head? ≠ some 35) (hs : nm.all notSemi = true) (hv : named nm = v) (hv0 : v ≠ []) (hne : nm ≠ []) : entity (38 :: (nm ++ 59 :: R)) = (v, nm.length + 2) := by
  have htw : (nm ++ 59 :: R).takeWhile notSemi = nm := by
    rw [List.takeWhile_append_of_pos (fun a ha => List.all_eq_true.1 hs a ha)]
    rw [List.takeWhile_cons, show notSemi 59 = false from rfl]; simp
  unfold entity
  split
  · rename_i hash heq
    injection heq with a b
    cases nm with
    | nil => exact absurd rfl hne
    | cons x y =>
      rw [List.cons_append] at b
      injection b with b1 b2
      exact absurd (by rw [b1]; rfl) hn
  · rename_i rest hx heq
    injection heq with a b
    subst b
    simp only
    rw [htw, hv, if_pos ⟨by simp, hv0⟩]
  · rename_i h1 h2
    exact absurd rfl (h2 _)
theorem un_ref (nm : List UInt8) (R v : List UInt8) (hn : nm.head? ≠ some 35) (hs : nm.all notSemi = true) (hv : named nm = v) (hv0 : v ≠ []) (hne : nm ≠ []) : unescape (38 :: (nm ++ 59 :: R)) = v ++ unescape R := by
  have he := entity_nm nm R v hn hs hv hv0 hne
  rw [unescape_ref 38 _ (fun h => absurd h.1 (by decide)) (by rw [he]; simp), he]
  congr 2
  simp only
  rw [show (38 :: (nm ++ 59 :: R)) = (38 :: nm ++ [59]) ++ R by simp, List.drop_left' (by simp)]

theorem unescape_html (l : List UInt8) (h : ∀ c ∈ l, c ≠ 92) : unescape (html l) = l := by
  induction l with
  | nil => rfl
  | cons c r ih =>
    have ih := ih (fun x hx => h x (List.mem_cons_of_mem _ hx))
    rw [html_cons]
    by_cases h1 : c = 38
    · subst h1
      have := un_ref [97, 109, 112] (html r) [38] (by decide) (by decide) (by decide) (by decide) (by decide)
      rw [show htmlC 38 ++ html r = 38 :: ([97, 109, 112] ++ 59 :: html r) from rfl, this, ih]; rfl
    · by_cases h2 : c = 60
      · subst h2
        have := un_ref [108, 116] (html r) [60] (by decide) (by decide) (by decide) (by decide) (by decide)
        rw [show htmlC 60 ++ html r = 38 :: ([108, 116] ++ 59 :: html r) from rfl, this, ih]; rfl
      · by_cases h3 : c = 62
        · subst h3
          have := un_ref [103, 116] (html r) [62] (by decide) (by decide) (by decide) (by decide) (by decide)
          rw [show htmlC 62 ++ html r = 38 :: ([103, 116] ++ 59 :: html r) from rfl, this, ih]; rfl
        · by_cases h4 : c = 34
          · subst h4
            have := un_ref [113, 117, 111, 116] (html r) [34] (by decide) (by decide) (by decide) (by decide) (by decide)
            rw [show htmlC 34 ++ html r = 38 :: ([113, 117, 111, 116] ++ 59 :: html r) from rfl, this, ih]; rfl
          · have hc : htmlC c = [c] := by unfold htmlC; rw [if_neg h1, if_neg h2, if_neg h3, if_neg h4]
            rw [hc]
            show unescape (c :: html r) = c :: r
            rw [unescape_byte c _ (fun hh => h c List.mem_cons_self hh.1) (by rw [entity_other c _ h1]; simp), ih]

def safe (c : UInt8) : Bool := c != 60 && c != 62 && c != 34
theorem htmlC_safe : ∀ c : Fin 256, (htmlC c.val.toUInt8).all safe = true := by decide +kernel
theorem html_safe (l : List UInt8) : (html l).all safe = true := by
  unfold html
  rw [List.all_flatMap]
  exact List.all_eq_true.2 fun c _ => by
    have := htmlC_safe ⟨c.toNat, c.toNat_lt⟩
    rwa [show (⟨c.toNat, c.toNat_lt⟩ : Fin 256).val = c.toNat from rfl, show c.toNat.toUInt8 = c by simp] at this
theorem ne_int (c d : UInt8) (h : c ≠ d) : ¬ ((c.toNat : Int) = (d.toNat : Int)) := fun e => h (UInt8.toNat_inj.1 (by omega))

theorem l1_ok (l : List UInt8) (hl : l.length ≤ 100000000) : ∀ (rest : List UInt8) (k : Nat), l.drop k = rest → (∀ c ∈ l.take k, c ≠ 92) →
    scriptoriumlaw02_EscapeBack.l1 (rest.length + 1) (mkB l) true (mkB (html l)) (k : Int) = some true := by
  intro rest
  induction rest with
  | nil =>
    intro k hk hb
    have hk2 : l.length ≤ k := List.drop_eq_nil_iff.1 hk
    rw [List.take_of_length_le hk2] at hb
    have hu := (html_bounds l).2
    have hf : escape_Unescape.f (mkB (html l)) = some (mkB l) := by
      unfold escape_Unescape.f
      rw [if_pos (by rw [mkB_size]; omega), mkB_data, unescape_html l hb]; rfl
    unfold scriptoriumlaw02_EscapeBack.l1
    rw [if_neg (by rw [mkB_size]; omega), if_pos rfl, hf, Option.bind_some]
    simp
  | cons c r ih =>
    intro k hk hb
    have hk2 : k < l.length := by
      rcases Nat.lt_or_ge k l.length with h' | h'
      · exact h'
      · rw [List.drop_eq_nil_of_le h'] at hk; cases hk
    have hg := List.drop_eq_getElem_cons hk2
    rw [hk] at hg
    injection hg with hc hr
    have hbt := bt_drop l k c r hk
    have hw : wrap64 ((k : Int) + 1) = ((k + 1 : Nat) : Int) := by rw [wrap_in _ (by omega)]; rfl
    show scriptoriumlaw02_EscapeBack.l1 (r.length + 1 + 1) (mkB l) true (mkB (html l)) (k : Int) = some true
    unfold scriptoriumlaw02_EscapeBack.l1
    rw [if_pos (by rw [mkB_size]; omega), if_pos (by omega), hbt, hw]
    by_cases h92 : c = 92
    · rw [if_pos (by rw [h92]; rfl)]
    · rw [if_neg (show ¬ ((c.toNat : Int) = 92) from ne_int c 92 h92)]
      refine ih (k + 1) hr.symm ?_
      rw [List.take_succ_eq_append_getElem hk2]
      intro d hd
      rcases List.mem_append.1 hd with h | h
      · exact hb d h
      · rw [List.mem_singleton.1 h, ← hc]; exact h92

theorem l0_ok (l : List UInt8) (h : List UInt8) (m : Nat) (hs : h.all safe = true) (hl : h.length ≤ 1000000000) : ∀ (rest : List UInt8) (k : Nat), h.drop k = rest → 
    scriptoriumlaw02_EscapeBack.l0 (rest.length + 1 + m) (mkB l) true (mkB h) (k : Int) = scriptoriumlaw02_EscapeBack.l1 m (mkB l) true (mkB h) 0 := by
  intro rest
  induction rest with
  | nil =>
    intro k hk
    have hk2 : h.length ≤ k := List.drop_eq_nil_iff.1 hk
    rw [show ([] : List UInt8).length + 1 + m = m + 1 by simp; omega]
    unfold scriptoriumlaw02_EscapeBack.l0
    rw [if_neg (by rw [mkB_size]; omega)]
  | cons c r ih =>
    intro k hk
    have hk2 : k < h.length := by
      rcases Nat.lt_or_ge k h.length with h' | h'
      · exact h'
      · rw [List.drop_eq_nil_of_le h'] at hk; cases hk
    have hg := List.drop_eq_getElem_cons hk2
    rw [hk] at hg
    injection hg with hc hr
    have hsc : safe c = true := List.all_eq_true.1 hs c (List.mem_of_mem_drop (i := k) (by rw [hk]; exact List.mem_cons_self))
    simp only [safe, Bool.and_eq_true, bne_iff_ne] at hsc
    have hbt := bt_drop h k c r hk
    have hw : wrap64 ((k : Int) + 1) = ((k + 1 : Nat) : Int) := by rw [wrap_in _ (by omega)]; rfl
    rw [show (c :: r).length + 1 + m = (r.length + 1 + m) + 1 by simp only [List.length_cons]; omega]
    unfold scriptoriumlaw02_EscapeBack.l0
    rw [if_pos (by rw [mkB_size]; omega), if_pos (by omega), hbt, hw, if_neg (show ¬ ((c.toNat : Int) = 60) from ne_int c 60 hsc.1.1), if_neg (show ¬ ((c.toNat : Int) = 62) from ne_int c 62 hsc.1.2), if_neg (show ¬ ((c.toNat : Int) = 34) from ne_int c 34 hsc.2)]
    exact ih (k + 1) hr.symm

theorem pure (l : List UInt8) (hl : l.length ≤ 10000000) : ∃ k, scriptoriumlaw02_EscapeBack.f k (mkB l) = some true := by
  have hb := (html_bounds l).2
  refine ⟨(html l).length + 1 + (l.length + 1), ?_⟩
  unfold scriptoriumlaw02_EscapeBack.f
  rw [shown_true, Option.bind_some]
  have hf : escape_HTML.f (mkB l) = some (mkB (html l)) := by
    unfold escape_HTML.f
    rw [if_pos (by rw [mkB_size]; omega)]; rfl
  rw [hf, Option.bind_some]
  have h0 := l0_ok l (html l) (l.length + 1) (html_safe l) (by omega) (html l) 0 (by simp)
  rw [show ((0 : Nat) : Int) = 0 from rfl] at h0
  rw [h0]
  exact l1_ok l (by omega) l 0 (by simp) (by simp)
end Go.Proofs.YthdlibgiejpjeaaGreatDoor.BackPure
