/- LinkLabels' plain law. -/
import Derived.Test.YthdlibgiejpjeaaGreatDoorLA
import Derived.Test.YthdlibgiejpjeaaGreatDoorLinkB
set_option linter.unusedVariables false
set_option linter.unusedSimpArgs false
namespace Go.Proofs.YthdlibgiejpjeaaGreatDoor.LAPure
open Go Go.RowKit Go.Proofs.YthdlibgiejpjeaaGreatDoor Go.Proofs.YthdlibgiejpjeaaGreatDoor.Given Go.Proofs.YthdlibgiejpjeaaGreatDoor.LA Go.Proofs.YthdlibgiejpjeaaGreatDoorW.PrintWords Go.Proofs.YthdlibgiejpjeaaGreatDoor.Spec Go.Proofs.YthdlibgiejpjeaaGreatDoor.PureAid Go.Proofs.YthdlibgiejpjeaaGreatDoor.MorePure
theorem mark_f (c : UInt8) : runes_Mark.f (c.toNat : Int) = some (markC c) := by
  unfold runes_Mark.f; rw [show ((c.toNat : Nat) : Int).toNat.toUInt8 = c by simp]
theorem snoc_marked (was : List UInt8) (c : UInt8) : (was ++ [c]).flatMap marked = was.flatMap marked ++ marked c := by simp
theorem esc_l0 (l : List UInt8) (hl : l.length ≤ 1000000000) (M : Nat) (hM : M ≤ 10000) : ∀ (d i : Nat) (was : List UInt8), i + d = l.length → (was.flatMap marked).length ≤ M + 1 → was.length ≤ M + 1 → (∀ x ∈ was, x ≠ 10) →
    ∃ was', Ev (fun k => scriptoriumlaw06_escaped.l0 k (mkB l) (M : Int) (bnums (was.flatMap marked)) (bnums was) (i : Int)) (mkB (was'.flatMap marked), mkB was') ∧ (∀ x ∈ was', x ≠ 10) ∧ (was'.flatMap marked).length ≤ M + 1 := by
  intro d
  have stop : ∀ (i : Nat) (was : List UInt8), (was.flatMap marked).length ≤ M + 1 → (∀ x ∈ was, x ≠ 10) → (l.length ≤ i ∨ M ≤ (was.flatMap marked).length + 1) →
      ∃ was', Ev (fun k => scriptoriumlaw06_escaped.l0 k (mkB l) (M : Int) (bnums (was.flatMap marked)) (bnums was) (i : Int)) (mkB (was'.flatMap marked), mkB was') ∧ (∀ x ∈ was', x ≠ 10) ∧ (was'.flatMap marked).length ≤ M + 1 := by
    intro i was hw h10 h
    refine ⟨was, Ev.step (f := fun k => scriptoriumlaw06_escaped.j1 k (mkB l) (M : Int) (bnums (was.flatMap marked)) (bnums was) (i : Int) false) (fun k => ?_) ⟨1, fun k hk => ?_⟩, h10, hw⟩
    · show scriptoriumlaw06_escaped.l0 (k + 1) _ _ _ _ _ = _
      rw [scriptoriumlaw06_escaped.l0]
      by_cases h1 : (i : Int) < ((mkB l).size : Int)
      · rw [if_pos h1, nums_len, wrap_in _ (by omega), decide_eq_false (by rw [mkB_size] at h1; omega)]
      · rw [if_neg h1]
    · obtain ⟨q, rfl⟩ : ∃ q, k = q + 1 := ⟨k - 1, by omega⟩
      show scriptoriumlaw06_escaped.j1 (q + 1) _ _ _ _ _ false = _
      rw [scriptoriumlaw06_escaped.j1, if_neg (by decide), nums_str, nums_str]
  induction d with
  | zero => intro i was hi hw hwl h10; exact stop i was hw h10 (.inl (by omega))
  | succ d ih =>
    intro i was hi hw hwl h10
    by_cases hfull : M ≤ (was.flatMap marked).length + 1
    · exact stop i was hw h10 (.inr hfull)
    have hlt : i < l.length := by omega
    obtain ⟨c, r, hr⟩ : ∃ c r, l.drop i = c :: r := ⟨_, _, List.drop_eq_getElem_cons hlt⟩
    have hw1 : wrap64 ((i : Int) + 1) = ((i + 1 : Nat) : Int) := by rw [wrap_in _ (by omega)]; rfl
    have hle : was.length ≤ (was.flatMap marked).length := by
      clear ih stop hi hw hwl h10 hfull
      induction was with
      | nil => simp
      | cons a t ih =>
        rw [List.flatMap_cons, List.length_append, List.length_cons]
        have : 1 ≤ (marked a).length := by unfold marked; split <;> simp
        omega
    have h0 : ∀ k, scriptoriumlaw06_escaped.l0 (k + 1) (mkB l) (M : Int) (bnums (was.flatMap marked)) (bnums was) (i : Int) = scriptoriumlaw06_escaped.j1 k (mkB l) (M : Int) (bnums (was.flatMap marked)) (bnums was) (i : Int) true := fun k => by
      rw [scriptoriumlaw06_escaped.l0, if_pos (by rw [mkB_size]; omega), nums_len, wrap_in _ (by omega), decide_eq_true (by omega)]
    have hsz : (i : Int) < ((mkB l).size : Int) := by rw [mkB_size]; omega
    have h92 : ((92 : Int)) = (((92 : UInt8).toNat : Nat) : Int) := rfl
    by_cases hc : c = 10
    · obtain ⟨was', hev, h1, h2⟩ := ih (i + 1) was (by omega) hw hwl h10
      refine ⟨was', Ev.step h0 (Ev.step (fun k => ?_) hev), h1, h2⟩
      show scriptoriumlaw06_escaped.j1 (k + 1) _ _ _ _ _ true = _
      rw [scriptoriumlaw06_escaped.j1, if_pos rfl, if_pos (by omega), if_pos hsz, bt_drop l i c r hr, if_pos (by rw [hc]; rfl), hw1]
    · have hc10 : ¬ ((c.toNat : Int) = 10) := ne_int c 10 hc
      have hl1 : ((bnums (was.flatMap marked)).length : Nat) < 140737488355328 := by rw [nums_len]; omega
      have hl2 : ((bnums was).length : Nat) < 140737488355328 := by rw [nums_len]; omega
      have hn10 : ∀ x ∈ was ++ [c], x ≠ 10 := fun x hx => by
        rcases List.mem_append.1 hx with hx | hx
        · exact h10 x hx
        · rw [List.mem_singleton.1 hx]; exact hc
      by_cases hm : markC c = true
      · have hmk : marked c = [92, c] := by unfold marked; rw [if_pos hm]
        have hnext : (was ++ [c]).flatMap marked = was.flatMap marked ++ [92] ++ [c] := by rw [snoc_marked, hmk]; simp
        obtain ⟨was', hev, h1, h2⟩ := ih (i + 1) (was ++ [c]) (by omega) (by rw [hnext, List.length_append, List.length_append]; simp only [List.length_singleton]; omega) (by rw [List.length_append]; simp only [List.length_singleton]; omega) hn10
        refine ⟨was', Ev.step h0 (Ev.step (fun k => ?_) hev), h1, h2⟩
        show scriptoriumlaw06_escaped.j1 (k + 1) _ _ _ _ _ true = _
        rw [scriptoriumlaw06_escaped.j1, if_pos rfl, if_pos (by omega), if_pos hsz, bt_drop l i c r hr, if_neg hc10, mark_f, Option.bind_some, if_pos hm, if_pos hl1, Option.bind_some, if_pos (by rw [List.length_append, nums_len]; simp only [List.length_singleton]; omega), if_pos hl2, hw1,
          h92, nums_snoc, nums_snoc, nums_snoc, hnext]
      · have hmk : marked c = [c] := by unfold marked; rw [if_neg hm]
        have hnext : (was ++ [c]).flatMap marked = was.flatMap marked ++ [c] := by rw [snoc_marked, hmk]
        obtain ⟨was', hev, h1, h2⟩ := ih (i + 1) (was ++ [c]) (by omega) (by rw [hnext, List.length_append]; simp only [List.length_singleton]; omega) (by rw [List.length_append]; simp only [List.length_singleton]; omega) hn10
        refine ⟨was', Ev.step h0 (Ev.step (fun k => ?_) hev), h1, h2⟩
        show scriptoriumlaw06_escaped.j1 (k + 1) _ _ _ _ _ true = _
        rw [scriptoriumlaw06_escaped.j1, if_pos rfl, if_pos (by omega), if_pos hsz, bt_drop l i c r hr, if_neg hc10, mark_f, Option.bind_some, if_neg hm, if_pos hl1, if_pos hl2, hw1, nums_snoc, nums_snoc, hnext]
theorem esc_ev (l : List UInt8) (hl : l.length ≤ 1000000000) (M : Nat) (hM : M ≤ 10000) : ∃ was, Ev (fun k => scriptoriumlaw06_escaped.f k (mkB l) (M : Int)) (mkB (was.flatMap marked), mkB was) ∧ (∀ x ∈ was, x ≠ 10) ∧ (was.flatMap marked).length ≤ M + 1 :=
  esc_l0 l hl M hM l.length 0 [] (by omega) (by simp) (by simp) (fun x hx => by cases hx)
theorem shown_f : scriptoriumlaw06_shown.f = some true := by decide +kernel
theorem shown_ev : Ev (fun _ => scriptoriumlaw06_shown.f) true := ⟨0, fun _ _ => shown_f⟩
theorem cut_hit (c : UInt8) (r : List UInt8) : strings_CutPrefix.f (mkB (c :: r)) (⟨#[c]⟩ : ByteArray) = some (mkB r, true) := by
  obtain ⟨h1, h2⟩ := trim_hit c r
  show some ((⟨(Lib.trimPrefix (c :: r) [c]).toArray⟩ : ByteArray), Lib.hasPrefix (c :: r) [c]) = _
  rw [h1, h2]; rfl
theorem marked_l (was : List UInt8) : (108 :: was).flatMap marked = 108 :: was.flatMap marked := by
  rw [List.flatMap_cons]; rfl
theorem fold_f (l : List UInt8) (h : l.length ≤ 10000000) : runes_Fold.f (mkB l) = some (mkB (Fold.fold l)) := by
  unfold runes_Fold.f; rw [if_pos (by rw [mkB_size]; exact h), mkB_data]
theorem until_f (l fin stop : List UInt8) (h : l.length ≤ 1000000000) : link_until.f (mkB l) (mkB fin) (mkB stop) = some ((((untilS fin stop l).getD 0 : Nat) : Int), (untilS fin stop l).isSome) := by
  unfold link_until.f; rw [if_pos (by rw [mkB_size]; exact h), mkB_data, mkB_data, mkB_data]
theorem label_hit (was b : List UInt8) (h10 : ∀ x ∈ was, x ≠ 10) (hl : (was.flatMap marked).length ≤ 5000) (hb : b.length ≤ 100000000) :
    link_Label.f (mkB (91 :: ((108 :: was.flatMap marked) ++ 93 :: b))) = some (if (108 :: was.flatMap marked).length > 999 then (mkB [], 0) else (mkB (108 :: was.flatMap marked), (((108 :: was.flatMap marked).length + 2 : Nat) : Int))) := by
  have hu := until_esc [93] [91] (fun x h => by rw [one_contains 93 x h]; decide) (fun x h => by left; rw [one_contains 91 x h]; decide) (by decide) (by decide) 93 b (by decide) (108 :: was) (fun x hx => by
    rcases List.mem_cons.1 hx with rfl | hx
    · decide
    · exact h10 x hx)
  rw [marked_l] at hu
  have hne := Fold.fold_ne 108 (was.flatMap marked) (by decide) (by decide)
  have hlen : (108 :: was.flatMap marked).length ≤ 5001 := by simp only [List.length_cons]; omega
  generalize 108 :: was.flatMap marked = x at *
  have hxl : (x ++ 93 :: b).length ≤ 1000000000 := by rw [List.length_append, List.length_cons]; omega
  have huf : link_until.f (mkB (x ++ 93 :: b)) (⟨#[93]⟩ : ByteArray) (⟨#[91]⟩ : ByteArray) = some ((x.length : Int), true) := by
    have := until_f (x ++ 93 :: b) [93] [91] hxl
    rw [hu] at this; exact this
  unfold link_Label.f
  rw [cut_hit 91 (x ++ 93 :: b), Option.bind_some]
  show (if true = true then ((link_until.f (mkB (x ++ 93 :: b)) (⟨#[93]⟩ : ByteArray) (⟨#[91]⟩ : ByteArray)).bind fun bt103 => _) else _) = _
  rw [if_pos rfl, huf, Option.bind_some]
  show (if true = true then (if (x.length : Int) > 999 then _ else _) else _) = _
  rw [if_pos rfl]
  by_cases h9 : x.length > 999
  · rw [if_pos (by omega), if_pos h9]; rfl
  · rw [if_neg (by omega), if_neg h9, if_pos (by omega), if_pos (by rw [mkB_size, List.length_append]; omega), Int.toNat_natCast]
    have hx : (mkB (x ++ 93 :: b)).extract 0 x.length = mkB x := by
      rw [mkB_piece, List.drop_zero, Nat.sub_zero, List.take_left]
    rw [hx, fold_f x (by omega), Option.bind_some, mkB_toList, if_neg hne, wrap_in _ (by omega)]
    rfl
theorem label_none (was : List UInt8) (h10 : ∀ x ∈ was, x ≠ 10) (hl : (was.flatMap marked).length ≤ 5000) : link_Label.f (mkB (91 :: (108 :: was.flatMap marked))) = some (mkB [], 0) := by
  have hu := until_none [93] [91] (fun x h => by rw [one_contains 93 x h]; decide) (fun x h => by left; rw [one_contains 91 x h]; decide) (by decide) (by decide) (108 :: was) (fun x hx => by
    rcases List.mem_cons.1 hx with rfl | hx
    · decide
    · exact h10 x hx)
  rw [marked_l] at hu
  have hlen : (108 :: was.flatMap marked).length ≤ 5001 := by simp only [List.length_cons]; omega
  generalize 108 :: was.flatMap marked = x at *
  have huf : link_until.f (mkB x) (⟨#[93]⟩ : ByteArray) (⟨#[91]⟩ : ByteArray) = some (0, false) := by
    have := until_f x [93] [91] (by omega)
    rw [hu] at this; exact this
  unfold link_Label.f
  rw [cut_hit 91 x, Option.bind_some]
  show (if true = true then ((link_until.f (mkB x) (⟨#[93]⟩ : ByteArray) (⟨#[91]⟩ : ByteArray)).bind fun bt103 => _) else _) = _
  rw [if_pos rfl, huf, Option.bind_some]
  rfl
theorem pure (l : List UInt8) (hl : l.length ≤ 100000000) (b : List UInt8) (hb : b.length ≤ 100000000) : ∃ k, scriptoriumlaw06_LinkLabels.f k (mkB l) (mkB b) = some true := by
  obtain ⟨was, hev, h10, hw⟩ := esc_ev l (by omega) 1049 (by omega)
  suffices h : Ev (fun k => scriptoriumlaw06_LinkLabels.f k (mkB l) (mkB b)) true by
    obtain ⟨k, hk⟩ := h
    exact ⟨k, hk k (Nat.le_refl _)⟩
  have lh := label_hit was b h10 (by omega) hb
  have ln := label_none was h10 (by omega)
  refine Ev.bind shown_ev (Ev.bind hev ?_)
  refine ⟨0, fun k _ => ?_⟩
  generalize hT : was.flatMap marked = t at *
  have e1 : (⟨#[108]⟩ : ByteArray) ++ mkB t = mkB (108 :: t) := mkB_append [108] t
  have e2 : (⟨#[91]⟩ : ByteArray) ++ mkB (108 :: t) = mkB (91 :: (108 :: t)) := mkB_append [91] (108 :: t)
  have e3 : mkB (91 :: (108 :: t)) ++ (⟨#[93]⟩ : ByteArray) = mkB (91 :: (108 :: t) ++ [93]) := mkB_append _ [93]
  have e4 : mkB (91 :: (108 :: t) ++ [93]) ++ mkB b = mkB (91 :: ((108 :: t) ++ 93 :: b)) := by rw [mkB_append]; simp
  show (if 1 + (mkB t).size ≤ 9223372036854775807 then _ else _) = _
  rw [if_pos (by rw [mkB_size]; omega), e1, if_pos (by rw [mkB_size]; simp only [List.length_cons]; omega), e2, if_pos (by rw [mkB_size]; simp only [List.length_cons]; omega), e3, if_pos (by rw [mkB_size, mkB_size]; simp only [List.length_cons, List.length_append, List.length_nil]; omega), e4, lh, Option.bind_some]
  by_cases h9 : (108 :: t).length > 999
  · rw [if_pos (by rw [mkB_size]; omega), if_pos rfl, if_pos h9]
    show (if (mkB []).toList = ([] : List UInt8) then _ else _) = _
    rw [mkB_toList, if_pos rfl]; rfl
  · rw [if_neg (by rw [mkB_size]; omega), ln, Option.bind_some, if_pos rfl, if_neg h9]
    show (if (mkB (108 :: t)).toList = (mkB (108 :: t)).toList then (if ((((108 :: t).length + 2 : Nat)) : Int) = wrap64 (((mkB (108 :: t)).size : Int) + 2) then (if (mkB []).toList = ([] : List UInt8) then _ else _) else _) else _) = _
    rw [if_pos rfl, if_pos (by rw [mkB_size, wrap_in _ (by omega)]; rfl), mkB_toList, if_pos rfl]; rfl
end Go.Proofs.YthdlibgiejpjeaaGreatDoor.LAPure
