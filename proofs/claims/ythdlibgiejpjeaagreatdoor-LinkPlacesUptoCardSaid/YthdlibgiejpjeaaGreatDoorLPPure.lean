/- LinkPlaces' plain law. -/
import Derived.Test.YthdlibgiejpjeaaGreatDoorLP
import Derived.Test.YthdlibgiejpjeaaGreatDoorLinkB
set_option linter.unusedVariables false
set_option linter.unusedSimpArgs false
namespace Go.Proofs.YthdlibgiejpjeaaGreatDoor.LPPure
open Go Go.RowKit Go.Proofs.YthdlibgiejpjeaaGreatDoor Go.Proofs.YthdlibgiejpjeaaGreatDoor.Given Go.Proofs.YthdlibgiejpjeaaGreatDoor.LP Go.Proofs.YthdlibgiejpjeaaGreatDoorW.PrintWords Go.Proofs.YthdlibgiejpjeaaGreatDoor.Spec Go.Proofs.YthdlibgiejpjeaaGreatDoor.PureAid Go.Proofs.YthdlibgiejpjeaaGreatDoor.MorePure
theorem mark_f (c : UInt8) : runes_Mark.f (c.toNat : Int) = some (markC c) := by
  unfold runes_Mark.f; rw [show ((c.toNat : Nat) : Int).toNat.toUInt8 = c by simp]
theorem snoc_marked (was : List UInt8) (c : UInt8) : (was ++ [c]).flatMap marked = was.flatMap marked ++ marked c := by simp
theorem esc_l0 (l : List UInt8) (hl : l.length ≤ 1000000000) (M : Nat) (hM : M ≤ 10000) : ∀ (d i : Nat) (was : List UInt8), i + d = l.length → (was.flatMap marked).length ≤ M + 1 → was.length ≤ M + 1 → (∀ x ∈ was, x ≠ 10) →
    ∃ was', Ev (fun k => scriptoriumlaw06_escaped.l0 k (mkB l) (M : Int) (bnums (was.flatMap marked)) (bnums was) (i : Int)) (mkB (was'.flatMap marked), mkB was') ∧ (∀ x ∈ was', x ≠ 10) ∧ (was'.flatMap marked).length ≤ M + 1 := by
  intro d
  have stop : ∀ (i : Nat) (was : List UInt8), (was.flatMap marked).length ≤ M + 1 → (∀ x ∈ was, x ≠ 10) → (l.length ≤ i ∨ M ≤ (was.flatMap marked).length + 1) →
      ∃ was', Ev (fun k => scriptoriumlaw06_escaped.l0 k (mkB l) (M : Int) (bnums (was.flatMap marked)) (bnums was) (i : Int)) (mkB (was'.flatMap marked), mkB was') ∧ (∀ x ∈ was', x ≠ 10) ∧ (was'.flatMap marked).length ≤ M + 1 := by
    intro i was hw h10 h
    refine ⟨was, Ev.step (f := fun k => scriptoriumlaw06_escaped.j1 k (mkB l) (M : Int) (bnums (was.flatMap marked)) (bnums was) (i : Int) false) (fun k => ?_) ⟨1, fun k hk => ?_⟩, h10, hw⟩
    · show scriptoriumlaw06_escaped.l0 (k + 1) _ _ _ _ _ = _
      rw [scriptoriumlaw06_escaped.l0]
      by_cases h1 : (i : Int) < ((mkB l).size : Int)
      · rw [if_pos h1, nums_len, wrap_in _ (by omega), decide_eq_false (by rw [mkB_size] at h1; omega)]
      · rw [if_neg h1]
    · obtain ⟨q, rfl⟩ : ∃ q, k = q + 1 := ⟨k - 1, by omega⟩
      show scriptoriumlaw06_escaped.j1 (q + 1) _ _ _ _ _ false = _
      rw [scriptoriumlaw06_escaped.j1, if_neg (by decide), nums_str, nums_str]
  induction d with
  | zero => intro i was hi hw hwl h10; exact stop i was hw h10 (.inl (by omega))
  | succ d ih =>
    intro i was hi hw hwl h10
    by_cases hfull : M ≤ (was.flatMap marked).length + 1
    · exact stop i was hw h10 (.inr hfull)
    have hlt : i < l.length := by omega
    obtain ⟨c, r, hr⟩ : ∃ c r, l.drop i = c :: r := ⟨_, _, List.drop_eq_getElem_cons hlt⟩
    have hw1 : wrap64 ((i : Int) + 1) = ((i + 1 : Nat) : Int) := by rw [wrap_in _ (by omega)]; rfl
    have hle : was.length ≤ (was.flatMap marked).length := by
      clear ih stop hi hw hwl h10 hfull
      induction was with
      | nil => simp
      | cons a t ih =>
        rw [List.flatMap_cons, List.length_append, List.length_cons]
        have : 1 ≤ (marked a).length := by unfold marked; split <;> simp
        omega
    have h0 : ∀ k, scriptoriumlaw06_escaped.l0 (k + 1) (mkB l) (M : Int) (bnums (was.flatMap marked)) (bnums was) (i : Int) = scriptoriumlaw06_escaped.j1 k (mkB l) (M : Int) (bnums (was.flatMap marked)) (bnums was) (i : Int) true := fun k => by
      rw [scriptoriumlaw06_escaped.l0, if_pos (by rw [mkB_size]; omega), nums_len, wrap_in _ (by omega), decide_eq_true (by omega)]
    have hsz : (i : Int) < ((mkB l).size : Int) := by rw [mkB_size]; omega
    have h92 : ((92 : Int)) = (((92 : UInt8).toNat : Nat) : Int) := rfl
    by_cases hc : c = 10
    · obtain ⟨was', hev, h1, h2⟩ := ih (i + 1) was (by omega) hw hwl h10
      refine ⟨was', Ev.step h0 (Ev.step (fun k => ?_) hev), h1, h2⟩
      show scriptoriumlaw06_escaped.j1 (k + 1) _ _ _ _ _ true = _
      rw [scriptoriumlaw06_escaped.j1, if_pos rfl, if_pos (by omega), if_pos hsz, bt_drop l i c r hr, if_pos (by rw [hc]; rfl), hw1]
    · have hc10 : ¬ ((c.toNat : Int) = 10) := ne_int c 10 hc
      have hl1 : ((bnums (was.flatMap marked)).length : Nat) < 140737488355328 := by rw [nums_len]; omega
      have hl2 : ((bnums was).length : Nat) < 140737488355328 := by rw [nums_len]; omega
      have hn10 : ∀ x ∈ was ++ [c], x ≠ 10 := fun x hx => by
        rcases List.mem_append.1 hx with hx | hx
        · exact h10 x hx
        · rw [List.mem_singleton.1 hx]; exact hc
      by_cases hm : markC c = true
      · have hmk : marked c = [92, c] := by unfold marked; rw [if_pos hm]
        have hnext : (was ++ [c]).flatMap marked = was.flatMap marked ++ [92] ++ [c] := by rw [snoc_marked, hmk]; simp
        obtain ⟨was', hev, h1, h2⟩ := ih (i + 1) (was ++ [c]) (by omega) (by rw [hnext, List.length_append, List.length_append]; simp only [List.length_singleton]; omega) (by rw [List.length_append]; simp only [List.length_singleton]; omega) hn10
        refine ⟨was', Ev.step h0 (Ev.step (fun k => ?_) hev), h1, h2⟩
        show scriptoriumlaw06_escaped.j1 (k + 1) _ _ _ _ _ true = _
        rw [scriptoriumlaw06_escaped.j1, if_pos rfl, if_pos (by omega), if_pos hsz, bt_drop l i c r hr, if_neg hc10, mark_f, Option.bind_some, if_pos hm, if_pos hl1, Option.bind_some, if_pos (by rw [List.length_append, nums_len]; simp only [List.length_singleton]; omega), if_pos hl2, hw1,
          h92, nums_snoc, nums_snoc, nums_snoc, hnext]
      · have hmk : marked c = [c] := by unfold marked; rw [if_neg hm]
        have hnext : (was ++ [c]).flatMap marked = was.flatMap marked ++ [c] := by rw [snoc_marked, hmk]
        obtain ⟨was', hev, h1, h2⟩ := ih (i + 1) (was ++ [c]) (by omega) (by rw [hnext, List.length_append]; simp only [List.length_singleton]; omega) (by rw [List.length_append]; simp only [List.length_singleton]; omega) hn10
        refine ⟨was', Ev.step h0 (Ev.step (fun k => ?_) hev), h1, h2⟩
        show scriptoriumlaw06_escaped.j1 (k + 1) _ _ _ _ _ true = _
        rw [scriptoriumlaw06_escaped.j1, if_pos rfl, if_pos (by omega), if_pos hsz, bt_drop l i c r hr, if_neg hc10, mark_f, Option.bind_some, if_neg hm, if_pos hl1, if_pos hl2, hw1, nums_snoc, nums_snoc, hnext]
theorem esc_ev (l : List UInt8) (hl : l.length ≤ 1000000000) (M : Nat) (hM : M ≤ 10000) : ∃ was, Ev (fun k => scriptoriumlaw06_escaped.f k (mkB l) (M : Int)) (mkB (was.flatMap marked), mkB was) ∧ (∀ x ∈ was, x ≠ 10) ∧ (was.flatMap marked).length ≤ M + 1 :=
  esc_l0 l hl M hM l.length 0 [] (by omega) (by simp) (by simp) (fun x hx => by cases hx)
theorem shown_f : scriptoriumlaw06_shown.f = some true := by decide +kernel
theorem shown_ev : Ev (fun _ => scriptoriumlaw06_shown.f) true := ⟨0, fun _ _ => shown_f⟩
theorem dest_f (l : List UInt8) (h : l.length ≤ 1000000000) (x : List UInt8 × Nat) (hd : dest l = x) : link_Dest.f (mkB l) = some (mkB x.1, (x.2 : Int)) := by
  unfold link_Dest.f
  rw [if_pos (by rw [mkB_size]; exact h), mkB_data, hd]
theorem title_f (l : List UInt8) (h : l.length ≤ 1000000000) (x : List UInt8 × Nat) (hd : title l = x ∧ titleOk l = true) : link_Title.f (mkB l) = some (mkB x.1, (x.2 : Int)) := by
  unfold link_Title.f
  rw [if_pos ⟨by rw [mkB_size]; exact h, by rw [mkB_data]; exact hd.2⟩, mkB_data, hd.1]
theorem pure (l : List UInt8) (hl : l.length ≤ 100000000) (b : List UInt8) (hb : b.length ≤ 100000000) : ∃ k, scriptoriumlaw06_LinkPlaces.f k (mkB l) (mkB b) = some true := by
  obtain ⟨was, hev, h10, hw⟩ := esc_ev l (by omega) 600 (by omega)
  suffices h : Ev (fun k => scriptoriumlaw06_LinkPlaces.f k (mkB l) (mkB b)) true by
    obtain ⟨k, hk⟩ := h
    exact ⟨k, hk k (Nat.le_refl _)⟩
  have d1 := dest_esc was b h10
  have t2 := title_esc 34 34 [] rfl (by decide) (by decide) (.inl rfl) was b h10
  have t3 := title_esc 40 41 [40] rfl (by decide) (by decide) (.inr rfl) was b h10
  have t4 := title_esc 39 39 [] rfl (by decide) (by decide) (.inl rfl) was b h10
  refine Ev.bind shown_ev (Ev.bind hev ?_)
  refine ⟨0, fun k _ => ?_⟩
  generalize hT : was.flatMap marked = t at *
  have hlen : ∀ c d : UInt8, (c :: (t ++ d :: b)).length ≤ 1000000000 := fun c d => by simp only [List.length_cons, List.length_append]; omega
  have f1 := dest_f _ (hlen 60 62) _ d1
  have f2 := title_f _ (hlen 34 34) _ t2
  have f3 := title_f _ (hlen 40 41) _ t3
  have f4 := title_f _ (hlen 39 39) _ t4
  have ap : ∀ c d : UInt8, ((mkB [c] ++ mkB t) ++ mkB [d]) ++ mkB b = mkB (c :: (t ++ d :: b)) := fun c d => by rw [mkB_append, mkB_append, mkB_append]; simp
  have a1 : (((⟨#[60]⟩ : ByteArray) ++ mkB t) ++ (⟨#[62]⟩ : ByteArray)) ++ mkB b = mkB (60 :: (t ++ 62 :: b)) := ap 60 62
  have a2 : (((⟨#[34]⟩ : ByteArray) ++ mkB t) ++ (⟨#[34]⟩ : ByteArray)) ++ mkB b = mkB (34 :: (t ++ 34 :: b)) := ap 34 34
  have a3 : (((⟨#[40]⟩ : ByteArray) ++ mkB t) ++ (⟨#[41]⟩ : ByteArray)) ++ mkB b = mkB (40 :: (t ++ 41 :: b)) := ap 40 41
  have a4 : (((⟨#[39]⟩ : ByteArray) ++ mkB t) ++ (⟨#[39]⟩ : ByteArray)) ++ mkB b = mkB (39 :: (t ++ 39 :: b)) := ap 39 39
  have s1 : ∀ c : UInt8, (mkB [c] ++ mkB t).size = t.length + 1 := fun c => by rw [mkB_append, mkB_size]; simp <;> omega
  have s2 : ∀ c d : UInt8, ((mkB [c] ++ mkB t) ++ mkB [d]).size = t.length + 2 := fun c d => by rw [mkB_append, mkB_append, mkB_size]; simp <;> omega
  have z1 : ∀ c : UInt8, (mkB [c] ++ mkB t).size + 1 ≤ 9223372036854775807 := fun c => by rw [s1]; omega
  have z2 : ∀ c d : UInt8, ((mkB [c] ++ mkB t) ++ mkB [d]).size + (mkB b).size ≤ 9223372036854775807 := fun c d => by rw [s2, mkB_size]; omega
  have hlt : wrap64 (((mkB t).size : Int) + 2) = ((t.length + 2 : Nat) : Int) := by rw [mkB_size, wrap_in _ (by omega)]; rfl
  show (if 1 + (mkB t).size ≤ 9223372036854775807 then _ else _) = _
  dsimp only
  rw [if_pos (by rw [mkB_size]; omega), if_pos (show ((⟨#[60]⟩ : ByteArray) ++ mkB t).size + 1 ≤ 9223372036854775807 from z1 60), if_pos (show (((⟨#[60]⟩ : ByteArray) ++ mkB t) ++ (⟨#[62]⟩ : ByteArray)).size + (mkB b).size ≤ 9223372036854775807 from z2 60 62), a1, f1, Option.bind_some, if_pos (show ((⟨#[34]⟩ : ByteArray) ++ mkB t).size + 1 ≤ 9223372036854775807 from z1 34), if_pos (show (((⟨#[34]⟩ : ByteArray) ++ mkB t) ++ (⟨#[34]⟩ : ByteArray)).size + (mkB b).size ≤ 9223372036854775807 from z2 34 34), a2, f2, Option.bind_some, if_pos (show ((⟨#[40]⟩ : ByteArray) ++ mkB t).size + 1 ≤ 9223372036854775807 from z1 40), if_pos (show (((⟨#[40]⟩ : ByteArray) ++ mkB t) ++ (⟨#[41]⟩ : ByteArray)).size + (mkB b).size ≤ 9223372036854775807 from z2 40 41), a3, f3, Option.bind_some, if_pos (show ((⟨#[39]⟩ : ByteArray) ++ mkB t).size + 1 ≤ 9223372036854775807 from z1 39), if_pos (show (((⟨#[39]⟩ : ByteArray) ++ mkB t) ++ (⟨#[39]⟩ : ByteArray)).size + (mkB b).size ≤ 9223372036854775807 from z2 39 39), a4, f4, Option.bind_some, if_pos rfl, hlt]
  show (if (mkB was).toList = (mkB was).toList then (if ((t.length + 2 : Nat) : Int) = ((t.length + 2 : Nat) : Int) then _ else _) else _) = _
  rw [if_pos rfl, if_pos rfl]
  show (if (mkB was).toList = (mkB was).toList then (if ((t.length + 2 : Nat) : Int) = ((t.length + 2 : Nat) : Int) then _ else _) else _) = _
  rw [if_pos rfl, if_pos rfl]
  show (if (mkB was).toList = (mkB was).toList then (if ((t.length + 2 : Nat) : Int) = ((t.length + 2 : Nat) : Int) then _ else _) else _) = _
  rw [if_pos rfl, if_pos rfl]
  show (if (mkB was).toList = (mkB was).toList then (some (((t.length + 2 : Nat) : Int) == ((t.length + 2 : Nat) : Int))) else _) = _
  rw [if_pos rfl]; simp
end Go.Proofs.YthdlibgiejpjeaaGreatDoor.LPPure
