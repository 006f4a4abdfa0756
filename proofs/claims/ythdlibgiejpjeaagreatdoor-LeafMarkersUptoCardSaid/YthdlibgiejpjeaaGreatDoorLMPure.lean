/- LeafMarkers' plain law. -/
import Derived.Test.YthdlibgiejpjeaaGreatDoorLM
import Derived.Test.YthdlibgiejpjeaaGreatDoorPureAid
import Derived.Test.YthdlibgiejpjeaaGreatDoorMorePure
set_option linter.unusedVariables false
set_option linter.unusedSimpArgs false
namespace Go.Proofs.YthdlibgiejpjeaaGreatDoor.LMPure
open Go Go.RowKit Go.Proofs.YthdlibgiejpjeaaGreatDoor Go.Proofs.YthdlibgiejpjeaaGreatDoor.Given Go.Proofs.YthdlibgiejpjeaaGreatDoor.LM Go.Proofs.YthdlibgiejpjeaaGreatDoorW.PrintWords Go.Proofs.YthdlibgiejpjeaaGreatDoor.Spec Go.Proofs.YthdlibgiejpjeaaGreatDoor.PureAid Go.Proofs.YthdlibgiejpjeaaGreatDoor.MorePure
theorem bnums_one (c : UInt8) : strOfNums [(c.toNat : Int)] = mkB [c] := nums_str [c]
/-- A piece, so many times. -/
def rep (l : List UInt8) : Nat → List UInt8
  | 0 => []
  | n + 1 => rep l n ++ l
theorem rep_len (l : List UInt8) (n : Nat) : (rep l n).length = n * l.length := by
  induction n with
  | zero => simp [rep]
  | succ n ih => rw [rep, List.length_append, ih, Nat.succ_mul]
theorem rep_one (c : UInt8) (n : Nat) : rep [c] n = List.replicate n c := by
  induction n with
  | zero => rfl
  | succ n ih => rw [rep, ih, List.replicate_succ']

theorem shown_ev : Ev (fun k => scriptoriumlaw05_shown.f k) true := Ev.of (fun k => scriptoriumlaw05_shown.mono k) (k := 4) (by decide +kernel)
theorem dec_at : ∀ n : Fin 10, UInt8.ofNat (((48 + (n.val : Int)) % 256).toNat) = numL.hexL n.val := by decide +kernel
theorem dec_str (n : Nat) (h : n < 10) : strOfNums [(wrap64 (48 + (n : Int))) % 256] = mkB [numL.hexL n] := by
  rw [wrap_in _ (by omega)]
  show (⟨[UInt8.ofNat ((48 + (n : Int)) % 256).toNat].toArray⟩ : ByteArray) = _
  rw [dec_at ⟨n, h⟩]; rfl
theorem hex_num : ∀ n : Fin 10, isNum (numL.hexL n.val) = true := by decide +kernel
theorem numL_num : ∀ (f k : Nat) (acc : List UInt8), (∀ c ∈ acc, isNum c = true) → ∀ c ∈ numL 10 f k acc, isNum c = true := by
  intro f
  induction f with
  | zero => intro k acc h; unfold numL; exact h
  | succ f ih =>
    intro k acc h
    unfold numL
    split
    · refine ih _ _ ?_
      intro c hc
      rcases List.mem_cons.1 hc with rfl | hc
      · exact hex_num ⟨k % 10, Nat.mod_lt _ (by decide)⟩
      · exact h c hc
    · exact h
theorem tw_num (ds : List UInt8) (c : UInt8) (r : List UInt8) (h : ∀ c ∈ ds, isNum c = true) (hc : isNum c = false) : (ds ++ c :: r).takeWhile isNum = ds := by
  rw [List.takeWhile_append_of_pos (fun a ha => h a ha), List.takeWhile_cons, if_neg (by rw [hc]; decide)]; simp
theorem marker_of (ds : List UInt8) (c : UInt8) (r : List UInt8) (h : ∀ c ∈ ds, isNum c = true) (hne : ds ≠ []) (hl : ds.length ≤ 9) (hc : c = 46 ∨ c = 41) :
    marker (ds ++ c :: r) = if behind r = true then (c.toNat, ds.length + 1, value 10 ds) else (0, 0, 0) := by
  have hn : isNum c = false := by rcases hc with rfl | rfl <;> rfl
  unfold marker
  rw [tw_num ds c r h hn]
  dsimp only
  rw [List.drop_left' rfl]
  dsimp only
  have hm : (marksOf ds).contains c = true := by
    unfold marksOf; rw [if_neg hne]; rcases hc with rfl | rfl <;> rfl
  rw [hm]
  cases behind r
  · rw [if_pos (.inr (.inr rfl)), if_neg (by decide)]
  · rw [if_neg (by rintro (h | h | h); · omega
                   · cases h
                   · cases h), if_pos rfl]
theorem mk_f (l : List UInt8) (h : l.length ≤ 4000000000) : leaf_Marker.f (mkB l) = some ((((marker l).1 : Nat) : Int), (((marker l).2.1 : Nat) : Int), (((marker l).2.2 : Nat) : Int)) := by
  unfold leaf_Marker.f
  rw [if_pos (by rw [mkB_size]; omega)]; rfl
theorem bt0 (c : UInt8) (r : List UInt8) : bt (mkB (c :: r)) 0 = (c.toNat : Int) := bt_drop (c :: r) 0 c r rfl
theorem behind_cons (c : UInt8) (r : List UInt8) : behind (c :: r) = decide (c = 32 ∨ c = 9) := by
  unfold behind; rw [Bool.eq_iff_iff]; simp

theorem last_ok (N : Nat) (x1 : Bool) (x2 acc : List UInt8) (k : Nat) (hx : x2.length ≤ 100000000) (hn : acc ≠ []) (hall : ∀ c ∈ acc, isNum c = true) (hl : acc.length ≤ 9) (hv : value 10 acc = N) :
    scriptoriumlaw05_LeafMarkers.l0 (k + 1) (N : Int) x1 (mkB x2) true (mkB acc) 0 = some true := by
  have hw : wrap64 ((acc.length : Int) + 1) = ((acc.length + 1 : Nat) : Int) := by rw [wrap_in _ (by omega)]; rfl
  have h46 : strOfNums [46] = mkB [46] := bnums_one 46
  have h41 : strOfNums [41] = mkB [41] := bnums_one 41
  have key : ∀ c : UInt8, c = 46 ∨ c = 41 → leaf_Marker.f ((mkB acc ++ mkB [c]) ++ mkB x2) = some (if behind x2 = true then ((c.toNat : Int), ((acc.length + 1 : Nat) : Int), (N : Int)) else (0, 0, 0)) := by
    intro c hc
    rw [mkB_append, mkB_append, mk_f _ (by simp only [List.length_append, List.length_singleton]; omega), show acc ++ [c] ++ x2 = acc ++ c :: x2 by simp, marker_of acc c x2 hall hn hl hc]
    split
    · rw [hv]
    · rfl
  have s1 : ∀ c : UInt8, (mkB acc).size + (mkB [c]).size ≤ 9223372036854775807 := fun c => by rw [mkB_size, mkB_size]; simp only [List.length_singleton]; omega
  have s2 : ∀ c : UInt8, (mkB acc ++ mkB [c]).size + (mkB x2).size ≤ 9223372036854775807 := fun c => by rw [mkB_append, mkB_size, mkB_size]; simp only [List.length_append, List.length_singleton]; omega
  rw [scriptoriumlaw05_LeafMarkers.l0, if_neg (by omega), mkB_toList, if_neg hn]
  cases x1
  · rw [if_neg (by decide), Option.bind_some, h41, if_pos (s1 41), if_pos (s2 41), key 41 (.inr rfl), Option.bind_some, mkB_toList]
    cases x2 with
    | nil => simp only [behind, if_true, mkB_size, hw]; rw [if_pos (by rfl)]; simp
    | cons b r =>
      rw [if_neg (by simp), if_pos (by rw [mkB_size]; simp only [List.length_cons]; omega), bt0, behind_cons]
      by_cases hb : b = 32 ∨ b = 9
      · simp only [hb, decide_true, if_true, mkB_size, hw]
        rcases hb with rfl | rfl
        · rw [if_pos (by rfl), if_pos (by rfl)]; simp
        · rw [if_neg (by decide), if_pos (by rfl), if_pos (by rfl)]; simp
      · simp only [hb, decide_false, if_true, Bool.false_eq_true, if_false]
        rw [if_neg (show ¬ ((b.toNat : Int) = 32) from ne_int b 32 (fun e => hb (.inl e))), if_neg (show ¬ ((b.toNat : Int) = 9) from ne_int b 9 (fun e => hb (.inr e)))]
        rfl
  · rw [if_pos rfl, Option.bind_some, h46, if_pos (s1 46), if_pos (s2 46), key 46 (.inl rfl), Option.bind_some, mkB_toList]
    cases x2 with
    | nil => simp only [behind, if_true, mkB_size, hw]; rw [if_pos (by rfl)]; simp
    | cons b r =>
      rw [if_neg (by simp), if_pos (by rw [mkB_size]; simp only [List.length_cons]; omega), bt0, behind_cons]
      by_cases hb : b = 32 ∨ b = 9
      · simp only [hb, decide_true, if_true, mkB_size, hw]
        rcases hb with rfl | rfl
        · rw [if_pos (by rfl), if_pos (by rfl)]; simp
        · rw [if_neg (by decide), if_pos (by rfl), if_pos (by rfl)]; simp
      · simp only [hb, decide_false, if_true, Bool.false_eq_true, if_false]
        rw [if_neg (show ¬ ((b.toNat : Int) = 32) from ne_int b 32 (fun e => hb (.inl e))), if_neg (show ¬ ((b.toNat : Int) = 9) from ne_int b 9 (fun e => hb (.inr e)))]
        rfl
theorem l0_next (N : Nat) (x1 : Bool) (x2 acc : List UInt8) (n k : Nat) (ha : acc.length ≤ 1000) (hn : n ≤ 10000000000) (hc : n > 0 ∨ acc = []) :
    scriptoriumlaw05_LeafMarkers.l0 (k + 1) (N : Int) x1 (mkB x2) true (mkB acc) (n : Int) = scriptoriumlaw05_LeafMarkers.l0 k (N : Int) x1 (mkB x2) true (mkB (numL.hexL (n % 10) :: acc)) ((n / 10 : Nat) : Int) := by
  have hm : Int.tmod (n : Int) 10 = ((n % 10 : Nat) : Int) := rfl
  have hd : wrap64 (Int.tdiv (n : Int) 10) = ((n / 10 : Nat) : Int) := by
    rw [show Int.tdiv (n : Int) 10 = ((n / 10 : Nat) : Int) from rfl]; exact wrap_in _ (by omega)
  have hs := dec_str (n % 10) (by omega)
  have s1 : (mkB [numL.hexL (n % 10)]).size + (mkB acc).size ≤ 9223372036854775807 := by rw [mkB_size, mkB_size]; simp only [List.length_singleton]; omega
  rw [scriptoriumlaw05_LeafMarkers.l0]
  by_cases h1 : n > 0
  · rw [if_pos (by omega), hm, hd, Option.bind_some, hs, if_pos s1, mkB_append, List.singleton_append]
  · have h2 : acc = [] := hc.resolve_left h1
    rw [if_neg (by omega), mkB_toList, if_pos h2, hm, hd, Option.bind_some, hs, if_pos s1, mkB_append, List.singleton_append]
theorem l0_ev (N : Nat) (x1 : Bool) (x2 : List UInt8) (hx : x2.length ≤ 100000000) : ∀ (f n : Nat) (acc : List UInt8), n < 2 ^ f → n ≤ 10000000000 → (acc = [] → 1 ≤ f) → acc.length + f ≤ 1000 → (∀ c ∈ acc, isNum c = true) →
    (numL 10 f n acc).length ≤ 9 → value 10 (numL 10 f n acc) = N → Ev (fun k => scriptoriumlaw05_LeafMarkers.l0 k (N : Int) x1 (mkB x2) true (mkB acc) (n : Int)) true := by
  intro f
  induction f with
  | zero =>
    intro n acc hn hn2 hf ha hall hl hv
    have h0 : n = 0 := by simpa using hn
    subst h0
    refine ⟨1, fun k hk => ?_⟩
    obtain ⟨m, rfl⟩ : ∃ m, k = m + 1 := ⟨k - 1, by omega⟩
    exact last_ok N x1 x2 acc m hx (fun e => by have := hf e; omega) hall hl hv
  | succ f ih =>
    intro n acc hn hn2 hf ha hall hl hv
    by_cases hc : n > 0 ∨ acc = []
    · unfold numL at hl hv
      rw [if_pos hc] at hl hv
      refine Ev.step (fun k => l0_next N x1 x2 acc n k (by omega) hn2 hc) (ih (n / 10) (numL.hexL (n % 10) :: acc) (by rw [Nat.pow_succ] at hn; omega) (by omega) (fun e => by cases e) (by simp only [List.length_cons]; omega) ?_ hl hv)
      intro c hcm
      rcases List.mem_cons.1 hcm with rfl | h
      · exact hex_num ⟨n % 10, Nat.mod_lt _ (by decide)⟩
      · exact hall c h
    · unfold numL at hl hv
      rw [if_neg hc] at hl hv
      have h0 : n = 0 := by omega
      subst h0
      refine ⟨1, fun k hk => ?_⟩
      obtain ⟨m, rfl⟩ : ∃ m, k = m + 1 := ⟨k - 1, by omega⟩
      exact last_ok N x1 x2 acc m hx (fun e => hc (.inr e)) hall hl hv
theorem j0_ev (m : Nat) (x1 : Bool) (x2 : List UInt8) (hx : x2.length ≤ 100000000) : Ev (fun k => scriptoriumlaw05_LeafMarkers.j0 k (m : Int) x1 (mkB x2) true) true := by
  have hm : Int.tmod (m : Int) 1000000000 = ((m % 1000000000 : Nat) : Int) := rfl
  have hlt : m % 1000000000 < 1000000000 := Nat.mod_lt _ (by decide)
  generalize hN : m % 1000000000 = n at hm hlt
  have t := numL_facts 10 (by decide) (by decide) 30 n [] (by omega) (fun _ => by decide) (by simp)
  have tl := numL_len 10 (by decide) 9 30 n [] (by omega) (fun _ => by decide)
  have vt : value 10 (numL 10 30 n []) = n := by rw [t.1]; simp [value]
  simp only [List.length_nil, Nat.zero_add] at tl
  refine Ev.step (f := fun k => scriptoriumlaw05_LeafMarkers.l0 k (n : Int) x1 (mkB x2) true (mkB []) (n : Int)) (fun k => ?_) (l0_ev n x1 x2 hx 30 n [] (by omega) (by omega) (fun _ => by decide) (by simp) (by simp) tl vt)
  show scriptoriumlaw05_LeafMarkers.j0 (k + 1) (m : Int) x1 (mkB x2) true = _
  rw [scriptoriumlaw05_LeafMarkers.j0, hm]; rfl
theorem pure (a0 : Int) (h0 : -9223372036854775808 ≤ a0 ∧ a0 ≤ 9223372036854775807) (a1 : Bool) (x2 : List UInt8) (hx : x2.length ≤ 100000000) : ∃ k, scriptoriumlaw05_LeafMarkers.f k a0 a1 (mkB x2) = some true := by
  have h : Ev (fun k => scriptoriumlaw05_LeafMarkers.f k a0 a1 (mkB x2)) true := by
    refine Ev.bind shown_ev ?_
    by_cases hn : a0 < 0
    · refine Ev.congr (fun k => ?_) (j0_ev (-(a0 + 1)).toNat a1 x2 hx)
      rw [if_pos hn, wrap_in (a0 + 1) (by omega), wrap_in _ (by omega), Int.toNat_of_nonneg (by omega)]
    · refine Ev.congr (fun k => ?_) (j0_ev a0.toNat a1 x2 hx)
      rw [if_neg hn, Int.toNat_of_nonneg (by omega)]
  exact h.rounds
end Go.Proofs.YthdlibgiejpjeaaGreatDoor.LMPure
