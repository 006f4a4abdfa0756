/- LeafFences' plain law. -/
import Derived.Test.YthdlibgiejpjeaaGreatDoorLF
import Derived.Test.YthdlibgiejpjeaaGreatDoorPureAid
import Derived.Lib.IndexAny
set_option linter.unusedVariables false
set_option linter.unusedSimpArgs false
namespace Go.Proofs.YthdlibgiejpjeaaGreatDoor.LFPure
open Go Go.RowKit Go.Proofs.YthdlibgiejpjeaaGreatDoor Go.Proofs.YthdlibgiejpjeaaGreatDoor.Given Go.Proofs.YthdlibgiejpjeaaGreatDoor.LF Go.Proofs.YthdlibgiejpjeaaGreatDoorW.PrintWords Go.Proofs.YthdlibgiejpjeaaGreatDoor.Spec Go.Proofs.YthdlibgiejpjeaaGreatDoor.PureAid
theorem bnums_one (c : UInt8) : strOfNums [(c.toNat : Int)] = mkB [c] := nums_str [c]
/-- A piece, so many times. -/
def rep (l : List UInt8) : Nat → List UInt8
  | 0 => []
  | n + 1 => rep l n ++ l
theorem rep_len (l : List UInt8) (n : Nat) : (rep l n).length = n * l.length := by
  induction n with
  | zero => simp [rep]
  | succ n ih => rw [rep, List.length_append, ih, Nat.succ_mul]
theorem rep_one (c : UInt8) (n : Nat) : rep [c] n = List.replicate n c := by
  induction n with
  | zero => rfl
  | succ n ih => rw [rep, ih, List.replicate_succ']

theorem shown_ev : Ev (fun k => scriptoriumlaw05_shown.f k) true := Ev.of (fun k => scriptoriumlaw05_shown.mono k) (k := 4) (by decide +kernel)
theorem gap_fun (l : List UInt8) (h : l.length ≤ 4000000000) : leaf_gap.f (mkB l) = some (gap l) := by
  unfold leaf_gap.f
  rw [if_pos (by rw [mkB_size]; omega)]; rfl
theorem run_rep (c : UInt8) (n : Nat) (r : List UInt8) (h : ∀ d s, r = d :: s → d ≠ c) : run (List.replicate n c ++ r) c = n := by
  unfold run
  rw [List.takeWhile_append_of_pos (fun a ha => by simpa using (List.mem_replicate.1 ha).2)]
  cases r with
  | nil => simp
  | cons d s => rw [List.takeWhile_cons, if_neg (by simpa using h d s rfl)]; simp
theorem run_none (c d : UInt8) (r : List UInt8) (h : d ≠ c) : run (d :: r) c = 0 := by
  unfold run; rw [List.takeWhile_cons, if_neg (by simpa using h)]; rfl

/-- leaf.Closes: what its loop comes to from a place on. -/
def closes (l : List UInt8) (c : UInt8) (m : Int) : Bool := decide (0 < run l c) && decide (m ≤ (run l c : Int)) && gap (l.drop (run l c))
theorem run_le (l : List UInt8) (c : UInt8) : run l c ≤ l.length := (List.takeWhile_sublist _).length_le
theorem run_at (l : List UInt8) (c : UInt8) (i : Nat) (h : i < run l c) : ∃ r, l.drop i = c :: r := by
  have hp := List.takeWhile_prefix (p := fun x => decide (x = c)) (l := l)
  have hil : i < l.length := Nat.lt_of_lt_of_le h (run_le l c)
  refine ⟨l.drop (i + 1), ?_⟩
  rw [List.drop_eq_getElem_cons hil]
  have h1 : (l.takeWhile (fun x => decide (x = c)))[i] = l[i] := hp.getElem h
  have h2 := List.all_eq_true.1 (List.all_takeWhile (l := l) (p := fun x => decide (x = c))) _ (List.getElem_mem h)
  rw [h1] at h2
  rw [show l[i] = c by simpa using h2]
theorem run_stop (l : List UInt8) (c d : UInt8) (r : List UInt8) (h : l.drop (run l c) = d :: r) : d ≠ c := by
  induction l with
  | nil => simp at h
  | cons a l ih =>
    by_cases e : a = c
    · have : run (a :: l) c = run l c + 1 := by unfold run; rw [List.takeWhile_cons, if_pos (by simpa using e)]; rfl
      rw [this, List.drop_succ_cons] at h
      exact ih h
    · rw [run_none c a l e, List.drop_zero] at h
      injection h with h1 h2; rw [← h1]; exact e
theorem closes_l0 (l : List UInt8) (c : UInt8) (m : Int) (hl : l.length ≤ 1000000000) : ∀ (d i : Nat), i + d = run l c → Ev (fun k => leaf_Closes.l0 k (mkB l) (c.toNat : Int) m (i : Int)) (closes l c m) := by
  have hle := run_le l c
  intro d
  induction d with
  | zero =>
    intro i hi
    obtain rfl : i = run l c := by omega
    refine ⟨1, fun k hk => ?_⟩
    obtain ⟨q, rfl⟩ : ∃ q, k = q + 1 := ⟨k - 1, by omega⟩
    show leaf_Closes.l0 (q + 1) _ _ _ _ = _
    rw [leaf_Closes.l0]
    have hg : leaf_gap.f ((mkB l).extract ((run l c : Nat) : Int).toNat (mkB l).size) = some (gap (l.drop (run l c))) := by
      rw [Int.toNat_natCast, mkB_drop]; exact gap_fun _ (by rw [List.length_drop]; omega)
    have fin : (if ((run l c : Nat) : Int) > 0 then (if ((run l c : Nat) : Int) ≥ m then (if ((run l c : Nat) : Int) ≤ ((mkB l).size : Int) then ((leaf_gap.f ((mkB l).extract ((run l c : Nat) : Int).toNat (mkB l).size)).bind fun t192 => (some t192)) else (none)) else (some false)) else (some false)) = some (closes l c m) := by
      unfold closes
      by_cases h1 : 0 < run l c
      · rw [if_pos (by omega)]
        by_cases h2 : m ≤ ((run l c : Nat) : Int)
        · rw [if_pos h2, if_pos (by rw [mkB_size]; omega), hg]; simp [h1, h2]
        · rw [if_neg h2]; simp [h2]
      · rw [if_neg (by omega)]; simp [h1]
    by_cases hlt : run l c < l.length
    · obtain ⟨d, r, hr⟩ : ∃ d r, l.drop (run l c) = d :: r := ⟨_, _, List.drop_eq_getElem_cons hlt⟩
      rw [if_pos (by rw [mkB_size]; omega), if_pos (by omega), bt_drop l _ d r hr, if_neg (ne_int d c (run_stop l c d r hr))]
      exact fin
    · rw [if_neg (by rw [mkB_size]; omega), if_pos (show (0 : Int) ≤ ((run l c : Nat) : Int) by omega)]
      exact fin
  | succ d ih =>
    intro i hi
    obtain ⟨r, hr⟩ := run_at l c i (by omega)
    have hlt := drop_lt hr
    refine Ev.step (fun k => ?_) (ih (i + 1) (by omega))
    show leaf_Closes.l0 (k + 1) _ _ _ _ = _
    rw [leaf_Closes.l0, if_pos (by rw [mkB_size]; omega), if_pos (by omega), bt_drop l i c r hr, if_pos rfl, wrap_in _ (by omega)]
    rfl
theorem closes_ev (l : List UInt8) (c : UInt8) (m : Int) (hl : l.length ≤ 1000000000) : Ev (fun k => leaf_Closes.f k (mkB l) (c.toNat : Int) m) (closes l c m) := closes_l0 l c m hl (run l c) 0 (by omega)

def gapL : Nat → List UInt8
  | 0 => []
  | i + 1 => gapL i ++ [if i % 2 = 0 then 32 else 9]
theorem gapL_len (i : Nat) : (gapL i).length = i := by
  induction i with
  | zero => rfl
  | succ i ih => rw [gapL, List.length_append, ih]; rfl
theorem gapL_all (i : Nat) : ∀ c ∈ gapL i, c = 32 ∨ c = 9 := by
  induction i with
  | zero => intro c h; cases h
  | succ i ih =>
    intro c h
    rw [gapL] at h
    rcases List.mem_append.1 h with h | h
    · exact ih c h
    · rw [List.mem_singleton.1 h]; split
      · exact .inl rfl
      · exact .inr rfl
theorem gapL_gap (i : Nat) : gap (gapL i) = true := by
  unfold gap; exact List.all_eq_true.2 fun c h => by simpa using gapL_all i c h

theorem fence_ev (c : UInt8) (n B : Nat) (hc : c = 126 ∨ c = 96) (hn : 3 ≤ n) (hn2 : n ≤ 1000) (hB : B ≤ 1000) :
    Ev (fun k => leaf_Fence.f k (mkB (List.replicate n c ++ gapL B))) ((c.toNat : Int), (n : Int), mkB []) := by
  obtain ⟨p, rfl⟩ : ∃ p, n = p + 1 := ⟨n - 1, by omega⟩
  have hrun : run (List.replicate (p + 1) c ++ gapL B) c = p + 1 := run_rep c (p + 1) (gapL B) (fun d s h => by
    have := gapL_all B d (by rw [h]; exact List.mem_cons_self)
    rcases this with rfl | rfl <;> rcases hc with rfl | rfl <;> decide)
  have hdrop : (List.replicate (p + 1) c ++ gapL B).drop (p + 1) = gapL B := List.drop_left' (by simp)
  have hlen : (List.replicate (p + 1) c ++ gapL B).length = p + 1 + B := by rw [List.length_append, List.length_replicate, gapL_len]
  have hcons : List.replicate (p + 1) c ++ gapL B = c :: (List.replicate p c ++ gapL B) := by rw [List.replicate_succ]; rfl
  have hb0 : bt (mkB (List.replicate (p + 1) c ++ gapL B)) 0 = (c.toNat : Int) := bt_drop _ 0 c _ hcons
  have hc128 : (c.toNat : Int) < 128 := by rcases hc with rfl | rfl <;> decide
  have hrf : leaf_run.f (mkB (List.replicate (p + 1) c ++ gapL B)) (c.toNat : Int) = some ((p + 1 : Nat) : Int) := by
    unfold leaf_run.f
    rw [if_pos ⟨by omega, hc128, by rw [mkB_size, hlen]; omega⟩, mkB_data, show ((c.toNat : Int).toNat.toUInt8) = c by simp, hrun]
  have htrim : strings_Trim.f (mkB (gapL B)) (⟨#[32, 9]⟩ : ByteArray) = some (mkB []) := by
    unfold strings_Trim.f
    rw [if_pos ⟨by rw [mkB_size, gapL_len]; omega, by show 2 < 4294967281; omega, by rfl⟩]
    show some (mkB (Lib.trimS (gapL B) [32, 9])) = _
    rw [(gap_trim (gapL B)).2 (gapL_gap B)]
  have hun : escape_Unescape.f (mkB []) = some (mkB []) := by
    unfold escape_Unescape.f
    rw [if_pos (by show 0 < 4294967281; omega)]; rfl
  have hcont : strings_Contains.f (mkB (gapL B)) (⟨#[96]⟩ : ByteArray) = some false := by
    unfold strings_Contains.f
    rw [if_pos (by rw [mkB_size, gapL_len]; omega)]
    show some (Lib.contains (gapL B) [96]) = _
    unfold Lib.contains
    have h0 : (gapL B).contains 96 = false := by
      rw [Bool.eq_false_iff]
      intro h
      have := gapL_all B 96 (by simpa using h)
      rcases this with h | h <;> exact absurd h (by decide)
    rw [Lib.index_one, ← Lib.contains_iff_indexByte, h0]
  generalize hL : List.replicate (p + 1) c ++ gapL B = l at *
  have hsz : 0 < ((mkB l).size : Int) := by rw [mkB_size, hlen]; omega
  have hsz2 : ((p + 1 : Nat) : Int) ≤ ((mkB l).size : Int) := by rw [mkB_size, hlen]; omega
  have hne : ¬ l = [] := by rw [hcons]; simp
  refine ⟨2, fun k hk => ?_⟩
  obtain ⟨q, rfl⟩ : ∃ q, k = q + 1 + 1 := ⟨k - 2, by omega⟩
  show leaf_Fence.f (q + 1 + 1) (mkB l) = _
  have hj1 : leaf_Fence.j1 (q + 1) (mkB l) ((p + 1 : Nat) : Int) false = some ((c.toNat : Int), ((p + 1 : Nat) : Int), mkB []) := by
    rw [leaf_Fence.j1, if_neg (by decide), if_pos hsz, if_pos (by omega), if_pos hsz2, Int.toNat_natCast, mkB_drop, hdrop, htrim, Option.bind_some, hun, Option.bind_some, hb0]
  have hj0 : leaf_Fence.j0 (q + 1 + 1) (mkB l) false = some ((c.toNat : Int), ((p + 1 : Nat) : Int), mkB []) := by
    rw [leaf_Fence.j0, if_neg (by decide), if_pos hsz, hb0, hrf, Option.bind_some, if_neg (by omega)]
    by_cases h96 : (c.toNat : Int) = 96
    · rw [if_pos h96, if_pos (by omega), if_pos hsz2, Int.toNat_natCast, mkB_drop, hdrop, hcont, Option.bind_some, hj1]
    · rw [if_neg h96, hj1]
  unfold leaf_Fence.f
  rw [mkB_toList, if_neg hne, if_pos hsz, hb0]
  rcases hc with rfl | rfl
  · rw [if_neg (by decide)]; exact hj0
  · rw [if_pos (by rfl)]; exact hj0

theorem l1_last (n more B : Nat) (c o : UInt8) (hc : c = 126 ∧ o = 96 ∨ c = 96 ∧ o = 126) (hn : 3 ≤ n) (hn2 : n ≤ 100) (hm : 1 ≤ more) (hm2 : more ≤ 100) (x3 : Int) (hx3 : Int.tmod x3 5 = (B : Int)) (hB : B ≤ 10) :
    Ev (fun k => scriptoriumlaw05_LeafFences.l1 k (n : Int) (more : Int) x3 true (c.toNat : Int) (mkB (List.replicate n c)) (mkB (gapL B)) (B : Int)) true := by
  have hl : (List.replicate n c ++ gapL B).length = n + B := by rw [List.length_append, List.length_replicate, gapL_len]
  have hrun : run (List.replicate n c ++ gapL B) c = n := run_rep c n (gapL B) (fun d s h => by
    have := gapL_all B d (by rw [h]; exact List.mem_cons_self)
    rcases this with rfl | rfl <;> rcases hc with ⟨rfl, rfl⟩ | ⟨rfl, rfl⟩ <;> decide)
  have hdrop : (List.replicate n c ++ gapL B).drop n = gapL B := List.drop_left' (by simp)
  have hother : run (List.replicate n c ++ gapL B) o = 0 := by
    obtain ⟨p, rfl⟩ : ∃ p, n = p + 1 := ⟨n - 1, by omega⟩
    rw [List.replicate_succ, List.cons_append]
    exact run_none o c _ (by rcases hc with ⟨rfl, rfl⟩ | ⟨rfl, rfl⟩ <;> decide)
  have ho : (222 - (c.toNat : Int)) % 256 = (o.toNat : Int) := by rcases hc with ⟨rfl, rfl⟩ | ⟨rfl, rfl⟩ <;> rfl
  have c1 := closes_ev (List.replicate n c ++ gapL B) c (n : Int) (by omega)
  have c2 := closes_ev (List.replicate n c ++ gapL B) c ((n - 1 : Nat) : Int) (by omega)
  have c3 := closes_ev (List.replicate n c ++ gapL B) c ((n + more : Nat) : Int) (by omega)
  have c4 := closes_ev (List.replicate n c ++ gapL B) o (n : Int) (by omega)
  have fe := fence_ev c n B (by rcases hc with h | h; exact .inl h.1; exact .inr h.1) hn (by omega) (by omega)
  rw [show closes (List.replicate n c ++ gapL B) c (n : Int) = true by unfold closes; rw [hrun, hdrop, gapL_gap]; simp; omega] at c1
  rw [show closes (List.replicate n c ++ gapL B) c ((n - 1 : Nat) : Int) = true by unfold closes; rw [hrun, hdrop, gapL_gap]; simp; omega] at c2
  rw [show closes (List.replicate n c ++ gapL B) c ((n + more : Nat) : Int) = false by unfold closes; rw [hrun, show decide (((n + more : Nat) : Int) ≤ ((n : Nat) : Int)) = false by simp; omega]; simp] at c3
  rw [show closes (List.replicate n c ++ gapL B) o (n : Int) = false by unfold closes; rw [hother]; simp] at c4
  have hw1 : wrap64 ((n : Int) - 1) = ((n - 1 : Nat) : Int) := by rw [wrap_in _ (by omega)]; omega
  have hw2 : wrap64 ((n : Int) + (more : Int)) = ((n + more : Nat) : Int) := by rw [wrap_in _ (by omega)]; omega
  generalize hL : List.replicate n c ++ gapL B = l at *
  refine Ev.step (f := fun k => (leaf_Fence.f k (mkB l)).bind fun bt202 => (if true = true then (if bt202.1 = (c.toNat : Int) then (if bt202.2.1 = (n : Int) then (if bt202.2.2.toList = ([] : List UInt8) then ((leaf_Closes.f k (mkB l) (c.toNat : Int) (n : Int)).bind fun t205 => (if t205 = true then ((leaf_Closes.f k (mkB l) (c.toNat : Int) ((n - 1 : Nat) : Int)).bind fun t206 => (if t206 = true then ((leaf_Closes.f k (mkB l) (c.toNat : Int) ((n + more : Nat) : Int)).bind fun t207 => (if t207 = true then (some false) else ((leaf_Closes.f k (mkB l) (o.toNat : Int) (n : Int)).bind fun t208 => (some (!t208))))) else (some false))) else (some false))) else (some false)) else (some false)) else (some false)) else (some false))) (fun k => ?_) ?_
  · show scriptoriumlaw05_LeafFences.l1 (k + 1) _ _ _ _ _ _ _ _ = _
    rw [scriptoriumlaw05_LeafFences.l1, hx3, if_neg (by omega), if_pos (by rw [mkB_size, mkB_size, List.length_replicate, gapL_len]; omega), mkB_append, hL, hw1, hw2, ho]
  have e4 : Ev (fun k => (leaf_Closes.f k (mkB l) (o.toNat : Int) (n : Int)).bind fun t208 => (some (!t208))) true := Ev.bind (f := fun _ t => some (!t)) c4 (Ev.now true)
  have e3 : Ev (fun k => (leaf_Closes.f k (mkB l) (c.toNat : Int) ((n + more : Nat) : Int)).bind fun t207 => (if t207 = true then (some false) else ((leaf_Closes.f k (mkB l) (o.toNat : Int) (n : Int)).bind fun t208 => (some (!t208))))) true :=
    Ev.bind (f := fun k t207 => (if t207 = true then (some false) else ((leaf_Closes.f k (mkB l) (o.toNat : Int) (n : Int)).bind fun t208 => (some (!t208))))) c3 (Ev.congr (fun k => if_neg (by simp)) e4)
  have e2 : Ev (fun k => (leaf_Closes.f k (mkB l) (c.toNat : Int) ((n - 1 : Nat) : Int)).bind fun t206 => (if t206 = true then ((leaf_Closes.f k (mkB l) (c.toNat : Int) ((n + more : Nat) : Int)).bind fun t207 => (if t207 = true then (some false) else ((leaf_Closes.f k (mkB l) (o.toNat : Int) (n : Int)).bind fun t208 => (some (!t208))))) else (some false))) true :=
    Ev.bind (f := fun k t206 => (if t206 = true then ((leaf_Closes.f k (mkB l) (c.toNat : Int) ((n + more : Nat) : Int)).bind fun t207 => (if t207 = true then (some false) else ((leaf_Closes.f k (mkB l) (o.toNat : Int) (n : Int)).bind fun t208 => (some (!t208))))) else (some false))) c2 (Ev.congr (fun k => if_pos rfl) e3)
  have e1 : Ev (fun k => (leaf_Closes.f k (mkB l) (c.toNat : Int) (n : Int)).bind fun t205 => (if t205 = true then ((leaf_Closes.f k (mkB l) (c.toNat : Int) ((n - 1 : Nat) : Int)).bind fun t206 => (if t206 = true then ((leaf_Closes.f k (mkB l) (c.toNat : Int) ((n + more : Nat) : Int)).bind fun t207 => (if t207 = true then (some false) else ((leaf_Closes.f k (mkB l) (o.toNat : Int) (n : Int)).bind fun t208 => (some (!t208))))) else (some false))) else (some false))) true :=
    Ev.bind (f := fun k t205 => (if t205 = true then ((leaf_Closes.f k (mkB l) (c.toNat : Int) ((n - 1 : Nat) : Int)).bind fun t206 => (if t206 = true then ((leaf_Closes.f k (mkB l) (c.toNat : Int) ((n + more : Nat) : Int)).bind fun t207 => (if t207 = true then (some false) else ((leaf_Closes.f k (mkB l) (o.toNat : Int) (n : Int)).bind fun t208 => (some (!t208))))) else (some false))) else (some false))) c1 (Ev.congr (fun k => if_pos rfl) e2)
  refine Ev.bind fe (Ev.congr (fun k => ?_) e1)
  show (if true = true then (if (c.toNat : Int) = (c.toNat : Int) then (if (n : Int) = (n : Int) then (if (mkB []).toList = ([] : List UInt8) then _ else _) else _) else _) else _) = _
  rw [if_pos rfl, if_pos rfl, if_pos rfl, if_pos (mkB_toList [])]
theorem l1_ev (n more B : Nat) (c o : UInt8) (hc : c = 126 ∧ o = 96 ∨ c = 96 ∧ o = 126) (hn : 3 ≤ n) (hn2 : n ≤ 100) (hm : 1 ≤ more) (hm2 : more ≤ 100) (x3 : Int) (hx3 : Int.tmod x3 5 = (B : Int)) (hB : B ≤ 10) : ∀ (d i : Nat), i + d = B →
    Ev (fun k => scriptoriumlaw05_LeafFences.l1 k (n : Int) (more : Int) x3 true (c.toNat : Int) (mkB (List.replicate n c)) (mkB (gapL i)) (i : Int)) true := by
  intro d
  induction d with
  | zero =>
    intro i hi
    obtain rfl : i = B := by omega
    exact l1_last n more i c o hc hn hn2 hm hm2 x3 hx3 hB
  | succ d ih =>
    intro i hi
    refine Ev.step (fun k => ?_) (ih (i + 1) (by omega))
    show scriptoriumlaw05_LeafFences.l1 (k + 1) _ _ _ _ _ _ _ _ = _
    have ht : Int.tmod (i : Int) 2 = ((i % 2 : Nat) : Int) := rfl
    have hr : rdOf ByteArray.empty [(⟨#[32]⟩ : ByteArray), (⟨#[9]⟩ : ByteArray)] ((i % 2 : Nat) : Int) = mkB [if i % 2 = 0 then 32 else 9] := by
      unfold rdOf
      rw [Int.toNat_natCast]
      rcases Nat.mod_two_eq_zero_or_one i with h | h <;> rw [h] <;> rfl
    rw [scriptoriumlaw05_LeafFences.l1, hx3, if_pos (by omega), Option.bind_some, ht, if_pos (by omega), if_pos (by simp only [List.length_cons, List.length_nil]; omega), hr, if_pos (by rw [mkB_size, mkB_size, gapL_len]; simp only [List.length_singleton]; omega), mkB_append, wrap_in _ (by omega)]
    rfl
theorem l0_ev (n more B : Nat) (c o : UInt8) (hc : c = 126 ∧ o = 96 ∨ c = 96 ∧ o = 126) (hn : 3 ≤ n) (hn2 : n ≤ 100) (hm : 1 ≤ more) (hm2 : more ≤ 100) (x3 : Int) (hx3 : Int.tmod x3 5 = (B : Int)) (hB : B ≤ 10) : ∀ (d i : Nat), i + d = n →
    Ev (fun k => scriptoriumlaw05_LeafFences.l0 k (n : Int) (more : Int) x3 true (c.toNat : Int) (mkB (List.replicate i c)) (i : Int)) true := by
  intro d
  induction d with
  | zero =>
    intro i hi
    obtain rfl : i = n := by omega
    refine Ev.step (fun k => ?_) (l1_ev i more B c o hc hn hn2 hm hm2 x3 hx3 hB B 0 (by omega))
    show scriptoriumlaw05_LeafFences.l0 (k + 1) _ _ _ _ _ _ _ = _
    rw [scriptoriumlaw05_LeafFences.l0, if_neg (by omega)]
    rfl
  | succ d ih =>
    intro i hi
    refine Ev.step (fun k => ?_) (ih (i + 1) (by omega))
    show scriptoriumlaw05_LeafFences.l0 (k + 1) _ _ _ _ _ _ _ = _
    rw [scriptoriumlaw05_LeafFences.l0, if_pos (by omega), Option.bind_some, bnums_one, if_pos (by rw [mkB_size, mkB_size, List.length_replicate]; simp only [List.length_singleton]; omega), mkB_append, wrap_in _ (by omega), ← List.replicate_succ']
    rfl
theorem j2_ev (n0 m0 b0 : Nat) (x2 : Bool) : Ev (fun k => scriptoriumlaw05_LeafFences.j2 k (n0 : Int) (m0 : Int) x2 (b0 : Int) true) true := by
  have h1 : wrap64 (3 + Int.tmod (n0 : Int) 40) = ((n0 % 40 + 3 : Nat) : Int) := by
    rw [show Int.tmod (n0 : Int) 40 = ((n0 % 40 : Nat) : Int) from rfl, wrap_in _ (by omega)]; omega
  have h2 : wrap64 (1 + Int.tmod (m0 : Int) 40) = ((m0 % 40 + 1 : Nat) : Int) := by
    rw [show Int.tmod (m0 : Int) 40 = ((m0 % 40 : Nat) : Int) from rfl, wrap_in _ (by omega)]; omega
  have h3 : Int.tmod (b0 : Int) 5 = ((b0 % 5 : Nat) : Int) := rfl
  cases x2
  · have := l0_ev (n0 % 40 + 3) (m0 % 40 + 1) (b0 % 5) 96 126 (.inr ⟨rfl, rfl⟩) (by omega) (by omega) (by omega) (by omega) (b0 : Int) h3 (by omega) _ 0 (Nat.zero_add _)
    refine Ev.step (fun k => ?_) (Ev.step (f := fun k => scriptoriumlaw05_LeafFences.l0 k ((n0 % 40 + 3 : Nat) : Int) ((m0 % 40 + 1 : Nat) : Int) (b0 : Int) true (((96 : UInt8).toNat : Nat) : Int) (mkB (List.replicate 0 96)) ((0 : Nat) : Int)) (g := fun k => scriptoriumlaw05_LeafFences.j3 k ((n0 % 40 + 3 : Nat) : Int) ((m0 % 40 + 1 : Nat) : Int) (b0 : Int) true 96) (fun k => ?_) this)
    · show scriptoriumlaw05_LeafFences.j2 (k + 1) _ _ _ _ _ = _
      rw [scriptoriumlaw05_LeafFences.j2, if_neg (by decide), h1, h2]
    · show scriptoriumlaw05_LeafFences.j3 (k + 1) _ _ _ _ _ = _
      rw [scriptoriumlaw05_LeafFences.j3]; rfl
  · have := l0_ev (n0 % 40 + 3) (m0 % 40 + 1) (b0 % 5) 126 96 (.inl ⟨rfl, rfl⟩) (by omega) (by omega) (by omega) (by omega) (b0 : Int) h3 (by omega) _ 0 (Nat.zero_add _)
    refine Ev.step (fun k => ?_) (Ev.step (f := fun k => scriptoriumlaw05_LeafFences.l0 k ((n0 % 40 + 3 : Nat) : Int) ((m0 % 40 + 1 : Nat) : Int) (b0 : Int) true (((126 : UInt8).toNat : Nat) : Int) (mkB (List.replicate 0 126)) ((0 : Nat) : Int)) (g := fun k => scriptoriumlaw05_LeafFences.j3 k ((n0 % 40 + 3 : Nat) : Int) ((m0 % 40 + 1 : Nat) : Int) (b0 : Int) true 126) (fun k => ?_) this)
    · show scriptoriumlaw05_LeafFences.j2 (k + 1) _ _ _ _ _ = _
      rw [scriptoriumlaw05_LeafFences.j2, if_pos rfl, h1, h2]
    · show scriptoriumlaw05_LeafFences.j3 (k + 1) _ _ _ _ _ = _
      rw [scriptoriumlaw05_LeafFences.j3]; rfl
/-- A raw number folded: not below 0. -/
theorem fold_in (a : Int) (h : -9223372036854775808 ≤ a ∧ a ≤ 9223372036854775807) (hn : a < 0) : wrap64 (-(wrap64 (a + 1))) = (((-(a + 1)).toNat : Nat) : Int) := by
  rw [wrap_in (a + 1) (by omega), wrap_in _ (by omega), Int.toNat_of_nonneg (by omega)]
theorem j1_ev (n0 m0 : Nat) (x2 : Bool) (a3 : Int) (h3 : -9223372036854775808 ≤ a3 ∧ a3 ≤ 9223372036854775807) : Ev (fun k => scriptoriumlaw05_LeafFences.j1 k (n0 : Int) (m0 : Int) x2 a3 true) true := by
  by_cases hn : a3 < 0
  · refine Ev.step (fun k => ?_) (j2_ev n0 m0 (-(a3 + 1)).toNat x2)
    show scriptoriumlaw05_LeafFences.j1 (k + 1) _ _ _ _ _ = _
    rw [scriptoriumlaw05_LeafFences.j1, if_pos hn, fold_in a3 h3 hn]
  · refine Ev.step (fun k => ?_) (j2_ev n0 m0 a3.toNat x2)
    show scriptoriumlaw05_LeafFences.j1 (k + 1) _ _ _ _ _ = _
    rw [scriptoriumlaw05_LeafFences.j1, if_neg hn, Int.toNat_of_nonneg (by omega)]
theorem j0_ev (n0 : Nat) (a1 : Int) (x2 : Bool) (a3 : Int) (h1 : -9223372036854775808 ≤ a1 ∧ a1 ≤ 9223372036854775807) (h3 : -9223372036854775808 ≤ a3 ∧ a3 ≤ 9223372036854775807) : Ev (fun k => scriptoriumlaw05_LeafFences.j0 k (n0 : Int) a1 x2 a3 true) true := by
  by_cases hn : a1 < 0
  · refine Ev.step (fun k => ?_) (j1_ev n0 (-(a1 + 1)).toNat x2 a3 h3)
    show scriptoriumlaw05_LeafFences.j0 (k + 1) _ _ _ _ _ = _
    rw [scriptoriumlaw05_LeafFences.j0, if_pos hn, fold_in a1 h1 hn]
  · refine Ev.step (fun k => ?_) (j1_ev n0 a1.toNat x2 a3 h3)
    show scriptoriumlaw05_LeafFences.j0 (k + 1) _ _ _ _ _ = _
    rw [scriptoriumlaw05_LeafFences.j0, if_neg hn, Int.toNat_of_nonneg (by omega)]
theorem pure (a0 : Int) (h0 : -9223372036854775808 ≤ a0 ∧ a0 ≤ 9223372036854775807) (a1 : Int) (h1 : -9223372036854775808 ≤ a1 ∧ a1 ≤ 9223372036854775807) (a2 : Bool) (a3 : Int) (h3 : -9223372036854775808 ≤ a3 ∧ a3 ≤ 9223372036854775807) :
    ∃ k, scriptoriumlaw05_LeafFences.f k a0 a1 a2 a3 = some true := by
  have h : Ev (fun k => scriptoriumlaw05_LeafFences.f k a0 a1 a2 a3) true := by
    refine Ev.bind shown_ev ?_
    by_cases hn : a0 < 0
    · refine Ev.congr (fun k => ?_) (j0_ev (-(a0 + 1)).toNat a1 a2 a3 h1 h3)
      rw [if_pos hn, fold_in a0 h0 hn]
    · refine Ev.congr (fun k => ?_) (j0_ev a0.toNat a1 a2 a3 h1 h3)
      rw [if_neg hn, Int.toNat_of_nonneg (by omega)]
  exact h.rounds
end Go.Proofs.YthdlibgiejpjeaaGreatDoor.LFPure
