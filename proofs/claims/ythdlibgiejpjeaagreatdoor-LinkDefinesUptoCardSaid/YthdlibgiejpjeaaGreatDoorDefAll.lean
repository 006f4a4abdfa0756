import Derived.Test.YthdlibgiejpjeaaGreatDoorLQ
import Derived.Test.YthdlibgiejpjeaaGreatDoorDefPure
import Derived.Test.YthdlibgiejpjeaaGreatDoorDefW
import Derived.Test.YthdlibgiejpjeaaGreatDoorRefPure
/- LinkDefines: the bytes that mean themselves, and six numbers. -/
set_option linter.unusedVariables false
set_option linter.unusedSimpArgs false
namespace Go.Proofs.YthdlibgiejpjeaaGreatDoor.DefW
open Go Go.RowKit Go.Proofs.YthdlibgiejpjeaaGreatDoor Go.Proofs.YthdlibgiejpjeaaGreatDoor.Given Go.Proofs.YthdlibgiejpjeaaGreatDoor.LQ Go.Proofs.YthdlibgiejpjeaaGreatDoorW.PrintWords Go.Proofs.YthdlibgiejpjeaaGreatDoor.Spec Go.Proofs.YthdlibgiejpjeaaGreatDoor.PureAid
theorem plain_int (c : UInt8) : (plainC c = true) ↔ ((97 ≤ (c.toNat : Int) ∧ (c.toNat : Int) ≤ 122) ∨ (48 ≤ (c.toNat : Int) ∧ (c.toNat : Int) ≤ 57) ∨ 128 ≤ (c.toNat : Int)) := by
  unfold plainC
  simp only [Bool.or_eq_true, Bool.and_eq_true, decide_eq_true_eq, UInt8.le_iff_toNat_le]
  show (((97 ≤ c.toNat ∧ c.toNat ≤ 122) ∨ (48 ≤ c.toNat ∧ c.toNat ≤ 57)) ∨ 128 ≤ c.toNat) ↔ _
  omega
theorem plain_l0 (l : List UInt8) (hl : l.length ≤ 1000000000) (M : Nat) (hM : M ≤ 10000) : ∀ (d i : Nat) (p : List UInt8), i + d = l.length → p.length ≤ M → PL p →
    ∃ p', Ev (fun k => scriptoriumlaw06_plain.l0 k (mkB l) (M : Int) (bnums p) (i : Int)) (mkB p') ∧ PL p' ∧ p'.length ≤ M := by
  intro d
  have stop : ∀ (i : Nat) (p : List UInt8), p.length ≤ M → PL p → (l.length ≤ i ∨ M ≤ p.length) → ∃ p', Ev (fun k => scriptoriumlaw06_plain.l0 k (mkB l) (M : Int) (bnums p) (i : Int)) (mkB p') ∧ PL p' ∧ p'.length ≤ M := by
    intro i p hp hP h
    refine ⟨p, Ev.step (f := fun k => scriptoriumlaw06_plain.j1 k (mkB l) (M : Int) (bnums p) (i : Int) false) (fun k => ?_) ⟨1, fun k hk => ?_⟩, hP, hp⟩
    · show scriptoriumlaw06_plain.l0 (k + 1) _ _ _ _ = _
      rw [scriptoriumlaw06_plain.l0]
      by_cases h1 : (i : Int) < ((mkB l).size : Int)
      · rw [if_pos h1, nums_len, decide_eq_false (by rw [mkB_size] at h1; omega)]
      · rw [if_neg h1]
    · obtain ⟨q, rfl⟩ : ∃ q, k = q + 1 := ⟨k - 1, by omega⟩
      show scriptoriumlaw06_plain.j1 (q + 1) _ _ _ _ false = _
      rw [scriptoriumlaw06_plain.j1, if_neg (by decide), nums_str]
  induction d with
  | zero => intro i p hi hp hP; exact stop i p hp hP (.inl (by omega))
  | succ d ih =>
    intro i p hi hp hP
    by_cases hfull : M ≤ p.length
    · exact stop i p hp hP (.inr hfull)
    have hlt : i < l.length := by omega
    obtain ⟨c, r, hr⟩ : ∃ c r, l.drop i = c :: r := ⟨_, _, List.drop_eq_getElem_cons hlt⟩
    have hw1 : wrap64 ((i : Int) + 1) = ((i + 1 : Nat) : Int) := by rw [wrap_in _ (by omega)]; rfl
    have h0 : ∀ k, scriptoriumlaw06_plain.l0 (k + 1) (mkB l) (M : Int) (bnums p) (i : Int) = scriptoriumlaw06_plain.j1 k (mkB l) (M : Int) (bnums p) (i : Int) true := fun k => by
      rw [scriptoriumlaw06_plain.l0, if_pos (by rw [mkB_size]; omega), nums_len, decide_eq_true (by omega)]
    have hsz : (i : Int) < ((mkB l).size : Int) := by rw [mkB_size]; omega
    have hbl : ((bnums p).length : Nat) < 140737488355328 := by rw [nums_len]; omega
    have hpi := plain_int c
    have hbt := bt_drop l i c r hr
    by_cases hc : plainC c = true
    · obtain ⟨p', hev, h1, h2⟩ := ih (i + 1) (p ++ [c]) (by omega) (by rw [List.length_append]; simp only [List.length_singleton]; omega) (fun x hx => by
        rcases List.mem_append.1 hx with hx | hx
        · exact hP x hx
        · rw [List.mem_singleton.1 hx]; exact hc)
      refine ⟨p', Ev.step h0 (Ev.step (fun k => ?_) hev), h1, h2⟩
      show scriptoriumlaw06_plain.j1 (k + 1) _ _ _ _ true = _
      have hci := hpi.1 hc
      rw [scriptoriumlaw06_plain.j1, if_pos rfl, if_pos (by omega), if_pos hsz, hbt, hw1, nums_snoc]
      generalize (c.toNat : Int) = n at *
      repeat' split
      all_goals first | rfl | (exfalso; omega)
    · obtain ⟨p', hev, h1, h2⟩ := ih (i + 1) p (by omega) hp hP
      refine ⟨p', Ev.step h0 (Ev.step (fun k => ?_) hev), h1, h2⟩
      show scriptoriumlaw06_plain.j1 (k + 1) _ _ _ _ true = _
      have hci : ¬ ((97 ≤ (c.toNat : Int) ∧ (c.toNat : Int) ≤ 122) ∨ (48 ≤ (c.toNat : Int) ∧ (c.toNat : Int) ≤ 57) ∨ 128 ≤ (c.toNat : Int)) := fun h => hc (hpi.2 h)
      rw [scriptoriumlaw06_plain.j1, if_pos rfl, if_pos (by omega), if_pos hsz, hbt, hw1]
      generalize (c.toNat : Int) = n at *
      repeat' split
      all_goals first | rfl | (exfalso; omega)
theorem plain_ev (l : List UInt8) (hl : l.length ≤ 1000000000) (M : Nat) (hM : M ≤ 10000) : ∃ p, (∃ k, scriptoriumlaw06_plain.f k (mkB l) (M : Int) = some (mkB p)) ∧ PL p ∧ p.length ≤ M := by
  obtain ⟨p, ⟨k, hk⟩, h1, h2⟩ := plain_l0 l hl M hM l.length 0 [] (by omega) (by simp) (fun x hx => by cases hx)
  exact ⟨p, ⟨k, hk k (Nat.le_refl _)⟩, h1, h2⟩
/-- Six numbers, none below 0. -/
def Six (r : List Int) : Prop := r.length = 6 ∧ ∀ j, 0 ≤ r.getD j 0 ∧ r.getD j 0 ≤ 9223372036854775807
theorem six_step (l : List Int) (hw : ∀ x ∈ l, (Lit.int .i64 x).wf = true) (i : Nat) (hi : i < 6) (x : List Int) (hx : x.length = i) : ∃ v : Int, 0 ≤ v ∧ v ≤ 9223372036854775807 ∧ ∀ k, scriptoriumlaw06_six.l0 (k + 1) l x (i : Int) = scriptoriumlaw06_six.l0 k l (x ++ [v]) ((i + 1 : Nat) : Int) := by
  have hw1 : wrap64 ((i : Int) + 1) = ((i + 1 : Nat) : Int) := by rw [wrap_in _ (by omega)]; rfl
  have hxl : x.length < 17592186044416 := by omega
  by_cases h1 : (i : Int) < (l.length : Int)
  · have hb : -9223372036854775808 ≤ rd l (i : Int) ∧ rd l (i : Int) ≤ 9223372036854775807 := by
      have hm : rd l (i : Int) ∈ l := by
        unfold rd
        rw [Int.toNat_natCast, List.getD_eq_getElem?_getD, List.getElem?_eq_getElem (by omega)]
        exact List.getElem_mem _
      have := hw _ hm
      simp [Lit.wf, IntKind.min, IntKind.max, IntKind.signed, IntKind.bits] at this
      omega
    by_cases h2 : rd l (i : Int) < 0
    · refine ⟨-(rd l (i : Int) + 1), by omega, by omega, fun k => ?_⟩
      rw [scriptoriumlaw06_six.l0, if_pos (by omega), if_pos h1, if_pos (by omega), if_pos h2, if_pos hxl, hw1, wrap_in (rd l (i : Int) + 1) (by omega), wrap_in _ (by omega)]
    · refine ⟨rd l (i : Int), by omega, by omega, fun k => ?_⟩
      rw [scriptoriumlaw06_six.l0, if_pos (by omega), if_pos h1, if_pos (by omega), if_neg h2, if_pos hxl, hw1]
  · refine ⟨0, by omega, by omega, fun k => ?_⟩
    rw [scriptoriumlaw06_six.l0, if_pos (by omega), if_neg h1, if_neg (by decide), if_pos hxl, hw1]
theorem six_ev (l : List Int) (hw : ∀ x ∈ l, (Lit.int .i64 x).wf = true) : ∃ r k, scriptoriumlaw06_six.f k l = some r ∧ Six r := by
  obtain ⟨v0, a0, b0, s0⟩ := six_step l hw 0 (by omega) [] rfl
  obtain ⟨v1, a1, b1, s1⟩ := six_step l hw 1 (by omega) [v0] rfl
  obtain ⟨v2, a2, b2, s2⟩ := six_step l hw 2 (by omega) [v0, v1] rfl
  obtain ⟨v3, a3, b3, s3⟩ := six_step l hw 3 (by omega) [v0, v1, v2] rfl
  obtain ⟨v4, a4, b4, s4⟩ := six_step l hw 4 (by omega) [v0, v1, v2, v3] rfl
  obtain ⟨v5, a5, b5, s5⟩ := six_step l hw 5 (by omega) [v0, v1, v2, v3, v4] rfl
  refine ⟨[v0, v1, v2, v3, v4, v5], 7, ?_, rfl, fun j => ?_⟩
  · unfold scriptoriumlaw06_six.f
    rw [show (0 : Int) = ((0 : Nat) : Int) from rfl, s0 6]
    simp only [List.nil_append, List.cons_append] at s1 s2 s3 s4 s5 ⊢
    rw [s1 5, s2 4, s3 3, s4 2, s5 1]
    rw [scriptoriumlaw06_six.l0, if_neg (by decide)]
  · match j with
    | 0 => exact ⟨a0, b0⟩
    | 1 => exact ⟨a1, b1⟩
    | 2 => exact ⟨a2, b2⟩
    | 3 => exact ⟨a3, b3⟩
    | 4 => exact ⟨a4, b4⟩
    | 5 => exact ⟨a5, b5⟩
    | n + 6 => exact ⟨by simp, by simp⟩
end Go.Proofs.YthdlibgiejpjeaaGreatDoor.DefW

/- LinkDefines: what its calls answer, joined with its walk. -/
set_option linter.unusedVariables false
set_option linter.unusedSimpArgs false
namespace Go.Proofs.YthdlibgiejpjeaaGreatDoor.DefW
open Go Go.RowKit Go.Proofs.YthdlibgiejpjeaaGreatDoor Go.Proofs.YthdlibgiejpjeaaGreatDoor.Given Go.Proofs.YthdlibgiejpjeaaGreatDoorW.PrintWords Go.Proofs.YthdlibgiejpjeaaGreatDoor.Spec Go.Proofs.YthdlibgiejpjeaaGreatDoor.PureAid Go.Proofs.YthdlibgiejpjeaaGreatDoor.LN Go.Proofs.YthdlibgiejpjeaaGreatDoor.LQ Go.Proofs.YthdlibgiejpjeaaGreatDoor.RefPure
theorem shown_f : scriptoriumlaw06_shown.f = some true := by decide +kernel
theorem refFold_calls (l : List UInt8) (hl : l.length ≤ 1000000000) (W : World) (hG : GW W) : Calls Tryz.prog 46 #[.string (mkB l)] W fun e w' => e = .returned (.string (mkB (Fold.fold l))) ∧ Below W.heap.size W w' :=
  scriptoriumref01_Fold.calls _ _ _ W hG (fold_f l hl (l.length + 9) (Nat.le_refl _))
/-- What is left of a number. -/
theorem rem_of (z : Int) (m : Nat) (hm : 0 < m) (h0 : 0 ≤ z) : ∃ r : Nat, Int.tmod z (m : Int) = (r : Int) ∧ r < m := by
  refine ⟨(z % (m : Int)).toNat, ?_, ?_⟩
  · rw [Int.tmod_eq_emod_of_nonneg h0]
    have := Int.emod_nonneg z (b := (m : Int)) (by omega)
    omega
  · have := Int.emod_nonneg z (b := (m : Int)) (by omega)
    have := Int.emod_lt_of_pos z (b := (m : Int)) (by omega)
    omega
theorem pick_of (L : List (List UInt8)) (r : Nat) (h : r < L.length) : (L.map fun x => Value.string (mkB x)).toArray[r]? = some (.string (mkB (pick L r))) := by
  rw [List.getElem?_toArray, List.getElem?_map, List.getElem?_eq_getElem h]
  show some (Value.string (mkB _)) = some (Value.string (mkB (L.getD r [])))
  rw [List.getD_eq_getElem?_getD, List.getElem?_eq_getElem h]; rfl
theorem pick_len (L : List (List UInt8)) (r n : Nat) (h : ∀ x ∈ L, x.length ≤ n) : (pick L r).length ≤ n := by
  unfold pick
  rw [List.getD_eq_getElem?_getD]
  cases hx : L[r]? with
  | none => exact Nat.zero_le _
  | some x => exact h x (List.mem_of_getElem? hx)
theorem at_six (w : World) (base : Nat) (ok : Nat → Prop) (v : Value) (r : List Int) (h : Kd.R (Kd.int .i64) 3 w base ok v r) (h6 : r.length = 6) :
    ∃ b cp, v = .slice (some ⟨b, 0, none⟩) 6 cp ∧ At6 b (r.getD 0 0) (r.getD 1 0) (r.getD 2 0) (r.getD 3 0) (r.getD 4 0) (r.getD 5 0) w := by
  obtain ⟨ad, c, rfl⟩ := Kd.R_slice1 h (by omega)
  obtain ⟨g, rfl⟩ := Kd.R_head h
  have hC := (Kd.R_reads' h).2.2
  rw [h6] at hC h ⊢
  have at' : ∀ i : Nat, i < 6 → w.cell? ⟨g, i, none⟩ = some (.int .i64 (r.getD i 0)) := fun i hi => by
    obtain ⟨ad, e, hx⟩ := Kd.at_int hC (i : Int) (by omega) (by omega)
    injection e with e
    subst e
    unfold rd at hx
    rw [Int.toNat_natCast] at hx
    have ha : (⟨g, 0, none⟩ : Addr).add i = ⟨g, i, none⟩ := by unfold Addr.add; simp; exact fun h => h.symm
    rw [ha] at hx
    exact hx
  exact ⟨g, c, rfl, at' 0 (by omega), at' 1 (by omega), at' 2 (by omega), at' 3 (by omega), at' 4 (by omega), at' 5 (by omega)⟩
theorem ap2 (a b : List UInt8) : mkB a ++ mkB b = mkB (a ++ b) := mkB_append a b
theorem nil_iff (t : List UInt8) : mkB t = ⟨#[]⟩ ↔ t = [] := by
  constructor
  · intro h
    have := congrArg (fun z : ByteArray => z.data.toList) h
    simpa [mkB_data] using this
  · rintro rfl; rfl
theorem defines_calls (x0 x1 x2 : List UInt8) (h0 : x0.length ≤ 2000000) (h1 : x1.length ≤ 2000000) (h2 : x2.length ≤ 2000000) (ga : Option Addr) (gc : Nat) (gl : List Int) (hw : ∀ x ∈ gl, (Lit.int .i64 x).wf = true) (hgc : gl.length ≤ gc)
    (w : World) (hr : Kd.C (Kd.int .i64) w ga gl.length gl) (hG : GW w) :
    Calls Tryz.prog 17 #[.string (mkB x0), .string (mkB x1), .string (mkB x2), .slice ga gl.length gc] w fun e w' => e = .returned (.bool true) ∧ Below w.heap.size w w' := by
  obtain ⟨p, ⟨kp, hkp⟩, pP, pl⟩ := plain_ev x0 (by omega) 100 (by omega)
  obtain ⟨d, ⟨kd, hkd⟩, dP, dl⟩ := plain_ev x1 (by omega) 300 (by omega)
  obtain ⟨t, ⟨kt, hkt⟩, tP, tl⟩ := plain_ev x2 (by omega) 300 (by omega)
  obtain ⟨r, ks, hks, r6, rb⟩ := six_ev gl hw
  obtain ⟨n0, e0, u0⟩ := rem_of (r.getD 0 0) 3 (by omega) (rb 0).1
  obtain ⟨n1, e1, u1⟩ := rem_of (r.getD 1 0) 4 (by omega) (rb 1).1
  obtain ⟨n2, e2, u2⟩ := rem_of (r.getD 2 0) 2 (by omega) (rb 2).1
  obtain ⟨n3, e3, u3⟩ := rem_of (r.getD 3 0) 3 (by omega) (rb 3).1
  obtain ⟨n4, e4, u4⟩ := rem_of (r.getD 4 0) 3 (by omega) (rb 4).1
  obtain ⟨n5, e5, u5⟩ := rem_of (r.getD 5 0) 3 (by omega) (rb 5).1
  have q0 := pick_len front n0 5 (by decide)
  have q1 := pick_len gap1 n1 5 (by decide)
  have q2 := pick_len (places (100 :: d)) n2 310 (by
    intro x hx
    simp only [places, List.mem_cons, List.not_mem_nil, or_false] at hx
    rcases hx with rfl | rfl
    · simp only [List.length_cons]; omega
    · simp only [List.length_cons, List.length_append, List.length_nil]; omega)
  have q3 := pick_len gap2 n3 5 (by decide)
  have q4 := pick_len (titles t) n4 310 (by
    intro x hx
    simp only [titles, List.mem_cons, List.not_mem_nil, or_false] at hx
    rcases hx with rfl | rfl | rfl <;> (simp only [List.length_cons, List.length_append, List.length_nil]; omega))
  have q5 := pick_len ends n5 5 (by decide)
  obtain ⟨s1, hs1⟩ : ∃ s1, pick front n0 ++ (91 :: ((108 :: p) ++ 93 :: 58 :: (pick gap1 n1 ++ pick (places (100 :: d)) n2))) = s1 := ⟨_, rfl⟩
  obtain ⟨s2, hs2⟩ : ∃ s2, s1 ++ (if t = [] then [] else pick gap2 n3 ++ pick (titles t) n4) = s2 := ⟨_, rfl⟩
  obtain ⟨s3, hs3⟩ : ∃ s3, s2 ++ pick ends n5 = s3 := ⟨_, rfl⟩
  have htext : s3 = textOf n0 n1 n2 n3 n4 n5 (108 :: p) (100 :: d) t := by
    rw [← hs3, ← hs2, ← hs1]
    unfold textOf behindOf
    simp only [List.append_assoc, List.cons_append]
  have l1 : s1.length ≤ 5 + 1 + 101 + 2 + 5 + 310 := by
    rw [← hs1]; simp only [List.length_append, List.length_cons]; omega
  have l2 : s2.length ≤ s1.length + 315 := by
    rw [← hs2, List.length_append]
    split
    · simp
    · rw [List.length_append]; omega
  have l3 : s3.length ≤ s2.length + 5 := by rw [← hs3, List.length_append]; omega
  have r1 := text_read n0 n1 n2 n3 n4 n5 u0 u1 u2 u3 u4 u5 p d t [] pP (by omega) dP tP (.inl rfl)
  have r2 := text_read n0 n1 n2 n3 n4 n5 u0 u1 u2 u3 u4 u5 p d t more pP (by omega) dP tP (.inr rfl)
  rw [← htext] at r1 r2
  rw [List.append_nil] at r1
  refine defines_core (mkB x0) (mkB x1) (mkB x2) (mkB p) (mkB d) (mkB t) (mkB (pick front n0)) (mkB (pick gap1 n1)) (mkB (pick (places (100 :: d)) n2)) (mkB (pick gap2 n3)) (mkB (pick (titles t) n4)) (mkB (pick ends n5)) (mkB s1) (mkB s2) (mkB s3) (mkB (Fold.fold (108 :: p)))
    ga gl.length gc (r.getD 0 0) (r.getD 1 0) (r.getD 2 0) (r.getD 3 0) (r.getD 4 0) (r.getD 5 0) n0 n1 n2 n3 n4 n5 w hG
    (fun W hW => scriptoriumlaw06_shown.calls true W hW shown_f)
    (fun W hW => scriptoriumlaw06_plain.calls kp _ _ _ W hW hkp)
    (fun W hW => scriptoriumlaw06_plain.calls kd _ _ _ W hW hkd)
    (fun W hW => scriptoriumlaw06_plain.calls kt _ _ _ W hW hkt)
    (fun W hW hB => ?_)
    e0 e1 e2 e3 e4 e5 u0 u1 u2 u3 u4 u5
    (pick_of front n0 u0) (pick_of gap1 n1 u1) ?_ (pick_of gap2 n3 u3) ?_ (pick_of ends n5 u5)
    ?_ ?_ ?_ ?_ (fun W hW => ?_) (fun W hW => ?_) (fun W hW => ?_)
    (by rw [mkB_size]; omega) (by rw [mkB_size]; omega) (by rw [mkB_size]; omega) (by rw [mkB_size]; omega) (by rw [mkB_size]; omega) (by rw [mkB_size]; omega) (by rw [mkB_size]; omega) (by rw [mkB_size]; omega) (by rw [mkB_size]; omega)
    (by rw [mkB_size]; omega) (by rw [mkB_size]; omega) (by rw [mkB_size]; omega)
  · refine (scriptoriumlaw06_six.calls ks ga gc gl r W (Kd.C_below hr hB) hgc hW hks).mono ?_
    rintro e w' ⟨v, rfl, hR, hb⟩
    obtain ⟨b, cp, rfl, h6⟩ := at_six w' _ _ v r hR r6
    exact ⟨b, cp, rfl, h6, hb⟩
  · have h := pick_of (places (100 :: d)) n2 u2
    have a1 : (⟨#[100]⟩ : ByteArray) ++ mkB d = mkB (100 :: d) := ap2 [100] d
    have a2 : ((⟨#[60]⟩ : ByteArray) ++ mkB (100 :: d)) ++ (⟨#[62]⟩ : ByteArray) = mkB (60 :: ((100 :: d) ++ [62])) := by
      show (mkB [60] ++ mkB (100 :: d)) ++ mkB [62] = _
      rw [ap2, ap2]; simp
    rw [a1, a2]; exact h
  · have h := pick_of (titles t) n4 u4
    have a2 : ∀ x y : UInt8, (mkB [x] ++ mkB t) ++ mkB [y] = mkB (x :: (t ++ [y])) := fun x y => by rw [ap2, ap2]; simp
    have b1 : ((⟨#[34]⟩ : ByteArray) ++ mkB t) ++ (⟨#[34]⟩ : ByteArray) = mkB (34 :: (t ++ [34])) := a2 34 34
    have b2 : ((⟨#[39]⟩ : ByteArray) ++ mkB t) ++ (⟨#[39]⟩ : ByteArray) = mkB (39 :: (t ++ [39])) := a2 39 39
    have b3 : ((⟨#[40]⟩ : ByteArray) ++ mkB t) ++ (⟨#[41]⟩ : ByteArray) = mkB (40 :: (t ++ [41])) := a2 40 41
    rw [b1, b2, b3]; exact h
  · show ((((mkB (pick front n0) ++ mkB [91]) ++ (mkB [108] ++ mkB p)) ++ mkB [93, 58]) ++ mkB (pick gap1 n1)) ++ mkB (pick (places (100 :: d)) n2) = mkB s1
    rw [← hs1, ap2, ap2, ap2, ap2, ap2, ap2]
    congr 1
    simp
  · intro h
    rw [nil_iff] at h
    rw [← hs2, if_pos h, List.append_nil]
  · intro h
    rw [Ne, nil_iff] at h
    rw [← hs2, if_neg h, ap2, ap2, List.append_assoc]
  · rw [ap2, hs3]
  · have h := defineG_calls s3 W hW (by omega)
    rw [r1] at h
    rw [mkB_size, show (⟨#[100]⟩ : ByteArray) ++ mkB d = mkB (100 :: d) from ap2 [100] d]
    exact h
  · have h := defineG_calls (s3 ++ more) W hW (by rw [List.length_append]; show s3.length + 5 ≤ _; omega)
    rw [r2] at h
    have hl : (s3 ++ more).length - (more.drop 1).length = s3.length + 1 := by rw [List.length_append]; show s3.length + 5 - 4 = _; omega
    rw [hl] at h
    rw [mkB_size, show (⟨#[100]⟩ : ByteArray) ++ mkB d = mkB (100 :: d) from ap2 [100] d, show mkB s3 ++ (⟨#[10, 109, 111, 114, 101]⟩ : ByteArray) = mkB (s3 ++ more) from ap2 s3 more]
    exact h
  · have h := refFold_calls (108 :: p) (by simp only [List.length_cons]; omega) W hW
    rw [show (⟨#[108]⟩ : ByteArray) ++ mkB p = mkB (108 :: p) from ap2 [108] p]
    exact h
end Go.Proofs.YthdlibgiejpjeaaGreatDoor.DefW

