/- The contracts of leaf.behind and leaf.Marker. -/
import Derived.Test.YthdlibgiejpjeaaGreatDoorGiven4
import Derived.Test.YthdlibgiejpjeaaGreatDoorUnescape
import Derived.Test.YthdlibgiejpjeaaGreatDoorShelfB
import Derived.Lib.IndexAny
set_option linter.unusedVariables false
set_option linter.unusedSimpArgs false
namespace Go.Proofs.YthdlibgiejpjeaaGreatDoor.Spec
/-- leaf.behind. -/
def behind : List UInt8 → Bool
  | [] => true
  | c :: _ => ([32, 9] : List UInt8).contains c
def isNum (c : UInt8) : Bool := ([48, 49, 50, 51, 52, 53, 54, 55, 56, 57] : List UInt8).contains c
def marksOf (ds : List UInt8) : List UInt8 := if ds = [] then [45, 43, 42] else [46, 41]
/-- leaf.Marker: the byte, how long it is with its number, the number. -/
def marker (l : List UInt8) : Nat × Nat × Nat :=
  let ds := l.takeWhile isNum
  match l.drop ds.length with
  | [] => (0, 0, 0)
  | c :: r => if 9 < ds.length ∨ (marksOf ds).contains c = false ∨ behind r = false then (0, 0, 0) else (c.toNat, ds.length + 1, value 10 ds)
end Go.Proofs.YthdlibgiejpjeaaGreatDoor.Spec
namespace Go.Proofs.YthdlibgiejpjeaaGreatDoor.Given
open Go.RowKit Go.Proofs.YthdlibgiejpjeaaGreatDoor Go.Proofs.YthdlibgiejpjeaaGreatDoorW.PrintWords Go.Proofs.YthdlibgiejpjeaaGreatDoor.Spec

theorem ixb (cs : List UInt8) (c : UInt8) (w : World) (hG : GW w) : Calls Tryz.prog 52 #[.string ⟨cs.toArray⟩, .int .u8 (c.toNat : Int)] w fun e w' => e = .returned (.int .i64 (Lib.indexByte cs c)) ∧ Drawn0 w w' := by
  have h := strings_IndexByte.calls ⟨cs.toArray⟩ (c.toNat : Int) _ w hG rfl
  rw [show ((c.toNat : Int).toNat.toUInt8) = c by simp] at h
  exact h

set_option maxHeartbeats 4000000 in
theorem behind_calls (l : List UInt8) (w : World) (hG : GW w) :
    Calls Tryz.prog 69 #[.string (mkB l)] w fun e w' => e = .returned (.bool (behind l)) ∧ Below w.heap.size w w' := by
  cases l with
  | nil =>
    have hem : (mkB []).toList.isEmpty = true := by rw [Lib.toList_data]; rfl
    go_enter Tryz.func69, Tryz.ntmps69
    go_wp2
    go_ret
    exact ⟨rfl, Below.refl _ _⟩
  | cons c r =>
    have hem : (mkB (c :: r)).toList.isEmpty = false := by rw [Lib.toList_data]; rfl
    have hem2 : ¬ (mkB (c :: r)).toList = [] := by rw [Lib.toList_data]; simp [mkB]
    have hpos : 0 < (mkB (c :: r)).size := by rw [mkB_size]; simp
    have hc0 : (mkB (c :: r))[0]'hpos = c := rfl
    have hI := Lib.hid (fun W hW => ixb [32, 9] c W hW)
    have hb := Lib.hid (Lib.contains_iff_indexByte [32, 9] c)
    go_enter Tryz.func69, Tryz.ntmps69
    go_wp2_with fail
    refine (hI.out _ hG).mono ?_
    rintro e w1 ⟨rfl, ⟨nd, rfl⟩⟩
    go_wp2
    go_ret
    refine ⟨?_, GW.drewN_below w nd⟩
    show Ending.returned (.bool _) = .returned (.bool (([32, 9] : List UInt8).contains c))
    rw [hb.out]

theorem dropWhile_take (p : UInt8 → Bool) (l : List UInt8) : l.dropWhile p = l.drop (l.takeWhile p).length := by
  have h := List.takeWhile_append_dropWhile (p := p) (l := l)
  conv => rhs; rw [← h]
  rw [List.drop_left' (by rw [h])]
theorem num_digit : ∀ c : UInt8, isNum c = true → digit c < 10 := by
  intro c h
  have : ∀ c : Fin 256, isNum c.val.toUInt8 = true → digit c.val.toUInt8 < 10 := by decide +kernel
  have h2 := this ⟨c.toNat, c.toNat_lt⟩
  simp only [show c.toNat.toUInt8 = c by simp] at h2
  exact h2 h
theorem decFrom_dig (l : List UInt8) (h : ∀ c ∈ l, isNum c = true) : ∀ acc, Lib.decFrom acc l = some (l.foldl (fun n c => 10 * n + digit c) acc) := by
  induction l with
  | nil => intro acc; rfl
  | cons c r ih =>
    intro acc
    have hd : Lib.digitVal c = some (digit c) := by
      have : ∀ c : Fin 256, isNum c.val.toUInt8 = true → Lib.digitVal c.val.toUInt8 = some (digit c.val.toUInt8) := by decide +kernel
      have h2 := this ⟨c.toNat, c.toNat_lt⟩
      simp only [show c.toNat.toUInt8 = c by simp] at h2
      exact h2 (h c List.mem_cons_self)
    unfold Lib.decFrom
    rw [hd]
    dsimp only
    rw [ih (fun x hx => h x (List.mem_cons_of_mem _ hx)), List.foldl_cons, Nat.mul_comm acc 10]
theorem atoi_dig (l : List UInt8) (h : ∀ c ∈ l, isNum c = true) (hne : l ≠ []) : Lib.atoi l = some ((value 10 l : Nat) : Int) := by
  cases l with
  | nil => exact absurd rfl hne
  | cons c r =>
    have hc : ∀ c : Fin 256, isNum c.val.toUInt8 = true → (c.val.toUInt8 == 45) = false ∧ (c.val.toUInt8 == 43) = false := by decide +kernel
    have h2 := hc ⟨c.toNat, c.toNat_lt⟩
    simp only [show c.toNat.toUInt8 = c by simp] at h2
    obtain ⟨h45, h43⟩ := h2 (h c List.mem_cons_self)
    unfold Lib.atoi
    simp only [h45, h43, Bool.false_eq_true, if_false]
    unfold Lib.decNat
    rw [if_neg (by simp), decFrom_dig (c :: r) h 0]
    rfl
/-- strconv.Atoi of a row of digits, or of nothing: the number (or 0), and some error. -/
theorem atoi_calls (ds : List UInt8) (w : World) (hG : GW w) (h : ∀ c ∈ ds, isNum c = true) (hl : ds.length ≤ 9) :
    Calls Tryz.prog 81 #[.string (mkB ds)] w fun e w' => ∃ v, e = .returned (.tuple #[.int .i64 ((value 10 ds : Nat) : Int), v]) ∧ Below w.heap.size w w' := by
  by_cases hne : ds = []
  · subst hne
    obtain ⟨ev, h1, h2⟩ := hG.es
    refine (Tryz.strconv_Atoi_syntax (mkB []) (by show 0 ≤ 281474976710656; omega) rfl ev w h1 h2).mono ?_
    rintro e w' ⟨N, rfl, _, _, hb⟩
    exact ⟨_, rfl, hb⟩
  · refine (Tryz.strconv_Atoi (mkB ds) _ (by rw [mkB_size]; omega) (by rw [mkB_data]; exact atoi_dig ds h hne) w).mono ?_
    rintro e w' ⟨rfl, t, rfl⟩
    exact ⟨_, rfl, Lib.bytesWorld_below _ _ _⟩

set_option maxHeartbeats 8000000 in
set_option maxRecDepth 1000000 in
theorem marker_calls (l : List UInt8) (w : World) (hG : GW w) (hl : l.length < 4294967281) :
    Calls Tryz.prog 36 #[.string (mkB l)] w fun e w' => e = .returned (.tuple #[.int .u8 ((marker l).1 : Nat), .int .i64 ((marker l).2.1 : Nat), .int .i64 ((marker l).2.2 : Nat)]) ∧ Below w.heap.size w w' := by
  obtain ⟨total, htot⟩ : ∃ total, total = marker l := ⟨_, rfl⟩
  rw [← htot]
  have hdig : ∀ c ∈ l.takeWhile isNum, isNum c = true := fun c hc => List.all_eq_true.1 List.all_takeWhile c hc
  have hn : (l.takeWhile isNum).length ≤ l.length := (List.takeWhile_sublist _).length_le
  have hdt : l.take (l.takeWhile isNum).length = l.takeWhile isNum := (List.prefix_iff_eq_take.1 (List.takeWhile_prefix _)).symm
  have hT := strings_TrimLeft.calls (mkB l) ⟨#[48, 49, 50, 51, 52, 53, 54, 55, 56, 57]⟩ (mkB (l.drop (l.takeWhile isNum).length)) w hG (by
    unfold strings_TrimLeft.f; rw [if_pos ⟨by show 10 < 4294967281; omega, by rfl⟩]
    have := dropWhile_take isNum l
    show some (mkB (Lib.trimLeftS l [48, 49, 50, 51, 52, 53, 54, 55, 56, 57])) = _
    rw [← this]; rfl)
  unfold marker at htot
  dsimp only at htot
  generalize hds : l.takeWhile isNum = ds at *
  have hds' := Lib.hid hds; clear hds
  have hLs := Lib.hid (mkB_size l)
  have hs1 : ∀ W, (Instr.slice 9 (.string (mkB l)) none (some (.int .i64 (((mkB l).size : Int) - ((mkB (l.drop ds.length)).size : Int)))) none).run Tryz.prog W = .ok (.string (mkB ds)) W := fun W => by
    rw [show ((mkB l).size : Int) - ((mkB (l.drop ds.length)).size : Int) = (ds.length : Int) by rw [mkB_size, mkB_size, List.length_drop]; omega, sl_to l ds.length hn W, hdt]
  have hs2 : ∀ W, (Instr.slice 9 (.string (mkB l)) (some (.int .i64 ((mkB ds).size : Int))) none none).run Tryz.prog W = .ok (.string (mkB (l.drop ds.length))) W := fun W => by
    rw [mkB_size]; exact sl_from l ds.length hn W
  have hXle : (mkB (l.drop ds.length)).size ≤ (mkB l).size := by rw [mkB_size, mkB_size, List.length_drop]; omega
  have hLle : (mkB l).size ≤ 4294967281 := by rw [mkB_size]; omega
  have hDle : (mkB ds).size ≤ 4294967281 := by rw [mkB_size]; omega
  have hT' := Lib.hid hT; clear hT
  have hA := Lib.hid (fun W hW hl9 => atoi_calls ds W hW hdig hl9)
  have hGh := Lib.hid hG; clear hG
  have hdig' := Lib.hid hdig; clear hdig
  have hdt' := Lib.hid hdt; clear hdt
  have hDs := Lib.hid (mkB_size ds)
  have htot' := Lib.hid htot; clear htot
  by_cases hne : ds = []
  · have hmk' := Lib.hid (show marksOf ds = [45, 43, 42] by unfold marksOf; rw [if_pos hne])
    have hd1 : (mkB ds).toList.isEmpty = true := by rw [Lib.toList_data, hne]; rfl
    have hd2 : (mkB ds).toList = [] := by rw [Lib.toList_data, hne]; rfl
    have hne' := Lib.hid hne; clear hne
    cases hX : l.drop ds.length with
    | nil =>
      rw [hX] at hT' hs2 hXle hs1
      have hx1 : (mkB []).toList.isEmpty = true := by rw [Lib.toList_data]; rfl
      have htt : Hid (total = (0, 0, 0)) := Lib.hid (by rw [htot'.out, hX])
      clear hX htot'
      generalize hXB : mkB [] = XB at *
      have hXB' := Lib.hid hXB; clear hXB
      go_enter Tryz.func36, Tryz.ntmps36
      go_wp2_with fail
      refine hT'.out.mono ?_
      rintro e W1 ⟨rfl, hb1⟩
      go_wp2
      go_ret3
      exact ⟨by rw [htt.out]; rfl, hb1⟩
    | cons c r =>
      rw [hX] at hT' hs2 hXle hs1
      have hx1 : (mkB (c :: r)).toList.isEmpty = false := by rw [Lib.toList_data]; rfl
      have hx2 : ¬ (mkB (c :: r)).toList = [] := by rw [Lib.toList_data]; simp [mkB]
      have hpos : 0 < (mkB (c :: r)).size := by rw [mkB_size]; simp
      have hc0 : (mkB (c :: r))[0]'hpos = c := rfl
      have hs3 : ∀ W, (Instr.slice 9 (.string (mkB (c :: r))) (some (.int .i64 1)) none none).run Tryz.prog W = .ok (.string (mkB r)) W := fun W => sl_from (c :: r) 1 (by simp) W
      have htt : Hid (total = if 9 < ds.length ∨ ([45, 43, 42] : List UInt8).contains c = false ∨ behind r = false then (0, 0, 0) else (c.toNat, ds.length + 1, value 10 ds)) := Lib.hid (by rw [htot'.out, hX]; show (if 9 < ds.length ∨ (marksOf ds).contains c = false ∨ behind r = false then _ else _) = _; rw [hmk'.out])
      have hI := Lib.hid (fun W hW => ixb [45, 43, 42] c W hW)
      have hcont := Lib.contains_iff_indexByte [45, 43, 42] c
      generalize hix : Lib.indexByte [45, 43, 42] c = ix at *
      have hcont' := Lib.hid hcont; clear hcont
      have hix' := Lib.hid hix; clear hix
      have hbc := Lib.hid (fun W hW => behind_calls r W hW)
      clear hX htot' hmk'
      generalize hbe : behind r = be at *
      have hbe' := Lib.hid hbe; clear hbe
      generalize hXB : mkB (c :: r) = XB at *
      have hXB' := Lib.hid hXB; clear hXB
      generalize hRB : mkB r = RB at *
      have hRB' := Lib.hid hRB; clear hRB
      by_cases h9 : 9 < (mkB ds).size
      · have h9i : decide ((9 : Int) < ((mkB ds).size : Int)) = true := by simp; omega
        go_enter Tryz.func36, Tryz.ntmps36
        go_wp2_with fail
        refine hT'.out.mono ?_
        rintro e W1 ⟨rfl, hb1⟩
        go_wp2
        go_ret3
        exact ⟨by rw [htt.out, if_pos (.inl (by have := hDs.out; omega))]; rfl, hb1⟩
      · have h9i : decide ((9 : Int) < ((mkB ds).size : Int)) = false := by simp; omega
        have h9' := Lib.hid h9; clear h9
        by_cases hi : ix < 0
        · have hii : decide (ix < 0) = true := by simpa using hi
          go_enter Tryz.func36, Tryz.ntmps36
          go_wp2_with fail
          refine hT'.out.mono ?_
          rintro e W1 ⟨rfl, hb1⟩
          go_wp2_with fail
          refine (hI.out W1 (hGh.out.below hb1)).mono ?_
          rintro e w1 ⟨rfl, ⟨nd, rfl⟩⟩
          have hb2 := hb1.trans ((GW.drewN_below W1 nd).mono hb1.size)
          go_wp2
          go_ret3
          exact ⟨by rw [htt.out, if_pos (.inr (.inl (by rw [hcont'.out]; simp; omega)))]; rfl, hb2⟩
        · have hii : decide (ix < 0) = false := by simpa using hi
          have hi2 : 0 ≤ ix := by omega
          cases be
          · go_enter Tryz.func36, Tryz.ntmps36
            go_wp2_with fail
            refine hT'.out.mono ?_
            rintro e W1 ⟨rfl, hb1⟩
            go_wp2_with fail
            refine (hI.out W1 (hGh.out.below hb1)).mono ?_
            rintro e w1 ⟨rfl, ⟨nd, rfl⟩⟩
            have hb2 := hb1.trans ((GW.drewN_below W1 nd).mono hb1.size)
            go_wp2_with fail
            refine (hbc.out _ (hGh.out.below hb2)).mono ?_
            rintro e W2 ⟨rfl, hb3⟩
            have hb4 := hb2.trans (hb3.mono hb2.size)
            go_wp2
            go_ret3
            exact ⟨by rw [htt.out, if_pos (.inr (.inr (by simp)))]; rfl, hb4⟩
          · go_enter Tryz.func36, Tryz.ntmps36
            go_wp2_with fail
            refine hT'.out.mono ?_
            rintro e W1 ⟨rfl, hb1⟩
            go_wp2_with fail
            refine (hI.out W1 (hGh.out.below hb1)).mono ?_
            rintro e w1 ⟨rfl, ⟨nd, rfl⟩⟩
            have hb2 := hb1.trans ((GW.drewN_below W1 nd).mono hb1.size)
            go_wp2_with fail
            refine (hbc.out _ (hGh.out.below hb2)).mono ?_
            rintro e W2 ⟨rfl, hb3⟩
            have hb4 := hb2.trans (hb3.mono hb2.size)
            go_wp2_with fail
            refine (hA.out W2 (hGh.out.below hb4) (by have := hDs.out; have := h9'.out; omega)).mono ?_
            rintro e W3 ⟨v, rfl, hb5⟩
            have hb6 := hb4.trans (hb5.mono hb4.size)
            go_wp2
            go_ret3
            refine ⟨?_, hb6⟩
            rw [htt.out, if_neg (by
              rintro (h | h | h)
              · have := hDs.out; have := h9'.out; omega
              · rw [hcont'.out] at h; simp at h; omega
              · cases h)]
            show Ending.returned (.tuple #[_, .int .i64 (((mkB ds).size : Int) + 1), _]) = _
            rw [hDs.out]; rfl
  · have hmk' := Lib.hid (show marksOf ds = [46, 41] by unfold marksOf; rw [if_neg hne])
    have hd1 : (mkB ds).toList.isEmpty = false := by
      rw [Lib.toList_data, mkB_data]
      cases ds with
      | nil => exact absurd rfl hne
      | cons a b => rfl
    have hd2 : ¬ (mkB ds).toList = [] := by rw [Lib.toList_data]; exact hne
    have hne' := Lib.hid hne; clear hne
    cases hX : l.drop ds.length with
    | nil =>
      rw [hX] at hT' hs2 hXle hs1
      have hx1 : (mkB []).toList.isEmpty = true := by rw [Lib.toList_data]; rfl
      have htt : Hid (total = (0, 0, 0)) := Lib.hid (by rw [htot'.out, hX])
      clear hX htot'
      generalize hXB : mkB [] = XB at *
      have hXB' := Lib.hid hXB; clear hXB
      go_enter Tryz.func36, Tryz.ntmps36
      go_wp2_with fail
      refine hT'.out.mono ?_
      rintro e W1 ⟨rfl, hb1⟩
      go_wp2
      go_ret3
      exact ⟨by rw [htt.out]; rfl, hb1⟩
    | cons c r =>
      rw [hX] at hT' hs2 hXle hs1
      have hx1 : (mkB (c :: r)).toList.isEmpty = false := by rw [Lib.toList_data]; rfl
      have hx2 : ¬ (mkB (c :: r)).toList = [] := by rw [Lib.toList_data]; simp [mkB]
      have hpos : 0 < (mkB (c :: r)).size := by rw [mkB_size]; simp
      have hc0 : (mkB (c :: r))[0]'hpos = c := rfl
      have hs3 : ∀ W, (Instr.slice 9 (.string (mkB (c :: r))) (some (.int .i64 1)) none none).run Tryz.prog W = .ok (.string (mkB r)) W := fun W => sl_from (c :: r) 1 (by simp) W
      have htt : Hid (total = if 9 < ds.length ∨ ([46, 41] : List UInt8).contains c = false ∨ behind r = false then (0, 0, 0) else (c.toNat, ds.length + 1, value 10 ds)) := Lib.hid (by rw [htot'.out, hX]; show (if 9 < ds.length ∨ (marksOf ds).contains c = false ∨ behind r = false then _ else _) = _; rw [hmk'.out])
      have hI := Lib.hid (fun W hW => ixb [46, 41] c W hW)
      have hcont := Lib.contains_iff_indexByte [46, 41] c
      generalize hix : Lib.indexByte [46, 41] c = ix at *
      have hcont' := Lib.hid hcont; clear hcont
      have hix' := Lib.hid hix; clear hix
      have hbc := Lib.hid (fun W hW => behind_calls r W hW)
      clear hX htot' hmk'
      generalize hbe : behind r = be at *
      have hbe' := Lib.hid hbe; clear hbe
      generalize hXB : mkB (c :: r) = XB at *
      have hXB' := Lib.hid hXB; clear hXB
      generalize hRB : mkB r = RB at *
      have hRB' := Lib.hid hRB; clear hRB
      by_cases h9 : 9 < (mkB ds).size
      · have h9i : decide ((9 : Int) < ((mkB ds).size : Int)) = true := by simp; omega
        go_enter Tryz.func36, Tryz.ntmps36
        go_wp2_with fail
        refine hT'.out.mono ?_
        rintro e W1 ⟨rfl, hb1⟩
        go_wp2
        go_ret3
        exact ⟨by rw [htt.out, if_pos (.inl (by have := hDs.out; omega))]; rfl, hb1⟩
      · have h9i : decide ((9 : Int) < ((mkB ds).size : Int)) = false := by simp; omega
        have h9' := Lib.hid h9; clear h9
        by_cases hi : ix < 0
        · have hii : decide (ix < 0) = true := by simpa using hi
          go_enter Tryz.func36, Tryz.ntmps36
          go_wp2_with fail
          refine hT'.out.mono ?_
          rintro e W1 ⟨rfl, hb1⟩
          go_wp2_with fail
          refine (hI.out W1 (hGh.out.below hb1)).mono ?_
          rintro e w1 ⟨rfl, ⟨nd, rfl⟩⟩
          have hb2 := hb1.trans ((GW.drewN_below W1 nd).mono hb1.size)
          go_wp2
          go_ret3
          exact ⟨by rw [htt.out, if_pos (.inr (.inl (by rw [hcont'.out]; simp; omega)))]; rfl, hb2⟩
        · have hii : decide (ix < 0) = false := by simpa using hi
          have hi2 : 0 ≤ ix := by omega
          cases be
          · go_enter Tryz.func36, Tryz.ntmps36
            go_wp2_with fail
            refine hT'.out.mono ?_
            rintro e W1 ⟨rfl, hb1⟩
            go_wp2_with fail
            refine (hI.out W1 (hGh.out.below hb1)).mono ?_
            rintro e w1 ⟨rfl, ⟨nd, rfl⟩⟩
            have hb2 := hb1.trans ((GW.drewN_below W1 nd).mono hb1.size)
            go_wp2_with fail
            refine (hbc.out _ (hGh.out.below hb2)).mono ?_
            rintro e W2 ⟨rfl, hb3⟩
            have hb4 := hb2.trans (hb3.mono hb2.size)
            go_wp2
            go_ret3
            exact ⟨by rw [htt.out, if_pos (.inr (.inr (by simp)))]; rfl, hb4⟩
          · go_enter Tryz.func36, Tryz.ntmps36
            go_wp2_with fail
            refine hT'.out.mono ?_
            rintro e W1 ⟨rfl, hb1⟩
            go_wp2_with fail
            refine (hI.out W1 (hGh.out.below hb1)).mono ?_
            rintro e w1 ⟨rfl, ⟨nd, rfl⟩⟩
            have hb2 := hb1.trans ((GW.drewN_below W1 nd).mono hb1.size)
            go_wp2_with fail
            refine (hbc.out _ (hGh.out.below hb2)).mono ?_
            rintro e W2 ⟨rfl, hb3⟩
            have hb4 := hb2.trans (hb3.mono hb2.size)
            go_wp2_with fail
            refine (hA.out W2 (hGh.out.below hb4) (by have := hDs.out; have := h9'.out; omega)).mono ?_
            rintro e W3 ⟨v, rfl, hb5⟩
            have hb6 := hb4.trans (hb5.mono hb4.size)
            go_wp2
            go_ret3
            refine ⟨?_, hb6⟩
            rw [htt.out, if_neg (by
              rintro (h | h | h)
              · have := hDs.out; have := h9'.out; omega
              · rw [hcont'.out] at h; simp at h; omega
              · cases h)]
            show Ending.returned (.tuple #[_, .int .i64 (((mkB ds).size : Int) + 1), _]) = _
            rw [hDs.out]; rfl
end Go.Proofs.YthdlibgiejpjeaaGreatDoor.Given
