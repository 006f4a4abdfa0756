/- The contract of escape.Unescape. -/
import Derived.Test.YthdlibgiejpjeaaGreatDoorNumM
import Derived.Test.YthdlibgiejpjeaaGreatDoorSpecLaws
import Derived.Lib.OthersKept
import Derived.Outline
set_option linter.unusedVariables false
set_option linter.unusedSimpArgs false
namespace Go.Proofs.YthdlibgiejpjeaaGreatDoor.Given
open Go.RowKit Go.Proofs.YthdlibgiejpjeaaGreatDoor Go.Proofs.YthdlibgiejpjeaaGreatDoorW.PrintWords Go.Proofs.YthdlibgiejpjeaaGreatDoor.Spec

theorem builder_below {T e : TypeId} {B b : Nat} {bs : List Value} {w w' : World} (h : Lib.IsBuilderF T e B b bs w) (hb : Below w.heap.size w w') : Lib.IsBuilderF T e B b bs w' := by
  have lt : ∀ {i : Nat} {o : Obj}, w.heap[i]? = some o → i < w.heap.size := by
    intro i o ho
    rcases Nat.lt_or_ge i w.heap.size with h' | h'
    · exact h'
    · simp [Array.getElem?_eq_none h'] at ho
  have key : ∀ p, Lib.BuilderAtF T e B b p bs w → Lib.BuilderAtF T e B b p bs w' := by
    rintro p ⟨h1, v, h2, ⟨h3, h4⟩, h5⟩
    refine ⟨h1, v, (hb.block _ (lt h2)).trans h2, ⟨h3, ?_⟩, h5⟩
    rcases h4 with h4 | ⟨g, cap, cur, fz, k1, k2, k3, k4⟩
    · exact .inl h4
    · exact .inr ⟨g, cap, cur, fz, k1, k2, (hb.block _ (lt k3)).trans k3, k4⟩
  exact h.elim (fun x => .inl (key _ x)) (fun x => .inr (key _ x))
def strLen : Value → Nat | .string s => s.size | _ => 0
theorem strCells_mkB (l : List UInt8) : Lib.strCells (mkB l) = Lib.byteCells l := by
  simp [Lib.strCells, Lib.byteCells, mkB]
theorem sl_from (l : List UInt8) (n : Nat) (h : n ≤ l.length) (W : World) : (Instr.slice 9 (.string (mkB l)) (some (.int .i64 (n : Int))) none none).run Tryz.prog W = .ok (.string (mkB (l.drop n))) W := by
  rw [run_slice_string_from_if _ _ _ _ _ Tryz.underlying9, if_pos ⟨by omega, by rw [mkB_size]; omega⟩]
  rw [mkB_of ((mkB l).extract (n : Int).toNat (mkB l).size) (l.drop n) (by rw [Lib.extract_to_end]; rfl)]
theorem sl_to (l : List UInt8) (n : Nat) (h : n ≤ l.length) (W : World) : (Instr.slice 9 (.string (mkB l)) none (some (.int .i64 (n : Int))) none).run Tryz.prog W = .ok (.string (mkB (l.take n))) W := by
  rw [run_slice_string_to_if _ _ _ _ _ Tryz.underlying9, if_pos ⟨by omega, by rw [mkB_size]; omega⟩]
  rw [mkB_of ((mkB l).extract 0 (n : Int).toNat) (l.take n) (by rw [Lib.extract_data, mkB_data]; simp)]
theorem sl_mid (l : List UInt8) (i n : Nat) (hi : i ≤ n) (h : n ≤ l.length) (W : World) : (Instr.slice 9 (.string (mkB l)) (some (.int .i64 (i : Int))) (some (.int .i64 (n : Int))) none).run Tryz.prog W = .ok (.string (mkB ((l.drop i).take (n - i)))) W := by
  rw [run_slice_string _ _ _ _ _ _ _ Tryz.underlying9 (by omega) (by omega) (by rw [mkB_size]; omega)]
  rw [mkB_of ((mkB l).extract (i : Int).toNat (n : Int).toNat) ((l.drop i).take (n - i)) (by rw [Lib.extract_data, mkB_data]; simp)]

set_option maxHeartbeats 8000000 in
set_option maxRecDepth 1000000 in
theorem unescape_calls (l0 : List UInt8) (w : World) (hG : GW w) (hs : l0.length < 4294967281) :
    Calls Tryz.prog 27 #[.string (mkB l0)] w fun e w' => e = .returned (.string (mkB (unescape l0))) ∧ Below w.heap.size w w' := by
  obtain ⟨total, htot⟩ : ∃ total, total = unescape l0 := ⟨_, rfl⟩
  rw [← htot]
  have htot' := Lib.hid htot; clear htot
  go_enter Tryz.func27, Tryz.ntmps27
  go_wp2
  go_loopw [0] (fun v wr => ∃ (l acc : List UInt8), v = .string (mkB l) ∧ l.length ≤ l0.length ∧ acc.length + 5 * l.length ≤ 5 * l0.length ∧ Lib.IsBuilderF 60 5 w.heap.size w.heap.size (Lib.byteCells acc) wr ∧ Below w.heap.size w wr ∧ w.heap.size < wr.heap.size ∧ Hid (acc ++ unescape l = total)) (fun v _ => strLen v)
  case atStart =>
    refine ⟨l0, [], rfl, Nat.le_refl _, by simp, Lib.IsBuilderF.of (Lib.fresh_isBuilder 60 5 w), (Below.refl _ w).alloc (Nat.le_refl _) _, by simp, ?_⟩
    exact htot'.out.symm
  case round =>
    obtain ⟨l, acc, rfl, hll, hal, hI, hbw, hsz, hH⟩ := hrel
    cases l with
    | nil =>
      have hem : (mkB []).toList.isEmpty = true := by rw [Lib.toList_data]; rfl
      have hI' := Lib.hid hI; clear hI
      go_wp2_with fail
      refine (Tryz.Builder_String_any_k w.heap.size w.heap.size acc wr hI'.out (Nat.le_of_lt hsz)).mono ?_
      rintro e W1 ⟨rfl, _, b1, _⟩
      go_wp2
      go_ret
      refine ⟨?_, hbw.trans b1⟩
      have := hH.out; rw [unescape_nil, List.append_nil] at this
      rw [← this]; rfl
    | cons c r =>
      have hem : (mkB (c :: r)).toList.isEmpty = false := by rw [Lib.toList_data]; rfl
      have hem2 : ¬ (mkB (c :: r)).toList = [] := by rw [Lib.toList_data]; simp [mkB]
      have hx01 : (mkB (c :: r)).extract 0 1 = mkB [c] := mkB_of _ _ (by rw [Lib.extract_data, mkB_data]; rfl)
      have hpos : 0 < (mkB (c :: r)).size := by rw [mkB_size]; simp
      have hc0 : (mkB (c :: r))[0]'hpos = c := rfl
      have hmsz := Lib.hid (show strLen (.string (mkB (c :: r))) = r.length + 1 from by show (mkB (c :: r)).size = _; rw [mkB_size]; rfl)
      rw [List.length_cons] at hll hal
      have hI' := Lib.hid hI; clear hI
      have hGr := hG.below hbw
      by_cases hB : c = 92 ∧ (r.head?.map markC).getD false = true
      · obtain ⟨hc92, hm⟩ := hB
        cases r with
        | nil => cases hm
        | cons d r2 =>
          have hm : markC d = true := hm
          subst hc92
          have hmk := runes_Mark.calls (d.toNat : Int) true wr hGr (by unfold runes_Mark.f; rw [show (d.toNat : Int).toNat.toUInt8 = d by simp]; rw [hm])
          have hx12 : (mkB (92 :: d :: r2)).extract 1 2 = mkB [d] := mkB_of _ _ (by rw [Lib.extract_data, mkB_data]; rfl)
          have hx2 : (mkB (92 :: d :: r2)).extract 2 (mkB (92 :: d :: r2)).size = mkB r2 := mkB_of _ _ (by rw [Lib.extract_to_end, mkB_data]; rfl)
          have h1lt : 1 < (mkB (92 :: d :: r2)).size := by rw [mkB_size]; simp
          have hd1 : (mkB (92 :: d :: r2))[1]'h1lt = d := rfl
          have hnew : Hid ((acc ++ [d]) ++ unescape r2 = total) := Lib.hid (by rw [← hH.out, unescape_mark d r2 hm]; simp)
          have hmk' := Lib.hid hmk; clear hmk
          have hsz2 : 2 ≤ (mkB (92 :: d :: r2)).size := by rw [mkB_size]; simp
          clear hm
          rw [List.length_cons] at hll hal
          have hmsz2 := Lib.hid (show strLen (.string (mkB (92 :: d :: r2))) = r2.length + 2 from by show (mkB (92 :: d :: r2)).size = _; rw [mkB_size]; rfl)
          clear hmsz
          generalize hL : mkB (92 :: d :: r2) = LB at *
          have hL' := Lib.hid hL; clear hL
          have ht1 := Lib.hid (mkB_size [d])
          generalize hT : mkB [d] = TB at *
          have hT' := Lib.hid hT; clear hT
          have hmr := Lib.hid (show strLen (.string (mkB r2)) = r2.length from mkB_size r2)
          generalize hR : mkB r2 = RB at *
          have hR' := Lib.hid hR; clear hR
          go_wp2_with fail
          refine hmk'.out.mono ?_
          rintro e w1 ⟨rfl, ⟨nd, rfl⟩⟩
          have hbd := GW.drewN_below wr nd
          have hI2 := Lib.hid (builder_below hI'.out hbd)
          go_wp2_with fail
          refine (writeString w.heap.size w.heap.size _ TB _ hI2.out (by rw [ht1.out, Lib.byteCells_length]; simp; omega) (Nat.le_of_lt hsz)).mono ?_
          rintro e W2 ⟨rfl, hA, b1, _⟩
          have hA' := Lib.hid hA; clear hA
          clear hx12 hx01
          go_wp2
          refine ⟨⟨r2, acc ++ [d], by rw [hR'.out], by omega, by simp; omega, ?_, (hbw.trans (hbd.mono hbw.size)).trans b1, Nat.lt_of_lt_of_le hsz b1.size, hnew⟩, ?_⟩
          · have := hA'.out
            rw [← hT'.out, strCells_mkB, ← Lib.byteCells_append] at this
            exact .inr this
          · rw [hmr.out, hmsz2.out]; omega
      · have hE : ∀ W, GW W → Calls Tryz.prog 25 #[.string (mkB (c :: r))] W (fun e w' => e = .returned (.tuple #[.string (mkB (entity (c :: r)).1), .int .i64 ((entity (c :: r)).2 : Nat)]) ∧ Below W.heap.size W w') := fun W hW => escape_Entity.calls _ _ _ W hW (by unfold escape_Entity.f; rw [if_pos (by rw [mkB_size, List.length_cons]; omega)]; rfl)
        obtain ⟨hek, het⟩ := entity_bounds (c :: r)
        have hur := unescape_ref c r hB
        have hub := unescape_byte c r hB
        generalize (entity (c :: r)).1 = et at hE het hur
        generalize (entity (c :: r)).2 = k at hE hek hur hub
        rw [List.length_cons] at hek
        have hsl := sl_from (c :: r) k (by rw [List.length_cons]; exact hek)
        have hx1 : (mkB (c :: r)).extract 1 (mkB (c :: r)).size = mkB r := mkB_of _ _ (by rw [Lib.extract_to_end, mkB_data]; rfl)
        have hdl := Lib.hid (show ((c :: r).drop k).length = r.length + 1 - k from by rw [List.length_drop, List.length_cons])
        have hmr := Lib.hid (show strLen (.string (mkB ((c :: r).drop k))) = r.length + 1 - k from by show (mkB _).size = _; rw [mkB_size]; exact hdl.out)
        have hmrr := Lib.hid (show strLen (.string (mkB r)) = r.length from mkB_size r)
        have hlsz := mkB_size (c :: r)
        rw [List.length_cons] at hlsz
        have hE' := Lib.hid hE; clear hE
        have hur' := Lib.hid hur; clear hur
        have hub' := Lib.hid hub; clear hub
        by_cases hl1 : 1 < (mkB (c :: r)).size
        · by_cases hc92 : c = 92
          · obtain ⟨d, r2, hrr⟩ : ∃ d r2, r = d :: r2 := by
              cases r with
              | nil => rw [hlsz] at hl1; simp at hl1
              | cons d r2 => exact ⟨d, r2, rfl⟩
            have hm : markC d = false := by
              cases hm : markC d
              · rfl
              · exact absurd ⟨hc92, by rw [hrr]; exact hm⟩ hB
            have hmk := runes_Mark.calls (d.toNat : Int) false wr hGr (by unfold runes_Mark.f; rw [show (d.toNat : Int).toNat.toUInt8 = d by simp]; rw [hm])
            clear hm
            have hd1 : (mkB (c :: r))[1]'hl1 = d := by subst hrr; rfl
            have hc9 : (mkB (c :: r))[0]'hpos = 92 := hc92
            clear hc0 hlsz
            clear hrr hB hc92
            have hmk' := Lib.hid hmk; clear hmk
            have hts := Lib.hid (mkB_size et)
            generalize hT : mkB et = TB at *
            have hT' := Lib.hid hT; clear hT
            have hus := Lib.hid (mkB_size [c])
            generalize hU : mkB [c] = UB at *
            have hU' := Lib.hid hU; clear hU
            generalize hL : mkB (c :: r) = LB at *
            have hL' := Lib.hid hL; clear hL
            go_wp2_with fail
            refine hmk'.out.mono ?_
            rintro e w1 ⟨rfl, ⟨nd, rfl⟩⟩
            have hbd := GW.drewN_below wr nd
            have hI2 := Lib.hid (builder_below hI'.out hbd)
            go_wp2_with fail
            refine (hE'.out (wr.drewN nd) (hGr.drewN nd)).mono ?_
            rintro e w2 ⟨rfl, hbe⟩
            have hI3 := Lib.hid (builder_below hI2.out hbe)
            have hw1 := hbw.trans (hbd.mono hbw.size)
            have hw2 := hw1.trans (hbe.mono hw1.size)
            have hs2 := Nat.lt_of_lt_of_le (Nat.lt_of_lt_of_le hsz hbd.size) hbe.size
            by_cases hp : 0 < k
            · have hnew : Hid ((acc ++ et) ++ unescape ((c :: r).drop k) = total) := Lib.hid (by rw [← hH.out, hur'.out hp]; simp)
              have hpi : (0 : Int) < (k : Int) := by omega
              clear hx01 hur' hub' hp
              go_wp2_with fail
              refine (writeString w.heap.size w.heap.size _ TB _ hI3.out (by rw [hts.out, Lib.byteCells_length]; omega) (Nat.le_of_lt hs2)).mono ?_
              rintro e W2 ⟨rfl, hA, b1, _⟩
              have hA' := Lib.hid hA; clear hA
              go_wp2
              refine ⟨⟨(c :: r).drop k, acc ++ et, rfl, by rw [hdl.out]; omega, by rw [hdl.out, List.length_append]; omega, ?_, hw2.trans b1, Nat.lt_of_lt_of_le hs2 b1.size, hnew⟩, ?_⟩
              · have := hA'.out
                rw [← hT'.out, strCells_mkB, ← Lib.byteCells_append] at this
                exact .inr this
              · have hm1 := hmr.out; have hm2 := hmsz.out; omega
            · have hnew : Hid ((acc ++ [c]) ++ unescape r = total) := Lib.hid (by rw [← hH.out, hub'.out hp]; simp)
              have hpi : ¬ (0 : Int) < (k : Int) := by omega
              clear hur' hub' hp
              go_wp2_with fail
              refine (writeString w.heap.size w.heap.size _ UB _ hI3.out (by rw [hus.out, Lib.byteCells_length]; simp only [List.length_cons, List.length_nil]; omega) (Nat.le_of_lt hs2)).mono ?_
              rintro e W2 ⟨rfl, hA, b1, _⟩
              have hA' := Lib.hid hA; clear hA
              go_wp2
              refine ⟨⟨r, acc ++ [c], rfl, by omega, by rw [List.length_append]; simp only [List.length_cons, List.length_nil]; omega, ?_, hw2.trans b1, Nat.lt_of_lt_of_le hs2 b1.size, hnew⟩, ?_⟩
              · have := hA'.out
                rw [← hU'.out, strCells_mkB, ← Lib.byteCells_append] at this
                exact .inr this
              · have hm1 := hmrr.out; have hm2 := hmsz.out; omega
          · have hci : ¬ ((c.toNat : Int) = 92) := fun h => hc92 (UInt8.toNat_inj.1 (show c.toNat = 92 by omega))
            clear hB hc92 hlsz
            have hts := Lib.hid (mkB_size et)
            generalize hT : mkB et = TB at *
            have hT' := Lib.hid hT; clear hT
            have hus := Lib.hid (mkB_size [c])
            generalize hU : mkB [c] = UB at *
            have hU' := Lib.hid hU; clear hU
            generalize hL : mkB (c :: r) = LB at *
            have hL' := Lib.hid hL; clear hL
            go_wp2_with fail
            refine (hE'.out wr hGr).mono ?_
            rintro e w2 ⟨rfl, hbe⟩
            have hI3 := Lib.hid (builder_below hI'.out hbe)
            have hw2 := hbw.trans (hbe.mono hbw.size)
            have hs2 := Nat.lt_of_lt_of_le hsz hbe.size
            by_cases hp : 0 < k
            · have hnew : Hid ((acc ++ et) ++ unescape ((c :: r).drop k) = total) := Lib.hid (by rw [← hH.out, hur'.out hp]; simp)
              have hpi : (0 : Int) < (k : Int) := by omega
              clear hx01 hur' hub' hp
              go_wp2_with fail
              refine (writeString w.heap.size w.heap.size _ TB _ hI3.out (by rw [hts.out, Lib.byteCells_length]; omega) (Nat.le_of_lt hs2)).mono ?_
              rintro e W2 ⟨rfl, hA, b1, _⟩
              have hA' := Lib.hid hA; clear hA
              go_wp2
              refine ⟨⟨(c :: r).drop k, acc ++ et, rfl, by rw [hdl.out]; omega, by rw [hdl.out, List.length_append]; omega, ?_, hw2.trans b1, Nat.lt_of_lt_of_le hs2 b1.size, hnew⟩, ?_⟩
              · have := hA'.out
                rw [← hT'.out, strCells_mkB, ← Lib.byteCells_append] at this
                exact .inr this
              · have hm1 := hmr.out; have hm2 := hmsz.out; omega
            · have hnew : Hid ((acc ++ [c]) ++ unescape r = total) := Lib.hid (by rw [← hH.out, hub'.out hp]; simp)
              have hpi : ¬ (0 : Int) < (k : Int) := by omega
              clear hur' hub' hp
              go_wp2_with fail
              refine (writeString w.heap.size w.heap.size _ UB _ hI3.out (by rw [hus.out, Lib.byteCells_length]; simp only [List.length_cons, List.length_nil]; omega) (Nat.le_of_lt hs2)).mono ?_
              rintro e W2 ⟨rfl, hA, b1, _⟩
              have hA' := Lib.hid hA; clear hA
              go_wp2
              refine ⟨⟨r, acc ++ [c], rfl, by omega, by rw [List.length_append]; simp only [List.length_cons, List.length_nil]; omega, ?_, hw2.trans b1, Nat.lt_of_lt_of_le hs2 b1.size, hnew⟩, ?_⟩
              · have := hA'.out
                rw [← hU'.out, strCells_mkB, ← Lib.byteCells_append] at this
                exact .inr this
              · have hm1 := hmrr.out; have hm2 := hmsz.out; omega
        · have hone : (mkB (c :: r)).size ≤ 1 := by omega
          clear hB hl1 hlsz
          have hts := Lib.hid (mkB_size et)
          generalize hT : mkB et = TB at *
          have hT' := Lib.hid hT; clear hT
          have hus := Lib.hid (mkB_size [c])
          generalize hU : mkB [c] = UB at *
          have hU' := Lib.hid hU; clear hU
          generalize hL : mkB (c :: r) = LB at *
          have hL' := Lib.hid hL; clear hL
          go_wp2_with fail
          refine (hE'.out wr hGr).mono ?_
          rintro e w2 ⟨rfl, hbe⟩
          have hI3 := Lib.hid (builder_below hI'.out hbe)
          have hw2 := hbw.trans (hbe.mono hbw.size)
          have hs2 := Nat.lt_of_lt_of_le hsz hbe.size
          by_cases hp : 0 < k
          · have hnew : Hid ((acc ++ et) ++ unescape ((c :: r).drop k) = total) := Lib.hid (by rw [← hH.out, hur'.out hp]; simp)
            have hpi : (0 : Int) < (k : Int) := by omega
            clear hx01 hur' hub' hp
            go_wp2_with fail
            refine (writeString w.heap.size w.heap.size _ TB _ hI3.out (by rw [hts.out, Lib.byteCells_length]; omega) (Nat.le_of_lt hs2)).mono ?_
            rintro e W2 ⟨rfl, hA, b1, _⟩
            have hA' := Lib.hid hA; clear hA
            go_wp2
            refine ⟨⟨(c :: r).drop k, acc ++ et, rfl, by rw [hdl.out]; omega, by rw [hdl.out, List.length_append]; omega, ?_, hw2.trans b1, Nat.lt_of_lt_of_le hs2 b1.size, hnew⟩, ?_⟩
            · have := hA'.out
              rw [← hT'.out, strCells_mkB, ← Lib.byteCells_append] at this
              exact .inr this
            · have hm1 := hmr.out; have hm2 := hmsz.out; omega
          · have hnew : Hid ((acc ++ [c]) ++ unescape r = total) := Lib.hid (by rw [← hH.out, hub'.out hp]; simp)
            have hpi : ¬ (0 : Int) < (k : Int) := by omega
            clear hur' hub' hp
            go_wp2_with fail
            refine (writeString w.heap.size w.heap.size _ UB _ hI3.out (by rw [hus.out, Lib.byteCells_length]; simp only [List.length_cons, List.length_nil]; omega) (Nat.le_of_lt hs2)).mono ?_
            rintro e W2 ⟨rfl, hA, b1, _⟩
            have hA' := Lib.hid hA; clear hA
            go_wp2
            refine ⟨⟨r, acc ++ [c], rfl, by omega, by rw [List.length_append]; simp only [List.length_cons, List.length_nil]; omega, ?_, hw2.trans b1, Nat.lt_of_lt_of_le hs2 b1.size, hnew⟩, ?_⟩
            · have := hA'.out
              rw [← hU'.out, strCells_mkB, ← Lib.byteCells_append] at this
              exact .inr this
            · have hm1 := hmrr.out; have hm2 := hmsz.out; omega
theorem escape_Unescape.calls (a0 : ByteArray) (r : ByteArray) (w : World) (hG : GW w) (h : escape_Unescape.f a0 = some r) :
    Calls Tryz.prog 27 #[.string a0] w fun e w' => e = .returned (.string r) ∧ Below w.heap.size w w' := by
  unfold escape_Unescape.f at h
  split at h
  · rename_i hs
    injection h with h
    subst h
    exact unescape_calls a0.data.toList w hG hs
  · cases h
end Go.Proofs.YthdlibgiejpjeaaGreatDoor.Given
