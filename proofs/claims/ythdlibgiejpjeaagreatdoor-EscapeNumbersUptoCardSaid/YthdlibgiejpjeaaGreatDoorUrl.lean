/- The contract of escape.URL. -/
import Derived.Test.YthdlibgiejpjeaaGreatDoorFormatHex
import Derived.Test.YthdlibgiejpjeaaGreatDoorUnescape
import Derived.Lib.OthersKept
import Derived.Outline
set_option linter.unusedVariables false
set_option linter.unusedSimpArgs false
namespace Go.Proofs.YthdlibgiejpjeaaGreatDoor.Given
open Go.RowKit Go.Proofs.YthdlibgiejpjeaaGreatDoor Go.Proofs.YthdlibgiejpjeaaGreatDoorW.PrintWords Go.Proofs.YthdlibgiejpjeaaGreatDoor.Spec Go.Lib

theorem up2 : ∀ a b : Fin 16, Lib.toUpperA [hexL a.val, hexL b.val] = [hexU a.val, hexU b.val] := by decide +kernel
theorem low2 : ∀ a : Fin 16, (hexL a.val).toNat < 128 := by decide +kernel
theorem upper_hex (a b : Nat) (ha : a < 16) (hb : b < 16) (w : World) : Calls Tryz.prog 55 #[.string (mkB [hexL a, hexL b])] w fun e w' => e = .returned (.string (mkB [hexU a, hexU b])) ∧ Below w.heap.size w w' := by
  have h := Tryz.strings_ToUpper_ascii (mkB [hexL a, hexL b]) w (by rw [mkB_size]; simp) (by
    intro j c hj
    rw [mkB_data] at hj
    match j, hj with
    | 0, hj => obtain rfl := Option.some.inj hj; exact low2 ⟨a, ha⟩
    | 1, hj => obtain rfl := Option.some.inj hj; exact low2 ⟨b, hb⟩
    | j + 2, hj => simp at hj)
  rw [mkB_data, up2 ⟨a, ha⟩ ⟨b, hb⟩] at h
  exact h
def marksU : ByteArray := ⟨#[45, 95, 46, 33, 126, 42, 39, 40, 41, 59, 47, 63, 58, 64, 61, 43, 36, 44, 35, 37]⟩
theorem plain_tests : ∀ c : Fin 256, plainU c.val.toUInt8 = ((decide (97 ≤ bits .or .u8 (c.val : Int) 32) && decide (bits .or .u8 (c.val : Int) 32 ≤ 122)) || (decide (48 ≤ (c.val : Int)) && decide ((c.val : Int) ≤ 57)) || decide (0 ≤ Lib.indexByte [45, 95, 46, 33, 126, 42, 39, 40, 41, 59, 47, 63, 58, 64, 61, 43, 36, 44, 35, 37] c.val.toUInt8)) := by decide +kernel

set_option maxHeartbeats 8000000 in
set_option maxRecDepth 1000000 in
theorem url_calls (l0 : List UInt8) (w : World) (hG : GW w) (hs : l0.length ≤ 17592186044416) :
    Calls Tryz.prog 23 #[.string (mkB l0)] w fun e w' => e = .returned (.string (mkB (url l0))) ∧ Below w.heap.size w w' := by
  obtain ⟨total, htot⟩ : ∃ total, total = url l0 := ⟨_, rfl⟩
  rw [← htot]
  have htot' := Lib.hid htot; clear htot
  have hLs := mkB_size l0
  generalize hL : mkB l0 = LB at *
  have hL' := Lib.hid hL; clear hL
  go_enter Tryz.func23, Tryz.ntmps23
  go_wp2
  go_loopw [8] (fun i wr => ∃ (k : Nat) (acc : List UInt8), i = .int .i64 (k : Int) ∧ k ≤ l0.length ∧ acc.length ≤ 5 * k ∧ Lib.IsBuilderF 60 5 w.heap.size w.heap.size (Lib.byteCells acc) wr ∧ Below w.heap.size w wr ∧ w.heap.size < wr.heap.size ∧ Hid (acc ++ url (l0.drop k) = total)) (fun i _ => l0.length - (intOf i).toNat)
  case atStart =>
    refine ⟨0, [], rfl, Nat.zero_le _, by simp, Lib.IsBuilderF.of (Lib.fresh_isBuilder 60 5 w), (Below.refl _ w).alloc (Nat.le_refl _) _, by simp, ?_⟩
    exact htot'.out.symm
  case round =>
    obtain ⟨k, acc, rfl, hk, hal, hI, hbw, hsz, hH⟩ := hrel
    by_cases hkl : k < l0.length
    · obtain ⟨c, hc⟩ : ∃ c, l0[k] = c := ⟨_, rfl⟩
      have hkz : k < LB.size := by rw [hLs]; exact hkl
      have hci : LB[k]'hkz = c := by
        have : (mkB l0)[k]'(by rw [mkB_size]; exact hkl) = c := hc
        rw [← this]; congr 1; exact hL'.out.symm
      have hdr : l0.drop k = c :: l0.drop (k + 1) := by rw [List.drop_eq_getElem_cons hkl, hc]
      have hH2 : acc ++ (urlC c ++ url (l0.drop (k + 1))) = total := by rw [← hH.out, hdr]; rfl
      have hpt := plain_tests ⟨c.toNat, c.toNat_lt⟩
      rw [show (⟨c.toNat, c.toNat_lt⟩ : Fin 256).val = c.toNat from rfl, show c.toNat.toUInt8 = c by simp] at hpt
      have hIB : ∀ W, Calls Tryz.prog 52 #[.string ⟨#[45, 95, 46, 33, 126, 42, 39, 40, 41, 59, 47, 63, 58, 64, 61, 43, 36, 44, 35, 37]⟩, .int .u8 (c.toNat : Int)] W fun e w' => e = .returned (.int .i64 (Lib.indexByte [45, 95, 46, 33, 126, 42, 39, 40, 41, 59, 47, 63, 58, 64, 61, 43, 36, 44, 35, 37] c)) ∧ w' = W := fun W => by
        have := Tryz.strings_IndexByte ⟨#[45, 95, 46, 33, 126, 42, 39, 40, 41, 59, 47, 63, 58, 64, 61, 43, 36, 44, 35, 37]⟩ (c.toNat : Int) W
        rw [show (c.toNat : Int).toNat.toUInt8 = c by simp] at this
        exact this
      generalize Lib.indexByte [45, 95, 46, 33, 126, 42, 39, 40, 41, 59, 47, 63, 58, 64, 61, 43, 36, 44, 35, 37] c = ix at hpt hIB
      have hnew : plainU c = true → Hid ((acc ++ [c]) ++ url (l0.drop (k + 1)) = total) := fun h => Lib.hid (by rw [← hH2]; simp [urlC, h])
      have hnew2 : plainU c = false → c = 38 → Hid ((acc ++ [38, 97, 109, 112, 59]) ++ url (l0.drop (k + 1)) = total) := fun h h' => Lib.hid (by rw [← hH2]; subst h'; simp [urlC, h])
      have hnew3 : plainU c = false → ¬ c = 38 → Hid ((acc ++ [37, hexU (c.toNat / 16), hexU (c.toNat % 16)]) ++ url (l0.drop (k + 1)) = total) := fun h h' => Lib.hid (by rw [← hH2]; simp [urlC, h, h'])
      have hGr := hG.below hbw
      have hfh := formatInt_hex c.toNat c.toNat_lt wr hGr
      have huh := upper_hex (c.toNat / 16) (c.toNat % 16) (by have := c.toNat_lt; omega) (by omega)
      have hwr1 : wrap64 (c.toNat : Int) = (c.toNat : Int) := IntWalk.wrap64_in _ (by have := c.toNat_lt; omega)
      have hwr2 : wrap64 ((c.toNat : Int) + 256) = (c.toNat : Int) + 256 := IntWalk.wrap64_in _ (by have := c.toNat_lt; omega)
      have hI2 := Lib.hid hI; clear hI hH hH2 hdr htot'
      generalize hpl : plainU c = pl at hpt hnew hnew2 hnew3
      have hc38 : (c = 38) ↔ ((c.toNat : Int) = 38) := ⟨fun h => by rw [h]; rfl, fun h => UInt8.toNat_inj.1 (show c.toNat = 38 by omega)⟩
      have hnew' := Lib.hid hnew; clear hnew
      have hnew2' := Lib.hid hnew2; clear hnew2
      have hnew3' := Lib.hid hnew3; clear hnew3
      have hc38' := Lib.hid hc38; clear hc38
      have hfh' := Lib.hid hfh; clear hfh
      have huh' := Lib.hid huh; clear huh
      have hIB' := Lib.hid hIB; clear hIB
      clear hc hpl hL'
      generalize hx : bits .or .u8 (c.toNat : Int) 32 = x at hpt
      by_cases h1 : 97 ≤ x
      · by_cases h2 : x ≤ 122
        · have hpl : pl = true := by rw [hpt]; simp [h1, h2]
          have hnx := hnew'.out hpl
          clear hpt hpl
          go_wp2_with fail
          refine (writeByte w.heap.size w.heap.size _ _ _ hI2.out (by rw [Lib.byteCells_length]; omega) (Nat.le_of_lt hsz)).mono ?_
          rintro e W2 ⟨rfl, hA, b1, _⟩
          have hA' := Lib.hid hA; clear hA
          go_wp2_with fail
          refine ⟨⟨k + 1, acc ++ [c], by go_num, by omega, by rw [List.length_append]; simp only [List.length_cons, List.length_nil]; omega, .inr (by have := hA'.out; rw [Lib.byteCells_append]; exact this), hbw.trans b1, Nat.lt_of_lt_of_le hsz b1.size, hnx⟩, ?_⟩
          simp [intOf]; omega
        · by_cases h3 : 48 ≤ (c.toNat : Int)
          · by_cases h4 : (c.toNat : Int) ≤ 57
            · have hpl : pl = true := by rw [hpt]; simp [h3, h4]
              have hnx := hnew'.out hpl
              clear hpt hpl
              go_wp2_with fail
              refine (writeByte w.heap.size w.heap.size _ _ _ hI2.out (by rw [Lib.byteCells_length]; omega) (Nat.le_of_lt hsz)).mono ?_
              rintro e W2 ⟨rfl, hA, b1, _⟩
              have hA' := Lib.hid hA; clear hA
              go_wp2_with fail
              refine ⟨⟨k + 1, acc ++ [c], by go_num, by omega, by rw [List.length_append]; simp only [List.length_cons, List.length_nil]; omega, .inr (by have := hA'.out; rw [Lib.byteCells_append]; exact this), hbw.trans b1, Nat.lt_of_lt_of_le hsz b1.size, hnx⟩, ?_⟩
              simp [intOf]; omega
            · by_cases hix : 0 ≤ ix
              · have hpl : pl = true := by rw [hpt]; simp [hix]
                have hnx := hnew'.out hpl
                clear hpt hpl
                go_wp2_with fail
                refine (hIB'.out wr).mono ?_
                rintro e W1 ⟨rfl, rfl⟩
                go_wp2_with fail
                refine (writeByte w.heap.size w.heap.size _ _ _ hI2.out (by rw [Lib.byteCells_length]; omega) (Nat.le_of_lt hsz)).mono ?_
                rintro e W2 ⟨rfl, hA, b1, _⟩
                have hA' := Lib.hid hA; clear hA
                go_wp2_with fail
                refine ⟨⟨k + 1, acc ++ [c], by go_num, by omega, by rw [List.length_append]; simp only [List.length_cons, List.length_nil]; omega, .inr (by have := hA'.out; rw [Lib.byteCells_append]; exact this), hbw.trans b1, Nat.lt_of_lt_of_le hsz b1.size, hnx⟩, ?_⟩
                simp [intOf]; omega
              · have hpl : pl = false := by rw [hpt]; simp [h1, h2, h3, h4, hix]
                clear hpt
                by_cases h38 : c = 38
                · exact absurd (hc38'.out.1 h38) (by omega)
                · have hnx := hnew3'.out hpl h38
                  have h38i : ¬ (c.toNat : Int) = 38 := fun h => h38 (hc38'.out.2 h)
                  clear hpl h38
                  go_wp2_with fail
                  refine (hIB'.out wr).mono ?_
                  rintro e W1 ⟨rfl, rfl⟩
                  go_wp2_with fail
                  refine hfh'.out.mono ?_
                  rintro e w2 ⟨rfl, hb2⟩
                  have hx1 : (mkB [49, hexL (c.toNat / 16), hexL (c.toNat % 16)]).extract 1 3 = mkB [hexL (c.toNat / 16), hexL (c.toNat % 16)] := mkB_of _ _ (by rw [Lib.extract_data, mkB_data]; rfl)
                  have hz1 : (mkB [49, hexL (c.toNat / 16), hexL (c.toNat % 16)]).size = 3 := mkB_size _
                  generalize mkB [49, hexL (c.toNat / 16), hexL (c.toNat % 16)] = X3 at *
                  generalize mkB [hexL (c.toNat / 16), hexL (c.toNat % 16)] = X2 at *
                  have hcat : (⟨#[37]⟩ : ByteArray) ++ mkB [hexU (c.toNat / 16), hexU (c.toNat % 16)] = mkB [37, hexU (c.toNat / 16), hexU (c.toNat % 16)] := mkB_of _ _ (by rw [ByteArray.data_append]; rfl)
                  generalize hexU (c.toNat / 16) = y1 at *
                  generalize hexU (c.toNat % 16) = y0 at *
                  have hz2 : (mkB [y1, y0]).size = 2 := mkB_size _
                  have hz3 := Lib.hid (mkB_size [37, y1, y0])
                  have hcells := Lib.hid (strCells_mkB [37, y1, y0])
                  generalize mkB [37, y1, y0] = Y3 at *
                  generalize mkB [y1, y0] = Y2 at *
                  go_wp2_with fail
                  refine (huh'.out w2).mono ?_
                  rintro e w3 ⟨rfl, hb3⟩
                  have hb23 := hb2.trans (hb3.mono hb2.size)
                  have hbw3 := hbw.trans (hb23.mono hbw.size)
                  have hsz3 := Nat.lt_of_lt_of_le hsz hb23.size
                  have hI3 := Lib.hid (builder_below hI2.out hb23)
                  go_wp2_with fail
                  refine (writeString w.heap.size w.heap.size _ _ _ hI3.out (by rw [Lib.byteCells_length, hz3.out]; simp only [List.length_cons, List.length_nil]; omega) (Nat.le_of_lt hsz3)).mono ?_
                  rintro e W2 ⟨rfl, hA, b1, _⟩
                  have hA' := Lib.hid (hcells.out ▸ hA); clear hA
                  go_wp2_with fail
                  refine ⟨⟨k + 1, acc ++ [37, y1, y0], by go_num, by omega, by rw [List.length_append]; simp only [List.length_cons, List.length_nil]; omega, .inr (by have := hA'.out; rw [Lib.byteCells_append]; exact this), hbw3.trans b1, Nat.lt_of_lt_of_le hsz3 b1.size, hnx⟩, ?_⟩
                  simp [intOf]; omega
          · by_cases hix : 0 ≤ ix
            · have hpl : pl = true := by rw [hpt]; simp [hix]
              have hnx := hnew'.out hpl
              clear hpt hpl
              go_wp2_with fail
              refine (hIB'.out wr).mono ?_
              rintro e W1 ⟨rfl, rfl⟩
              go_wp2_with fail
              refine (writeByte w.heap.size w.heap.size _ _ _ hI2.out (by rw [Lib.byteCells_length]; omega) (Nat.le_of_lt hsz)).mono ?_
              rintro e W2 ⟨rfl, hA, b1, _⟩
              have hA' := Lib.hid hA; clear hA
              go_wp2_with fail
              refine ⟨⟨k + 1, acc ++ [c], by go_num, by omega, by rw [List.length_append]; simp only [List.length_cons, List.length_nil]; omega, .inr (by have := hA'.out; rw [Lib.byteCells_append]; exact this), hbw.trans b1, Nat.lt_of_lt_of_le hsz b1.size, hnx⟩, ?_⟩
              simp [intOf]; omega
            · have hpl : pl = false := by rw [hpt]; simp [h1, h2, h3, hix]
              clear hpt
              by_cases h38 : c = 38
              · have hnx := hnew2'.out hpl h38
                have h38i := hc38'.out.1 h38
                have h38j := Lib.hid h38i; clear h38i
                clear hpl h38
                go_wp2_with fail
                refine (hIB'.out wr).mono ?_
                rintro e W1 ⟨rfl, rfl⟩
                have h38i := h38j.out
                go_wp2_with fail
                refine (writeString w.heap.size w.heap.size _ _ _ hI2.out (by rw [Lib.byteCells_length]; show acc.length + 5 ≤ _; omega) (Nat.le_of_lt hsz)).mono ?_
                rintro e W2 ⟨rfl, hA, b1, _⟩
                have hA' := Lib.hid hA; clear hA
                go_wp2_with fail
                refine ⟨⟨k + 1, acc ++ [38, 97, 109, 112, 59], by go_num, by omega, by rw [List.length_append]; simp only [List.length_cons, List.length_nil]; omega, .inr (by have := hA'.out; rw [Lib.byteCells_append]; exact this), hbw.trans b1, Nat.lt_of_lt_of_le hsz b1.size, hnx⟩, ?_⟩
                simp [intOf]; omega
              · have hnx := hnew3'.out hpl h38
                have h38i : ¬ (c.toNat : Int) = 38 := fun h => h38 (hc38'.out.2 h)
                clear hpl h38
                go_wp2_with fail
                refine (hIB'.out wr).mono ?_
                rintro e W1 ⟨rfl, rfl⟩
                go_wp2_with fail
                refine hfh'.out.mono ?_
                rintro e w2 ⟨rfl, hb2⟩
                have hx1 : (mkB [49, hexL (c.toNat / 16), hexL (c.toNat % 16)]).extract 1 3 = mkB [hexL (c.toNat / 16), hexL (c.toNat % 16)] := mkB_of _ _ (by rw [Lib.extract_data, mkB_data]; rfl)
                have hz1 : (mkB [49, hexL (c.toNat / 16), hexL (c.toNat % 16)]).size = 3 := mkB_size _
                generalize mkB [49, hexL (c.toNat / 16), hexL (c.toNat % 16)] = X3 at *
                generalize mkB [hexL (c.toNat / 16), hexL (c.toNat % 16)] = X2 at *
                have hcat : (⟨#[37]⟩ : ByteArray) ++ mkB [hexU (c.toNat / 16), hexU (c.toNat % 16)] = mkB [37, hexU (c.toNat / 16), hexU (c.toNat % 16)] := mkB_of _ _ (by rw [ByteArray.data_append]; rfl)
                generalize hexU (c.toNat / 16) = y1 at *
                generalize hexU (c.toNat % 16) = y0 at *
                have hz2 : (mkB [y1, y0]).size = 2 := mkB_size _
                have hz3 := Lib.hid (mkB_size [37, y1, y0])
                have hcells := Lib.hid (strCells_mkB [37, y1, y0])
                generalize mkB [37, y1, y0] = Y3 at *
                generalize mkB [y1, y0] = Y2 at *
                go_wp2_with fail
                refine (huh'.out w2).mono ?_
                rintro e w3 ⟨rfl, hb3⟩
                have hb23 := hb2.trans (hb3.mono hb2.size)
                have hbw3 := hbw.trans (hb23.mono hbw.size)
                have hsz3 := Nat.lt_of_lt_of_le hsz hb23.size
                have hI3 := Lib.hid (builder_below hI2.out hb23)
                go_wp2_with fail
                refine (writeString w.heap.size w.heap.size _ _ _ hI3.out (by rw [Lib.byteCells_length, hz3.out]; simp only [List.length_cons, List.length_nil]; omega) (Nat.le_of_lt hsz3)).mono ?_
                rintro e W2 ⟨rfl, hA, b1, _⟩
                have hA' := Lib.hid (hcells.out ▸ hA); clear hA
                go_wp2_with fail
                refine ⟨⟨k + 1, acc ++ [37, y1, y0], by go_num, by omega, by rw [List.length_append]; simp only [List.length_cons, List.length_nil]; omega, .inr (by have := hA'.out; rw [Lib.byteCells_append]; exact this), hbw3.trans b1, Nat.lt_of_lt_of_le hsz3 b1.size, hnx⟩, ?_⟩
                simp [intOf]; omega
      · by_cases h3 : 48 ≤ (c.toNat : Int)
        · by_cases h4 : (c.toNat : Int) ≤ 57
          · have hpl : pl = true := by rw [hpt]; simp [h3, h4]
            have hnx := hnew'.out hpl
            clear hpt hpl
            go_wp2_with fail
            refine (writeByte w.heap.size w.heap.size _ _ _ hI2.out (by rw [Lib.byteCells_length]; omega) (Nat.le_of_lt hsz)).mono ?_
            rintro e W2 ⟨rfl, hA, b1, _⟩
            have hA' := Lib.hid hA; clear hA
            go_wp2_with fail
            refine ⟨⟨k + 1, acc ++ [c], by go_num, by omega, by rw [List.length_append]; simp only [List.length_cons, List.length_nil]; omega, .inr (by have := hA'.out; rw [Lib.byteCells_append]; exact this), hbw.trans b1, Nat.lt_of_lt_of_le hsz b1.size, hnx⟩, ?_⟩
            simp [intOf]; omega
          · by_cases hix : 0 ≤ ix
            · have hpl : pl = true := by rw [hpt]; simp [hix]
              have hnx := hnew'.out hpl
              clear hpt hpl
              go_wp2_with fail
              refine (hIB'.out wr).mono ?_
              rintro e W1 ⟨rfl, rfl⟩
              go_wp2_with fail
              refine (writeByte w.heap.size w.heap.size _ _ _ hI2.out (by rw [Lib.byteCells_length]; omega) (Nat.le_of_lt hsz)).mono ?_
              rintro e W2 ⟨rfl, hA, b1, _⟩
              have hA' := Lib.hid hA; clear hA
              go_wp2_with fail
              refine ⟨⟨k + 1, acc ++ [c], by go_num, by omega, by rw [List.length_append]; simp only [List.length_cons, List.length_nil]; omega, .inr (by have := hA'.out; rw [Lib.byteCells_append]; exact this), hbw.trans b1, Nat.lt_of_lt_of_le hsz b1.size, hnx⟩, ?_⟩
              simp [intOf]; omega
            · have hpl : pl = false := by rw [hpt]; simp [h1, h3, h4, hix]
              clear hpt
              by_cases h38 : c = 38
              · exact absurd (hc38'.out.1 h38) (by omega)
              · have hnx := hnew3'.out hpl h38
                have h38i : ¬ (c.toNat : Int) = 38 := fun h => h38 (hc38'.out.2 h)
                clear hpl h38
                go_wp2_with fail
                refine (hIB'.out wr).mono ?_
                rintro e W1 ⟨rfl, rfl⟩
                go_wp2_with fail
                refine hfh'.out.mono ?_
                rintro e w2 ⟨rfl, hb2⟩
                have hx1 : (mkB [49, hexL (c.toNat / 16), hexL (c.toNat % 16)]).extract 1 3 = mkB [hexL (c.toNat / 16), hexL (c.toNat % 16)] := mkB_of _ _ (by rw [Lib.extract_data, mkB_data]; rfl)
                have hz1 : (mkB [49, hexL (c.toNat / 16), hexL (c.toNat % 16)]).size = 3 := mkB_size _
                generalize mkB [49, hexL (c.toNat / 16), hexL (c.toNat % 16)] = X3 at *
                generalize mkB [hexL (c.toNat / 16), hexL (c.toNat % 16)] = X2 at *
                have hcat : (⟨#[37]⟩ : ByteArray) ++ mkB [hexU (c.toNat / 16), hexU (c.toNat % 16)] = mkB [37, hexU (c.toNat / 16), hexU (c.toNat % 16)] := mkB_of _ _ (by rw [ByteArray.data_append]; rfl)
                generalize hexU (c.toNat / 16) = y1 at *
                generalize hexU (c.toNat % 16) = y0 at *
                have hz2 : (mkB [y1, y0]).size = 2 := mkB_size _
                have hz3 := Lib.hid (mkB_size [37, y1, y0])
                have hcells := Lib.hid (strCells_mkB [37, y1, y0])
                generalize mkB [37, y1, y0] = Y3 at *
                generalize mkB [y1, y0] = Y2 at *
                go_wp2_with fail
                refine (huh'.out w2).mono ?_
                rintro e w3 ⟨rfl, hb3⟩
                have hb23 := hb2.trans (hb3.mono hb2.size)
                have hbw3 := hbw.trans (hb23.mono hbw.size)
                have hsz3 := Nat.lt_of_lt_of_le hsz hb23.size
                have hI3 := Lib.hid (builder_below hI2.out hb23)
                go_wp2_with fail
                refine (writeString w.heap.size w.heap.size _ _ _ hI3.out (by rw [Lib.byteCells_length, hz3.out]; simp only [List.length_cons, List.length_nil]; omega) (Nat.le_of_lt hsz3)).mono ?_
                rintro e W2 ⟨rfl, hA, b1, _⟩
                have hA' := Lib.hid (hcells.out ▸ hA); clear hA
                go_wp2_with fail
                refine ⟨⟨k + 1, acc ++ [37, y1, y0], by go_num, by omega, by rw [List.length_append]; simp only [List.length_cons, List.length_nil]; omega, .inr (by have := hA'.out; rw [Lib.byteCells_append]; exact this), hbw3.trans b1, Nat.lt_of_lt_of_le hsz3 b1.size, hnx⟩, ?_⟩
                simp [intOf]; omega
        · by_cases hix : 0 ≤ ix
          · have hpl : pl = true := by rw [hpt]; simp [hix]
            have hnx := hnew'.out hpl
            clear hpt hpl
            go_wp2_with fail
            refine (hIB'.out wr).mono ?_
            rintro e W1 ⟨rfl, rfl⟩
            go_wp2_with fail
            refine (writeByte w.heap.size w.heap.size _ _ _ hI2.out (by rw [Lib.byteCells_length]; omega) (Nat.le_of_lt hsz)).mono ?_
            rintro e W2 ⟨rfl, hA, b1, _⟩
            have hA' := Lib.hid hA; clear hA
            go_wp2_with fail
            refine ⟨⟨k + 1, acc ++ [c], by go_num, by omega, by rw [List.length_append]; simp only [List.length_cons, List.length_nil]; omega, .inr (by have := hA'.out; rw [Lib.byteCells_append]; exact this), hbw.trans b1, Nat.lt_of_lt_of_le hsz b1.size, hnx⟩, ?_⟩
            simp [intOf]; omega
          · have hpl : pl = false := by rw [hpt]; simp [h1, h3, hix]
            clear hpt
            by_cases h38 : c = 38
            · have hnx := hnew2'.out hpl h38
              have h38i := hc38'.out.1 h38
              have h38j := Lib.hid h38i; clear h38i
              clear hpl h38
              go_wp2_with fail
              refine (hIB'.out wr).mono ?_
              rintro e W1 ⟨rfl, rfl⟩
              have h38i := h38j.out
              go_wp2_with fail
              refine (writeString w.heap.size w.heap.size _ _ _ hI2.out (by rw [Lib.byteCells_length]; show acc.length + 5 ≤ _; omega) (Nat.le_of_lt hsz)).mono ?_
              rintro e W2 ⟨rfl, hA, b1, _⟩
              have hA' := Lib.hid hA; clear hA
              go_wp2_with fail
              refine ⟨⟨k + 1, acc ++ [38, 97, 109, 112, 59], by go_num, by omega, by rw [List.length_append]; simp only [List.length_cons, List.length_nil]; omega, .inr (by have := hA'.out; rw [Lib.byteCells_append]; exact this), hbw.trans b1, Nat.lt_of_lt_of_le hsz b1.size, hnx⟩, ?_⟩
              simp [intOf]; omega
            · have hnx := hnew3'.out hpl h38
              have h38i : ¬ (c.toNat : Int) = 38 := fun h => h38 (hc38'.out.2 h)
              clear hpl h38
              go_wp2_with fail
              refine (hIB'.out wr).mono ?_
              rintro e W1 ⟨rfl, rfl⟩
              go_wp2_with fail
              refine hfh'.out.mono ?_
              rintro e w2 ⟨rfl, hb2⟩
              have hx1 : (mkB [49, hexL (c.toNat / 16), hexL (c.toNat % 16)]).extract 1 3 = mkB [hexL (c.toNat / 16), hexL (c.toNat % 16)] := mkB_of _ _ (by rw [Lib.extract_data, mkB_data]; rfl)
              have hz1 : (mkB [49, hexL (c.toNat / 16), hexL (c.toNat % 16)]).size = 3 := mkB_size _
              generalize mkB [49, hexL (c.toNat / 16), hexL (c.toNat % 16)] = X3 at *
              generalize mkB [hexL (c.toNat / 16), hexL (c.toNat % 16)] = X2 at *
              have hcat : (⟨#[37]⟩ : ByteArray) ++ mkB [hexU (c.toNat / 16), hexU (c.toNat % 16)] = mkB [37, hexU (c.toNat / 16), hexU (c.toNat % 16)] := mkB_of _ _ (by rw [ByteArray.data_append]; rfl)
              generalize hexU (c.toNat / 16) = y1 at *
              generalize hexU (c.toNat % 16) = y0 at *
              have hz2 : (mkB [y1, y0]).size = 2 := mkB_size _
              have hz3 := Lib.hid (mkB_size [37, y1, y0])
              have hcells := Lib.hid (strCells_mkB [37, y1, y0])
              generalize mkB [37, y1, y0] = Y3 at *
              generalize mkB [y1, y0] = Y2 at *
              go_wp2_with fail
              refine (huh'.out w2).mono ?_
              rintro e w3 ⟨rfl, hb3⟩
              have hb23 := hb2.trans (hb3.mono hb2.size)
              have hbw3 := hbw.trans (hb23.mono hbw.size)
              have hsz3 := Nat.lt_of_lt_of_le hsz hb23.size
              have hI3 := Lib.hid (builder_below hI2.out hb23)
              go_wp2_with fail
              refine (writeString w.heap.size w.heap.size _ _ _ hI3.out (by rw [Lib.byteCells_length, hz3.out]; simp only [List.length_cons, List.length_nil]; omega) (Nat.le_of_lt hsz3)).mono ?_
              rintro e W2 ⟨rfl, hA, b1, _⟩
              have hA' := Lib.hid (hcells.out ▸ hA); clear hA
              go_wp2_with fail
              refine ⟨⟨k + 1, acc ++ [37, y1, y0], by go_num, by omega, by rw [List.length_append]; simp only [List.length_cons, List.length_nil]; omega, .inr (by have := hA'.out; rw [Lib.byteCells_append]; exact this), hbw3.trans b1, Nat.lt_of_lt_of_le hsz3 b1.size, hnx⟩, ?_⟩
              simp [intOf]; omega
    · have hke : k = l0.length := by omega
      have hem : acc = total := by rw [← hH.out, hke, List.drop_length]; show acc = acc ++ []; simp
      have hI' := Lib.hid hI; clear hI hH htot' hL'
      clear hke
      go_wp2_with fail
      refine (Tryz.Builder_String_any_k w.heap.size w.heap.size acc wr hI'.out (Nat.le_of_lt hsz)).mono ?_
      rintro e W1 ⟨rfl, _, b1, _⟩
      go_wp2
      go_ret
      refine ⟨?_, hbw.trans b1⟩
      rw [← hem]; rfl
theorem escape_URL.calls (a0 : ByteArray) (r : ByteArray) (w : World) (hG : GW w) (h : escape_URL.f a0 = some r) :
    Calls Tryz.prog 23 #[.string a0] w fun e w' => e = .returned (.string r) ∧ Below w.heap.size w w' := by
  unfold escape_URL.f at h
  split at h
  · rename_i hs
    injection h with h
    subst h
    exact url_calls a0.data.toList w hG hs
  · cases h
end Go.Proofs.YthdlibgiejpjeaaGreatDoor.Given
