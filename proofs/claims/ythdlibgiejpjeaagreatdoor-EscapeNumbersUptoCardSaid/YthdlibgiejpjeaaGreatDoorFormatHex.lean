/- strconv.FormatInt of 256 to 511 at base 16: the digits behind the leading 1. -/
import Derived.Test.YthdlibgiejpjeaaGreatDoorGivM
import Derived.Test.YthdlibgiejpjeaaGreatDoorNumM
import Derived.Lib.ItoaMem
import Derived.Lib.OthersKept
import Derived.Outline
set_option linter.unusedVariables false
set_option linter.unusedSimpArgs false
namespace Go.Proofs.YthdlibgiejpjeaaGreatDoor.Given
open Go.RowKit Go.Proofs.YthdlibgiejpjeaaGreatDoor Go.Proofs.YthdlibgiejpjeaaGreatDoorW.PrintWords Go.Proofs.YthdlibgiejpjeaaGreatDoor.Spec Go.Lib

theorem tz64 (w : World) (hG : GW w) : Calls Tryz.prog 195 #[.int .u64 16] w fun e w' => e = .returned (.int .i64 4) ∧ w' = w := by
  have h := hG.tz
  have hix : IntKind.u64.wrap (bits BinOp.and IntKind.u64 16 (IntKind.u64.wrap (-16)) * 285870213051353865) / 288230376151711744 = 15 := by decide +kernel
  go_enter Tryz.func195, Tryz.ntmps195
  go_wp2_with fail
  go_ret
  exact ⟨rfl, rfl⟩
theorem tz0 (w : World) (hG : GW w) : Calls Tryz.prog 174 #[.int .u64 16] w fun e w' => e = .returned (.int .i64 4) ∧ w' = w := by
  go_enter Tryz.func174, Tryz.ntmps174
  go_wp2_with fail
  refine (tz64 w hG).mono ?_
  rintro e w1 ⟨rfl, rfl⟩
  go_wp2_with fail
  go_ret
  exact ⟨rfl, rfl⟩
theorem pow16 (w : World) : Calls Tryz.prog 173 #[.int .i64 16] w fun e w' => e = .returned (.bool true) ∧ w' = w := by
  go_enter Tryz.func173, Tryz.ntmps173
  go_wp2_with fail
  go_ret
  exact ⟨rfl, rfl⟩


def hexL (n : Nat) : UInt8 := if n < 10 then (48 + n).toUInt8 else (87 + n).toUInt8
theorem digit_at : ∀ n : Fin 16, ∀ h : (n.val : Int).toNat < (36 : Nat), ((#[48, 49, 50, 51, 52, 53, 54, 55, 56, 57, 97, 98, 99, 100, 101, 102, 103, 104, 105, 106, 107, 108, 109, 110, 111, 112, 113, 114, 115, 116, 117, 118, 119, 120, 121, 122] : Array UInt8)[(n.val : Int).toNat]'h) = hexL n.val := by decide +kernel
theorem run_digit (n : Nat) (h : n < 16) (W : World) : (Instr.index 9 (.string ⟨#[48, 49, 50, 51, 52, 53, 54, 55, 56, 57, 97, 98, 99, 100, 101, 102, 103, 104, 105, 106, 107, 108, 109, 110, 111, 112, 113, 114, 115, 116, 117, 118, 119, 120, 121, 122]⟩) (.int .u64 (n : Int))).run Tryz.prog W = .ok (.int .u8 ((hexL n).toNat : Int)) W := by
  rw [run_index_string _ _ _ _ _ Tryz.underlying9]
  have hs : 0 ≤ (n : Int) ∧ (n : Int) < ((⟨#[48, 49, 50, 51, 52, 53, 54, 55, 56, 57, 97, 98, 99, 100, 101, 102, 103, 104, 105, 106, 107, 108, 109, 110, 111, 112, 113, 114, 115, 116, 117, 118, 119, 120, 121, 122]⟩ : ByteArray).size : Int) := ⟨by omega, by show (n : Int) < 36; omega⟩
  rw [dif_pos hs]
  have := digit_at ⟨n, h⟩ (by show n < 36; omega)
  rw [← this]; rfl
theorem and15 (u : Nat) (h : u < 1000) : bits .and .u64 (u : Int) 15 = ((u % 16 : Nat) : Int) := by
  have := bits_and_u64_nat u 15 (by omega) (by omega)
  rw [show ((15 : Nat) : Int) = 15 from rfl] at this
  rw [this, show (15 : Nat) = 2 ^ 4 - 1 from rfl, Nat.and_two_pow_sub_one_eq_mod]

set_option maxHeartbeats 4000000 in
set_option maxRecDepth 100000 in
theorem formatBits_hex (c : Nat) (hc : c < 256) (w : World) (hG : GW w) : Calls Tryz.prog 148 #[.slice none 0 0, .int .u64 ((256 + c : Nat) : Int), .int .i64 16, .bool false, .bool false] w fun e w' => e = .returned (.tuple #[.slice none 0 0, .string (mkB [49, hexL (c / 16), hexL (c % 16)])]) ∧ Below w.heap.size w w' := by
  obtain ⟨u0, hu0⟩ : ∃ u : Int, u = ((256 + c : Nat) : Int) := ⟨_, rfl⟩
  obtain ⟨u1, hu1⟩ : ∃ u : Int, u = ((16 + c / 16 : Nat) : Int) := ⟨_, rfl⟩
  have ha0 : bits .and .u64 u0 15 = ((c % 16 : Nat) : Int) := by rw [hu0, and15 _ (by omega)]; congr 1; omega
  have ha1 : bits .and .u64 u1 15 = ((c / 16 : Nat) : Int) := by rw [hu1, and15 _ (by omega)]; congr 1; omega
  have hd0 : u0 / 16 = u1 := by omega
  have hd1 : u1 / 16 = 1 := by omega
  have hg0 : 16 ≤ u0 := by omega
  have hg1 : 16 ≤ u1 := by omega
  have hr0 := run_digit (c % 16) (by omega)
  have hr1 := run_digit (c / 16) (by omega)
  have hr2 : ∀ W, (Instr.index 9 (.string ⟨#[48, 49, 50, 51, 52, 53, 54, 55, 56, 57, 97, 98, 99, 100, 101, 102, 103, 104, 105, 106, 107, 108, 109, 110, 111, 112, 113, 114, 115, 116, 117, 118, 119, 120, 121, 122]⟩) (.int .u64 1)).run Tryz.prog W = .ok (.int .u8 49) W := run_digit 1 (by omega)
  rw [← hu0]
  generalize ((c % 16 : Nat) : Int) = n0 at ha0 hr0
  generalize ((c / 16 : Nat) : Int) = n1 at ha1 hr1
  generalize hexL (c % 16) = x0 at *
  generalize hexL (c / 16) = x1 at *
  clear hu0 hu1 hc
  go_enter Tryz.func148, Tryz.ntmps148
  go_wp2_with fail
  refine (pow16 _).mono ?_
  rintro e w1 ⟨rfl, rfl⟩
  go_wp2_with fail
  refine (tz0 _ (hG.below ((Below.refl _ w).alloc (Nat.le_refl _) _))).mono ?_
  rintro e w1 ⟨rfl, rfl⟩
  go_wp2
  go_loopw [1, 13] (fun u i wr => ∃ v62 v63 v64, wr.cell? ⟨w.heap.size, 62, none⟩ = some v62 ∧ wr.cell? ⟨w.heap.size, 63, none⟩ = some v63 ∧ wr.cell? ⟨w.heap.size, 64, none⟩ = some v64 ∧ (∀ o, wr.frozen? ⟨w.heap.size, o, none⟩ = false) ∧ Below w.heap.size w wr ∧ ((u = .int .u64 u0 ∧ i = .int .i64 65) ∨ (u = .int .u64 u1 ∧ i = .int .i64 64 ∧ v64 = .int .u8 x0.toNat) ∨ (u = .int .u64 1 ∧ i = .int .i64 63 ∧ v64 = .int .u8 x0.toNat ∧ v63 = .int .u8 x1.toNat))) (fun _ i _ => (intOf i).toNat)
  case atStart =>
    refine ⟨.int .u8 0, .int .u8 0, .int .u8 0, by rw [World.cell?_alloc_new]; rfl, by rw [World.cell?_alloc_new]; rfl, by rw [World.cell?_alloc_new]; rfl, ?_, (Below.refl _ w).alloc (Nat.le_refl _) _, .inl ⟨rfl, rfl⟩⟩
    intro o
    exact World.frozen?_alloc_new _ _ _ _
  case round =>
    obtain ⟨v62, v63, v64, h62, h63, h64, hfz, hbw, hst⟩ := hrel
    rcases hst with ⟨rfl, rfl⟩ | ⟨rfl, rfl, rfl⟩ | ⟨rfl, rfl, rfl, rfl⟩
    · go_wp2_with fail
      have e64 := World.cell?_setCell_same _ _ (.int .u8 x0.toNat) h64
      have e63 := (World.cell?_setCell_other _ _ _ (.int .u8 x0.toNat) (show (⟨w.heap.size, 64, none⟩ : Addr) ≠ ⟨w.heap.size, 63, none⟩ by simp)).trans h63
      have e62 := (World.cell?_setCell_other _ _ _ (.int .u8 x0.toNat) (show (⟨w.heap.size, 64, none⟩ : Addr) ≠ ⟨w.heap.size, 62, none⟩ by simp)).trans h62
      refine ⟨⟨v62, v63, _, e62, e63, e64, fun o => by rw [World.frozen?_setCell]; exact hfz o, hbw.setCell (Nat.le_refl _) _, .inr (.inl ⟨rfl, rfl, rfl⟩)⟩, ?_⟩
      simp [intOf]
    · go_wp2_with fail
      have e63 := World.cell?_setCell_same _ _ (.int .u8 x1.toNat) h63
      have e64 := (World.cell?_setCell_other _ _ _ (.int .u8 x1.toNat) (show (⟨w.heap.size, 63, none⟩ : Addr) ≠ ⟨w.heap.size, 64, none⟩ by simp)).trans h64
      have e62 := (World.cell?_setCell_other _ _ _ (.int .u8 x1.toNat) (show (⟨w.heap.size, 63, none⟩ : Addr) ≠ ⟨w.heap.size, 62, none⟩ by simp)).trans h62
      refine ⟨⟨v62, _, _, e62, e63, e64, fun o => by rw [World.frozen?_setCell]; exact hfz o, hbw.setCell (Nat.le_refl _) _, .inr (.inr ⟨rfl, rfl, rfl, rfl⟩)⟩, ?_⟩
      simp [intOf]
    · have hal : Tryz.prog.arrayLen 180 = 65 := rfl
      have hsl : ∀ W, (Instr.sliceAt 180 (.pointer (some ⟨w.heap.size, 0, none⟩)) (some (.int .i64 62)) none none).run Tryz.prog W = .ok (.slice (some ⟨w.heap.size, 62, none⟩) 3 3) W := fun W => by
        rw [run_sliceAt_array_l W 180 ⟨w.heap.size, 0, none⟩ rfl .i64 62 (by omega) (by rw [hal]; omega)]
        rfl
      have e62 := World.cell?_setCell_same _ _ (.int .u8 49) h62
      have e63 := (World.cell?_setCell_other _ _ _ (.int .u8 49) (show (⟨w.heap.size, 62, none⟩ : Addr) ≠ ⟨w.heap.size, 63, none⟩ by simp)).trans h63
      have e64 := (World.cell?_setCell_other _ _ _ (.int .u8 49) (show (⟨w.heap.size, 62, none⟩ : Addr) ≠ ⟨w.heap.size, 64, none⟩ by simp)).trans h64
      have hcv : (convert 28 9 (.slice (some ⟨w.heap.size, 62, none⟩) 3 3)).run Tryz.prog (wr.setCell ⟨w.heap.size, 62, none⟩ (.int .u8 49)) = .ok (.string (mkB [49, x1, x0])) (wr.setCell ⟨w.heap.size, 62, none⟩ (.int .u8 49)) :=
        run_convert_bytes_back (P := Tryz.prog) (wr.setCell ⟨w.heap.size, 62, none⟩ (.int .u8 49)) 28 9 5 ⟨w.heap.size, 62, none⟩ 3 [49, x1, x0] Tryz.underlying28 Tryz.underlying5 Tryz.underlying9 (fun j hj => by
          rw [Lib.add_plain]
          match j, hj with
          | 0, _ => exact e62
          | 1, _ => exact e63
          | 2, _ => exact e64)
      clear e62 e63 e64 hal
      have hfz := hfz 62
      generalize hR : mkB [49, x1, x0] = RES at *
      have hR' := Lib.hid hR; clear hR
      go_wp2_with fail
      go_ret2
      exact ⟨by rw [hR'.out]; rfl, hbw.setCell (Nat.le_refl _) _⟩

theorem formatInt_in (c : Nat) (hc : c < 256) (w : World) (hG : GW w) : Calls Tryz.prog 97 #[.int .i64 ((c : Int) + 256), .int .i64 16] w fun e w' => e = .returned (.string (mkB [49, hexL (c / 16), hexL (c % 16)])) ∧ Below w.heap.size w w' := by
  have h := formatBits_hex c hc w hG
  rw [show (((256 + c : Nat) : Int)) = (c : Int) + 256 by omega] at h
  have hlt : ¬ (c : Int) + 256 < 0 := by omega
  have hw : IntKind.u64.wrap ((c : Int) + 256) = (c : Int) + 256 := by rw [IntKind.wrap_u64]; omega
  have h0 : 0 ≤ (c : Int) + 256 := by omega
  generalize (c : Int) + 256 = u at *
  go_enter Tryz.func97, Tryz.ntmps97
  go_wp2_with fail
  refine h.mono ?_
  rintro e w1 ⟨rfl, hb⟩
  go_wp2_with fail
  go_ret
  exact ⟨rfl, hb⟩
theorem formatInt_hex (c : Nat) (hc : c < 256) (w : World) (hG : GW w) : Calls Tryz.prog 56 #[.int .i64 ((c : Int) + 256), .int .i64 16] w fun e w' => e = .returned (.string (mkB [49, hexL (c / 16), hexL (c % 16)])) ∧ Below w.heap.size w w' := by
  have h := formatInt_in c hc w hG
  generalize (c : Int) + 256 = u at *
  go_enter Tryz.func56, Tryz.ntmps56
  go_wp2_with fail
  refine h.mono ?_
  rintro e w1 ⟨rfl, hb⟩
  go_wp2_with fail
  go_ret
  exact ⟨rfl, hb⟩
end Go.Proofs.YthdlibgiejpjeaaGreatDoor.Given
