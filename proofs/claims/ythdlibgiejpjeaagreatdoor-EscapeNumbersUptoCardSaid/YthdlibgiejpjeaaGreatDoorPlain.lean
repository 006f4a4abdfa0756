/- The contract of the answer's Plain. -/
import Derived.Test.YthdlibgiejpjeaaGreatDoorGivM
import Derived.Test.YthdlibgiejpjeaaGreatDoorNumM
import Derived.Outline
set_option linter.unusedVariables false
set_option linter.unusedSimpArgs false
namespace Go.Proofs.YthdlibgiejpjeaaGreatDoor.Given
open Go.RowKit Go.Proofs.YthdlibgiejpjeaaGreatDoor Go.Proofs.YthdlibgiejpjeaaGreatDoorW.PrintWords Go.Proofs.YthdlibgiejpjeaaGreatDoor.Spec

def marksL : List UInt8 := [45, 95, 46, 33, 126, 42, 39, 40, 41, 59, 47, 63, 58, 64, 61, 43, 36, 44, 35, 37]
def markAt (k : Nat) : UInt8 := marksL.getD k 0
theorem mark_at (k : Nat) (h : k < 20) (W : World) : (Instr.index 9 (.string ⟨#[45, 95, 46, 33, 126, 42, 39, 40, 41, 59, 47, 63, 58, 64, 61, 43, 36, 44, 35, 37]⟩) (.int .i64 (k : Int))).run Tryz.prog W = .ok (.int .u8 ((markAt k).toNat : Int)) W := by
  rw [run_index_string _ _ _ _ _ Tryz.underlying9]
  have hs : 0 ≤ (k : Int) ∧ (k : Int) < ((⟨#[45, 95, 46, 33, 126, 42, 39, 40, 41, 59, 47, 63, 58, 64, 61, 43, 36, 44, 35, 37]⟩ : ByteArray).size : Int) := ⟨by omega, by show (k : Int) < 20; omega⟩
  rw [dif_pos hs]
  have : ∀ n : Fin 20, ∀ h : (n.val : Int).toNat < (⟨#[45, 95, 46, 33, 126, 42, 39, 40, 41, 59, 47, 63, 58, 64, 61, 43, 36, 44, 35, 37]⟩ : ByteArray).size, (⟨#[45, 95, 46, 33, 126, 42, 39, 40, 41, 59, 47, 63, 58, 64, 61, 43, 36, 44, 35, 37]⟩ : ByteArray)[(n.val : Int).toNat]'h = markAt n.val := by decide +kernel
  rw [← this ⟨k, h⟩ (by show k < 20; exact h)]
theorem plain_let : ∀ c : Fin 256, ((48 ≤ c.val ∧ c.val ≤ 57) ∨ (65 ≤ c.val ∧ c.val ≤ 90) ∨ (97 ≤ c.val ∧ c.val ≤ 122)) → plainU c.val.toUInt8 = true := by decide +kernel
theorem plain_not : ∀ c : Fin 256, ¬ ((48 ≤ c.val ∧ c.val ≤ 57) ∨ (65 ≤ c.val ∧ c.val ≤ 90) ∨ (97 ≤ c.val ∧ c.val ≤ 122)) → plainU c.val.toUInt8 = (List.range 20).any (fun k => markAt k == c.val.toUInt8) := by decide +kernel

set_option maxHeartbeats 4000000 in
set_option maxRecDepth 1000000 in
theorem plain_calls (c : UInt8) (w : World) : Calls Tryz.prog 29 #[.int .u8 (c.toNat : Int)] w fun e w' => e = .returned (.bool (plainU c)) ∧ Drawn0 w w' := by
  have hl := plain_let ⟨c.toNat, c.toNat_lt⟩
  have hn := plain_not ⟨c.toNat, c.toNat_lt⟩
  rw [show (⟨c.toNat, c.toNat_lt⟩ : Fin 256).val = c.toNat from rfl, show c.toNat.toUInt8 = c by simp] at hl hn
  have hmk := mark_at
  generalize hP : plainU c = P at hl hn ⊢
  clear hP
  obtain ⟨x, hx⟩ : ∃ x : Nat, x = c.toNat := ⟨_, rfl⟩
  have hcx : ∀ k : Nat, (((markAt k).toNat : Int) = (x : Int)) ↔ markAt k = c := fun k => by
    rw [hx]
    exact ⟨fun h => UInt8.toNat_inj.1 (by omega), fun h => by rw [h]⟩
  rw [← hx] at hl hn ⊢
  clear hx
  have hl' := Lib.hid hl; clear hl
  have hn' := Lib.hid hn; clear hn
  have hcx' := Lib.hid hcx; clear hcx
  rcases (by omega : x < 48 ∨ (48 ≤ x ∧ x ≤ 57) ∨ (58 ≤ x ∧ x ≤ 64) ∨ (65 ≤ x ∧ x ≤ 90) ∨ (91 ≤ x ∧ x ≤ 96) ∨ (97 ≤ x ∧ x ≤ 122) ∨ 123 ≤ x) with h | ⟨h, h2⟩ | ⟨h, h2⟩ | ⟨h, h2⟩ | ⟨h, h2⟩ | ⟨h, h2⟩ | h
  · have hP := Lib.hid (hn'.out (by omega))
    go_enter Tryz.func29, Tryz.ntmps29
    go_wp2
    go_loop [4] (fun i => ∃ k : Nat, i = .int .i64 (k : Int) ∧ k ≤ 20 ∧ ∀ j, j < k → markAt j ≠ c) (fun i => 20 - (intOf i).toNat)
    case atStart => exact ⟨0, rfl, Nat.zero_le _, fun j hj => by omega⟩
    case round =>
      obtain ⟨k, rfl, hk, hall⟩ := hrel
      have hall' := Lib.hid hall; clear hall
      by_cases hk2 : k < 20
      · have hm := hmk k hk2
        by_cases he : markAt k = c
        · have hei := (hcx'.out k).2 he
          have hP2 := Lib.hid (show P = true by rw [hP.out]; exact List.any_eq_true.2 ⟨k, List.mem_range.2 hk2, by simp [he]⟩)
          clear he hmk
          generalize ((markAt k).toNat : Int) = y at *
          subst hei
          have hb : ((x : Int) == (x : Int)) = true := by simp
          go_wp2
          go_ret
          exact ⟨by rw [hP2.out]; rfl, Drawn0.refl _⟩
        · have hei : ¬ (((markAt k).toNat : Int) = (x : Int)) := fun h => he ((hcx'.out k).1 h)
          have hall2 := Lib.hid (show ∀ j, j < k + 1 → markAt j ≠ c from fun j hj => by
            by_cases hjk : j = k
            · rw [hjk]; exact he
            · exact hall'.out j (by omega))
          clear he hmk
          generalize ((markAt k).toNat : Int) = y at *
          have hb : (y == (x : Int)) = false := by simpa using hei
          go_wp2
          refine ⟨⟨k + 1, by go_num, by omega, hall2.out⟩, by simp [intOf]; omega⟩
      · have hP2 := Lib.hid (show P = false by
          rw [hP.out, List.any_eq_false]
          intro j hj
          simp only [beq_iff_eq]
          exact hall'.out j (by have := List.mem_range.1 hj; omega))
        have hke : k = 20 := by omega
        subst hke
        clear hmk
        go_wp2
        go_ret
        exact ⟨by rw [hP2.out]; rfl, Drawn0.refl _⟩
  · have hP := Lib.hid (hl'.out (by omega))
    clear hmk
    go_enter Tryz.func29, Tryz.ntmps29
    go_wp2
    go_ret
    exact ⟨by rw [hP.out]; rfl, Drawn0.refl w⟩
  · have hP := Lib.hid (hn'.out (by omega))
    go_enter Tryz.func29, Tryz.ntmps29
    go_wp2
    go_loop [4] (fun i => ∃ k : Nat, i = .int .i64 (k : Int) ∧ k ≤ 20 ∧ ∀ j, j < k → markAt j ≠ c) (fun i => 20 - (intOf i).toNat)
    case atStart => exact ⟨0, rfl, Nat.zero_le _, fun j hj => by omega⟩
    case round =>
      obtain ⟨k, rfl, hk, hall⟩ := hrel
      have hall' := Lib.hid hall; clear hall
      by_cases hk2 : k < 20
      · have hm := hmk k hk2
        by_cases he : markAt k = c
        · have hei := (hcx'.out k).2 he
          have hP2 := Lib.hid (show P = true by rw [hP.out]; exact List.any_eq_true.2 ⟨k, List.mem_range.2 hk2, by simp [he]⟩)
          clear he hmk
          generalize ((markAt k).toNat : Int) = y at *
          subst hei
          have hb : ((x : Int) == (x : Int)) = true := by simp
          go_wp2
          go_ret
          exact ⟨by rw [hP2.out]; rfl, Drawn0.refl _⟩
        · have hei : ¬ (((markAt k).toNat : Int) = (x : Int)) := fun h => he ((hcx'.out k).1 h)
          have hall2 := Lib.hid (show ∀ j, j < k + 1 → markAt j ≠ c from fun j hj => by
            by_cases hjk : j = k
            · rw [hjk]; exact he
            · exact hall'.out j (by omega))
          clear he hmk
          generalize ((markAt k).toNat : Int) = y at *
          have hb : (y == (x : Int)) = false := by simpa using hei
          go_wp2
          refine ⟨⟨k + 1, by go_num, by omega, hall2.out⟩, by simp [intOf]; omega⟩
      · have hP2 := Lib.hid (show P = false by
          rw [hP.out, List.any_eq_false]
          intro j hj
          simp only [beq_iff_eq]
          exact hall'.out j (by have := List.mem_range.1 hj; omega))
        have hke : k = 20 := by omega
        subst hke
        clear hmk
        go_wp2
        go_ret
        exact ⟨by rw [hP2.out]; rfl, Drawn0.refl _⟩
  · have hP := Lib.hid (hl'.out (by omega))
    clear hmk
    go_enter Tryz.func29, Tryz.ntmps29
    go_wp2
    go_ret
    exact ⟨by rw [hP.out]; rfl, Drawn0.refl w⟩
  · have hP := Lib.hid (hn'.out (by omega))
    go_enter Tryz.func29, Tryz.ntmps29
    go_wp2
    go_loop [4] (fun i => ∃ k : Nat, i = .int .i64 (k : Int) ∧ k ≤ 20 ∧ ∀ j, j < k → markAt j ≠ c) (fun i => 20 - (intOf i).toNat)
    case atStart => exact ⟨0, rfl, Nat.zero_le _, fun j hj => by omega⟩
    case round =>
      obtain ⟨k, rfl, hk, hall⟩ := hrel
      have hall' := Lib.hid hall; clear hall
      by_cases hk2 : k < 20
      · have hm := hmk k hk2
        by_cases he : markAt k = c
        · have hei := (hcx'.out k).2 he
          have hP2 := Lib.hid (show P = true by rw [hP.out]; exact List.any_eq_true.2 ⟨k, List.mem_range.2 hk2, by simp [he]⟩)
          clear he hmk
          generalize ((markAt k).toNat : Int) = y at *
          subst hei
          have hb : ((x : Int) == (x : Int)) = true := by simp
          go_wp2
          go_ret
          exact ⟨by rw [hP2.out]; rfl, Drawn0.refl _⟩
        · have hei : ¬ (((markAt k).toNat : Int) = (x : Int)) := fun h => he ((hcx'.out k).1 h)
          have hall2 := Lib.hid (show ∀ j, j < k + 1 → markAt j ≠ c from fun j hj => by
            by_cases hjk : j = k
            · rw [hjk]; exact he
            · exact hall'.out j (by omega))
          clear he hmk
          generalize ((markAt k).toNat : Int) = y at *
          have hb : (y == (x : Int)) = false := by simpa using hei
          go_wp2
          refine ⟨⟨k + 1, by go_num, by omega, hall2.out⟩, by simp [intOf]; omega⟩
      · have hP2 := Lib.hid (show P = false by
          rw [hP.out, List.any_eq_false]
          intro j hj
          simp only [beq_iff_eq]
          exact hall'.out j (by have := List.mem_range.1 hj; omega))
        have hke : k = 20 := by omega
        subst hke
        clear hmk
        go_wp2
        go_ret
        exact ⟨by rw [hP2.out]; rfl, Drawn0.refl _⟩
  · have hP := Lib.hid (hl'.out (by omega))
    clear hmk
    go_enter Tryz.func29, Tryz.ntmps29
    go_wp2
    go_ret
    exact ⟨by rw [hP.out]; rfl, Drawn0.refl w⟩
  · have hP := Lib.hid (hn'.out (by omega))
    go_enter Tryz.func29, Tryz.ntmps29
    go_wp2
    go_loop [4] (fun i => ∃ k : Nat, i = .int .i64 (k : Int) ∧ k ≤ 20 ∧ ∀ j, j < k → markAt j ≠ c) (fun i => 20 - (intOf i).toNat)
    case atStart => exact ⟨0, rfl, Nat.zero_le _, fun j hj => by omega⟩
    case round =>
      obtain ⟨k, rfl, hk, hall⟩ := hrel
      have hall' := Lib.hid hall; clear hall
      by_cases hk2 : k < 20
      · have hm := hmk k hk2
        by_cases he : markAt k = c
        · have hei := (hcx'.out k).2 he
          have hP2 := Lib.hid (show P = true by rw [hP.out]; exact List.any_eq_true.2 ⟨k, List.mem_range.2 hk2, by simp [he]⟩)
          clear he hmk
          generalize ((markAt k).toNat : Int) = y at *
          subst hei
          have hb : ((x : Int) == (x : Int)) = true := by simp
          go_wp2
          go_ret
          exact ⟨by rw [hP2.out]; rfl, Drawn0.refl _⟩
        · have hei : ¬ (((markAt k).toNat : Int) = (x : Int)) := fun h => he ((hcx'.out k).1 h)
          have hall2 := Lib.hid (show ∀ j, j < k + 1 → markAt j ≠ c from fun j hj => by
            by_cases hjk : j = k
            · rw [hjk]; exact he
            · exact hall'.out j (by omega))
          clear he hmk
          generalize ((markAt k).toNat : Int) = y at *
          have hb : (y == (x : Int)) = false := by simpa using hei
          go_wp2
          refine ⟨⟨k + 1, by go_num, by omega, hall2.out⟩, by simp [intOf]; omega⟩
      · have hP2 := Lib.hid (show P = false by
          rw [hP.out, List.any_eq_false]
          intro j hj
          simp only [beq_iff_eq]
          exact hall'.out j (by have := List.mem_range.1 hj; omega))
        have hke : k = 20 := by omega
        subst hke
        clear hmk
        go_wp2
        go_ret
        exact ⟨by rw [hP2.out]; rfl, Drawn0.refl _⟩
theorem scriptoriumref02_Plain.calls (a0 : Int) (r : Bool) (w : World) (hG : GW w) (h : scriptoriumref02_Plain.f a0 = some r) :
    Calls Tryz.prog 29 #[.int .u8 a0] w fun e w' => e = .returned (.bool r) ∧ Drawn0 w w' := by
  unfold scriptoriumref02_Plain.f at h
  split at h
  · rename_i hs
    injection h with h
    subst h
    have := plain_calls a0.toNat.toUInt8 w
    rwa [show ((a0.toNat.toUInt8.toNat : Nat) : Int) = a0 by simp [Nat.toUInt8, UInt8.toNat_ofNat']; omega] at this
  · cases h
end Go.Proofs.YthdlibgiejpjeaaGreatDoor.Given
