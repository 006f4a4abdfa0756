import Derived.Test.YthdlibgiejpjeaaGreatDoorKT
import Derived.Test.YthdlibgiejpjeaaGreatDoorPureAid
import Derived.Test.YthdlibgiejpjeaaGreatDoorNumM
import Derived.Outline
import Derived.Test.YthdlibgiejpjeaaGreatDoorShelfC
import Derived.WalkMore
import Derived.BigRegion
import Derived.Deep.RegionWith
import Derived.Test.YthdlibgiejpjeaaGreatDoorGiven67
import Derived.Deep.DeepCutAuto
/- What span's scan methods may do to any text: what is left is no longer than what was. -/
set_option linter.unusedVariables false
set_option linter.unusedSimpArgs false
namespace Go.Proofs.YthdlibgiejpjeaaGreatDoor.ScanWeak
open Go Go.RowKit Go.Proofs.YthdlibgiejpjeaaGreatDoor Go.Proofs.YthdlibgiejpjeaaGreatDoor.Given Go.Proofs.YthdlibgiejpjeaaGreatDoor.KT Go.Proofs.YthdlibgiejpjeaaGreatDoorW.PrintWords Go.Proofs.YthdlibgiejpjeaaGreatDoor.Spec Go.Proofs.YthdlibgiejpjeaaGreatDoor.PureAid

theorem ixb_some (a : ByteArray) (c : Int) : ∃ r, strings_IndexByte.f a c = some r := ⟨_, rfl⟩
theorem is_some (c : Int) (a1 a2 : Bool) (a3 : ByteArray) : ∃ b, span_is.f c a1 a2 a3 = some b := by
  obtain ⟨r, hr⟩ := ixb_some a3 c
  unfold span_is.f
  rw [hr]
  simp only [Option.bind_some]
  repeat' (first | exact ⟨_, rfl⟩ | split)
theorem some_l0 (x : List UInt8) (hx : x.length ≤ 4000000000) (a1 a2 : Bool) (a3 : ByteArray) : ∀ (d i : Nat), i + d = x.length → ∃ n, n ≤ x.length ∧ Ev (fun k => span_scan_some.l0 k a1 a2 a3 (i : Int) (mkB x)) ((n : Int), mkB (x.drop n)) := by
  intro d
  have fin : ∀ i, i ≤ x.length → (if (i : Int) ≤ ((mkB x).size : Int) then (some ((i : Int), (mkB x).extract (i : Int).toNat (mkB x).size)) else (none)) = some ((i : Int), mkB (x.drop i)) := fun i hi => by
    rw [if_pos (by rw [mkB_size]; omega), Int.toNat_natCast, mkB_drop]
  induction d with
  | zero =>
    intro i hi
    refine ⟨i, by omega, 1, fun k hk => ?_⟩
    obtain ⟨m, rfl⟩ : ∃ m, k = m + 1 := ⟨k - 1, by omega⟩
    show span_scan_some.l0 (m + 1) _ _ _ _ _ = _
    rw [span_scan_some.l0, if_neg (by rw [mkB_size]; omega), if_pos (by omega), fin i (by omega)]
  | succ d ih =>
    intro i hi
    obtain ⟨b, hb⟩ := is_some (bt (mkB x) (i : Int)) a1 a2 a3
    cases b
    · refine ⟨i, by omega, 1, fun k hk => ?_⟩
      obtain ⟨m, rfl⟩ : ∃ m, k = m + 1 := ⟨k - 1, by omega⟩
      show span_scan_some.l0 (m + 1) _ _ _ _ _ = _
      rw [span_scan_some.l0, if_pos (by rw [mkB_size]; omega), if_pos (by omega), hb, Option.bind_some, if_neg (by decide), fin i (by omega)]
    · obtain ⟨n, hn, hev⟩ := ih (i + 1) (by omega)
      refine ⟨n, hn, Ev.step (fun k => ?_) hev⟩
      show span_scan_some.l0 (k + 1) _ _ _ _ _ = _
      rw [span_scan_some.l0, if_pos (by rw [mkB_size]; omega), if_pos (by omega), hb, Option.bind_some, if_pos (show true = true from rfl), wrap_in _ (by omega)]
      rfl
theorem some_ev (x : List UInt8) (hx : x.length ≤ 4000000000) (a1 a2 : Bool) (a3 : ByteArray) : ∃ n, n ≤ x.length ∧ Ev (fun k => span_scan_some.f k (mkB x) a1 a2 a3) ((n : Int), mkB (x.drop n)) :=
  some_l0 x hx a1 a2 a3 x.length 0 (by omega)
theorem text_some (x : List UInt8) (t : ByteArray) : ∃ b r, r.length ≤ x.length ∧ (b = true → t.size + r.length ≤ x.length) ∧ span_scan_text.f (mkB x) t = some (b, mkB r) := by
  refine ⟨Lib.hasPrefix x t.data.toList, Lib.trimPrefix x t.data.toList, ?_, ?_, rfl⟩
  · unfold Lib.trimPrefix; split
    · rw [List.length_drop]; omega
    · exact Nat.le_refl _
  · intro h
    unfold Lib.trimPrefix
    rw [if_pos h, List.length_drop]
    have : t.data.toList.length ≤ x.length := by
      have h2 := h
      unfold Lib.hasPrefix at h2
      exact (List.isPrefixOf_iff_prefix.1 h2).length_le
    rw [Lib.size_eq]; omega
theorem name_ev (x : List UInt8) (hx : x.length ≤ 4000000000) : ∃ b r, r.length ≤ x.length ∧ Ev (fun k => span_scan_name.f k (mkB x)) (b, mkB r) := by
  unfold span_scan_name.f
  rw [mkB_toList]
  cases x with
  | nil => exact ⟨false, [], Nat.le_refl _, 0, fun k _ => if_pos rfl⟩
  | cons c r =>
    have hs : 0 < ((mkB (c :: r)).size : Int) := by rw [mkB_size]; simp only [List.length_cons]; omega
    obtain ⟨b, hb⟩ := is_some (bt (mkB (c :: r)) 0) true false (⟨#[]⟩ : ByteArray)
    obtain ⟨n, hn, hev⟩ := some_ev (c :: r) hx true true (⟨#[45]⟩ : ByteArray)
    cases b
    · refine ⟨false, c :: r, Nat.le_refl _, 0, fun k _ => ?_⟩
      dsimp only
      rw [if_neg (by simp), if_pos hs, hb, Option.bind_some, if_neg (by decide)]
    · refine ⟨decide ((n : Int) > 0), (c :: r).drop n, by rw [List.length_drop]; omega, ?_⟩
      refine Ev.congr (fun k => ?_) (Ev.bind (f := fun _ bt114 => some (decide (bt114.1 > 0), bt114.2)) hev (Ev.now _))
      rw [if_neg (by simp), if_pos hs, hb, Option.bind_some, if_pos (show true = true from rfl)]
theorem gap_ev (x : List UInt8) (hx : x.length ≤ 1000000000) : ∃ (n : Nat) (r : List UInt8), r.length + n = x.length ∧ Ev (fun k => span_scan_gap.f k (mkB x)) ((n : Int), mkB r) := by
  obtain ⟨n, hn, h1⟩ := some_ev x (by omega) false false (⟨#[32, 9]⟩ : ByteArray)
  have hl1 : (x.drop n).length = x.length - n := List.length_drop
  by_cases hb : Lib.hasPrefix (x.drop n) [10] = true
  · have h2 : span_scan_text.f (mkB (x.drop n)) (⟨#[10]⟩ : ByteArray) = some (true, mkB ((x.drop n).drop 1)) := by
      show some (Lib.hasPrefix (x.drop n) [10], mkB (Lib.trimPrefix (x.drop n) [10])) = _
      rw [hb]; unfold Lib.trimPrefix; rw [if_pos hb]; rfl
    have hp : 1 ≤ (x.drop n).length := by
      unfold Lib.hasPrefix at hb
      exact (List.isPrefixOf_iff_prefix.1 hb).length_le
    have hl2 : ((x.drop n).drop 1).length = x.length - n - 1 := by rw [List.length_drop, hl1]
    obtain ⟨m, hm, h3⟩ := some_ev ((x.drop n).drop 1) (by omega) false false (⟨#[32, 9]⟩ : ByteArray)
    refine ⟨n + (1 + m), ((x.drop n).drop 1).drop m, by rw [List.length_drop, hl2]; omega, ?_⟩
    refine Ev.bind h1 ?_
    refine Ev.congr (f := fun k => (span_scan_some.f k (mkB ((x.drop n).drop 1)) false false (⟨#[32, 9]⟩ : ByteArray)).bind fun bt120 => (some (wrap64 ((n : Int) + (wrap64 (1 + bt120.1))), bt120.2))) (fun k => by rw [h2, Option.bind_some, if_pos (show true = true from rfl)]) (Ev.bind h3 ⟨0, fun k _ => ?_⟩)
    show some (wrap64 ((n : Int) + (wrap64 (1 + (m : Int)))), mkB (((x.drop n).drop 1).drop m)) = _
    rw [wrap_in (1 + (m : Int)) (by omega), wrap_in _ (by omega)]
    rfl
  · have h2 : span_scan_text.f (mkB (x.drop n)) (⟨#[10]⟩ : ByteArray) = some (false, mkB (x.drop n)) := by
      have hb' : Lib.hasPrefix (x.drop n) [10] = false := by simpa using hb
      show some (Lib.hasPrefix (x.drop n) [10], mkB (Lib.trimPrefix (x.drop n) [10])) = _
      rw [hb']; unfold Lib.trimPrefix; rw [if_neg hb]
    refine ⟨n, x.drop n, by omega, ?_⟩
    refine Ev.bind h1 ⟨0, fun k _ => ?_⟩
    dsimp only
    rw [h2, Option.bind_some, if_neg (show ¬ (false = true) by decide)]
end Go.Proofs.YthdlibgiejpjeaaGreatDoor.ScanWeak

/- strings.IndexRune of a rune that is no ASCII one in the nine bytes that span's value looks for: -1. -/
set_option linter.unusedVariables false
set_option linter.unusedSimpArgs false
namespace Go.Proofs.YthdlibgiejpjeaaGreatDoor.Given
open Go.RowKit Go.Proofs.YthdlibgiejpjeaaGreatDoor Go.Proofs.YthdlibgiejpjeaaGreatDoorW.PrintWords Go.Proofs.YthdlibgiejpjeaaGreatDoor.Spec

def nine : ByteArray := ⟨#[9, 10, 32, 34, 39, 61, 60, 62, 96]⟩
theorem nine_at (pos : Nat) (h : pos < 9) : Utf8.decode nine pos = ((nine.data.toList.getD pos 0).toNat, 1) ∧ (nine.data.toList.getD pos 0).toNat < 128 := by
  have : ∀ p : Fin 9, Utf8.decode nine p.val = ((nine.data.toList.getD p.val 0).toNat, 1) ∧ (nine.data.toList.getD p.val 0).toNat < 128 := by decide +kernel
  exact this ⟨pos, h⟩
/-- Nothing changes but new blocks; the answer is -1. -/
def Minus (w : World) (e : Ending) (w' : World) : Prop := e = .returned (.int .i64 (-1)) ∧ Below w.heap.size w w'
set_option maxHeartbeats 4000000 in
set_option maxRecDepth 1000000 in
theorem indexRune_err (w : World) (hG : GW w) : Calls Tryz.prog 179 #[.string nine, .int .i32 65533] w (Minus w) := by
  have hns : nine.size = 9 := rfl
  have hns2 := Lib.hid hns; clear hns
  have hat := Lib.hid nine_at
  generalize hNB : nine = NB at *
  have hNB2 := Lib.hid hNB; clear hNB
  go_enter Tryz.func179, Tryz.ntmps179
  go_wp2
  go_loopw [] (fun wr => ∃ pos, pos ≤ 9 ∧ wr.heap[w.heap.size]? = some (.stringIter NB pos) ∧ Below w.heap.size w wr) (fun wr => 9 - wr.iterPos w.heap.size)
  case atStart =>
    refine ⟨0, by omega, ?_, (Below.refl _ w).alloc (Nat.le_refl _) _⟩
    simpa using World.iter_heap w NB 0
  case round =>
    obtain ⟨pos, hpos, hit, hbw⟩ := hrel
    have hsz : w.heap.size < wr.heap.size := (Array.getElem?_eq_some_iff.1 hit).1
    have hm := Lib.hid (show wr.iterPos w.heap.size = pos by simp [World.iterPos, hit])
    by_cases hlt : pos < 9
    · have hnx : ∀ ty, (Instr.next (.pointer (some ⟨w.heap.size, 0, none⟩)) true ty).run Tryz.prog wr = _ := fun ty => Lib.run_next_any_at wr w.heap.size NB pos ty hit (by have := hns2.out; omega)
      obtain ⟨hd, ha⟩ := hat.out pos hlt
      rw [hd] at hnx
      have hit2 := Lib.iterAt_heap wr w.heap.size NB pos (pos + 1) hit
      have hbw2 := Lib.below_iterAt hbw (k := w.heap.size) (Nat.le_refl _) NB (pos + 1)
      generalize (NB.data.toList.getD pos 0).toNat = b at *
      have hne : ((b : Int) == 65533) = false := by rw [beq_eq_false_iff_ne]; omega
      clear hd
      have hbw3 := Lib.hid hbw2; clear hbw2 hbw
      have hit3 := Lib.hid hit2; clear hit2
      go_wp2
      refine ⟨⟨pos + 1, by omega, hit3.out, hbw3.out⟩, ?_⟩
      rw [hm.out]; simp only [World.iterPos, hit3.out]; omega
    · obtain rfl : pos = 9 := by omega
      have hnx : ∀ ty, (Instr.next (.pointer (some ⟨w.heap.size, 0, none⟩)) true ty).run Tryz.prog wr = _ := fun ty => Lib.run_next_end_at wr w.heap.size NB 9 ty hit (by have := hns2.out; omega)
      have hbw3 := Lib.hid hbw; clear hbw
      go_wp2
      go_ret
      exact ⟨rfl, hbw3.out⟩
end Go.Proofs.YthdlibgiejpjeaaGreatDoor.Given

/- strings.IndexRune of a valid rune beyond ASCII in the nine bytes: -1. -/
set_option linter.unusedVariables false
set_option linter.unusedSimpArgs false
namespace Go.Proofs.YthdlibgiejpjeaaGreatDoor.Given
open Go.RowKit Go.Proofs.YthdlibgiejpjeaaGreatDoor Go.Proofs.YthdlibgiejpjeaaGreatDoorW.PrintWords Go.Proofs.YthdlibgiejpjeaaGreatDoor.Spec

theorem indexByte_none (l : List UInt8) (b : UInt8) (h : ∀ x ∈ l, x ≠ b) : Lib.indexByte l b = -1 := by
  induction l with
  | nil => rfl
  | cons x l ih =>
    unfold Lib.indexByte
    rw [if_neg (by simpa using h x List.mem_cons_self), ih fun y hy => h y (List.mem_cons_of_mem _ hy)]
    rfl
set_option maxHeartbeats 4000000 in
set_option maxRecDepth 1000000 in
theorem indexRune_wide (w : World) (hG : GW w) (c : Int) (h1 : 128 ≤ c) (h2 : (c == 65533) = false) (hv : Lib.validRune c = true) :
    Calls Tryz.prog 179 #[.string nine, .int .i32 c] w (Minus w) := by
  obtain ⟨RS, hrs⟩ : ∃ RS, Utf8.encode c = RS := ⟨_, rfl⟩
  have hcv : ∀ W, (Go.convert 21 9 (.int .i32 c)).run Tryz.prog W = .ok (.string RS) W := fun W => by
    rw [← hrs]; exact run_convert_int_string _ _ _ _ _ (by kernel_rfl) Tryz.underlying9
  have hfa := encode_facts c ((validRune_eq c).trans hv) h1
  rw [hrs] at hfa
  obtain ⟨hl2, hl4, hlast⟩ := hfa
  obtain ⟨l, hl⟩ : ∃ l : Nat, l + 1 = RS.size := ⟨RS.size - 1, by omega⟩
  obtain ⟨b, hb⟩ : ∃ b : UInt8, RS[RS.size - 1]'(by omega) = b := ⟨_, rfl⟩
  have hb1 : 128 ≤ b.toNat := by rw [← hb]; exact hlast (by omega)
  have hi1 : ∀ W, (Instr.index 9 (.string nine) (.int .i64 (l : Int))).run Tryz.prog W = .ok (.int .u8 ((nine.data.toList.getD l 0).toNat : Int)) W := fun W => by
    rw [run_index_string _ _ _ _ _ Tryz.underlying9]
    have : l = 1 ∨ l = 2 ∨ l = 3 := by omega
    rcases this with rfl | rfl | rfl <;> rfl
  have hi2 : ∀ W, (Instr.index 9 (.string RS) (.int .i64 (l : Int))).run Tryz.prog W = .ok (.int .u8 (b.toNat : Int)) W := fun W => by
    rw [run_index_string _ _ _ _ _ Tryz.underlying9, dif_pos ⟨by omega, by omega⟩]
    have : RS[(l : Int).toNat]'(by omega) = b := by rw [← hb]; congr 1; omega
    rw [this]
  have hsl : ∀ W, (Instr.slice 9 (.string nine) (some (.int .i64 ((l : Int) + 1))) none none).run Tryz.prog W = .ok (.string (nine.extract (l + 1) 9)) W := fun W => by
    have : l = 1 ∨ l = 2 ∨ l = 3 := by omega
    rw [run_slice_string_from_if _ _ _ _ _ Tryz.underlying9]
    rcases this with rfl | rfl | rfl <;> rfl
  have hne : (((nine.data.toList.getD l 0).toNat : Int) == (b.toNat : Int)) = false := by
    rw [beq_eq_false_iff_ne]
    have : l = 1 ∨ l = 2 ∨ l = 3 := by omega
    rcases this with rfl | rfl | rfl <;> (intro h; have : (b.toNat : Int) < 128 := by rw [← h]; decide
                                          omega)
  have hib : Lib.indexByte (nine.extract (l + 1) 9).data.toList b = -1 := by
    have h9 : ∀ x ∈ nine.data.toList, x.toNat < 128 := by decide +kernel
    exact indexByte_none _ b fun x hx e => by have := h9 x (mem_extract hx); rw [e] at this; omega
  have hIB : ∀ W, Calls Tryz.prog 52 #[.string (nine.extract (l + 1) 9), .int .u8 (b.toNat : Int)] W fun e w' => e = .returned (.int .i64 (-1)) ∧ w' = W := fun W => by
    refine (Tryz.strings_IndexByte (nine.extract (l + 1) 9) (b.toNat : Int) W).mono ?_
    rintro e w' ⟨rfl, rfl⟩
    refine ⟨?_, rfl⟩
    rw [← hib]; simp
  have hvr := Lib.hid (Tryz.utf8_ValidRune c)
  have hns : nine.size = 9 := rfl
  have hns2 := Lib.hid hns; clear hns
  have hv2 := Lib.hid hv; clear hv
  have hsz := Lib.hid hl.symm
  have hll : 1 ≤ l := by omega
  have hl3 : l ≤ 3 := by omega
  clear hb hb1 hl2 hl4 hrs hlast
  generalize hX : nine.extract (l + 1) 9 = X at *
  generalize hNB : nine = NB at *
  have hXX := Lib.hid hX
  generalize (NB.data.toList.getD l 0).toNat = xb at *
  have hNB2 := Lib.hid hNB; clear hNB hX hl hib
  go_enter Tryz.func179, Tryz.ntmps179
  have hs9 := hns2.out
  have hs1 := hsz.out
  go_wp2_with (first | (go_at_call 102; refine (hvr.out _).mono ?_; rintro e w1 ⟨rfl, rfl⟩; rw [hv2.out]))
  go_step3
  go_wp2_with fail
  go_loopw [9, 10] (fun i f wr => i = .int .i64 (l : Int) ∧ f = .int .i64 0 ∧ wr = w1) (fun _ _ _ => 0)
  case atStart =>
    exact ⟨rfl, rfl, rfl⟩
  case round =>
    obtain ⟨rfl, rfl, rfl⟩ := hrel
    go_wp2_with fail
    go_step3
    go_wp2_with fail
    go_region
    rw [show ((xb : Int) != (b.toNat : Int)) = true by rw [bne, hne]; rfl]
    go_wp2_with fail
    have hsl2 : ∀ W, (Instr.slice 9 (.string NB) (some (.int .i64 (IntKind.i64.wrap ((l : Int) + 1)))) none none).run Tryz.prog W = .ok (.string X) W := fun W => by rw [wrap_small _ (by omega) (by omega)]; exact hsl W
    go_region_with (go_at_call 52; refine (hIB _).mono ?_; rintro e w' ⟨rfl, rfl⟩)
    go_wp2_with fail
    rw [Exit.noGoto_ret]
    try go_wp2_with fail
    go_ret
    exact ⟨rfl, ⟨rfl, rfl, rfl, Nat.le_refl _, fun _ _ => rfl⟩⟩
/-- What IndexRune of any rune of a text may answer in the nine bytes. -/
def SomeInt (w : World) (e : Ending) (w' : World) : Prop := (∃ r : Int, e = .returned (.int .i64 r)) ∧ Below w.heap.size w w'
theorem indexRune_any (w : World) (hG : GW w) (c : Int) (h : (0 ≤ c ∧ c < 128) ∨ c = 65533 ∨ (128 ≤ c ∧ Lib.validRune c = true)) :
    Calls Tryz.prog 179 #[.string nine, .int .i32 c] w (SomeInt w) := by
  rcases h with ⟨h0, h1⟩ | rfl | ⟨h1, hv⟩
  · exact (Tryz.strings_IndexRune_ascii nine c w h0 h1).mono fun e w' ⟨he, hw⟩ => ⟨⟨_, he⟩, hw ▸ Below.refl _ _⟩
  · exact (indexRune_err w hG).mono fun e w' ⟨he, hw⟩ => ⟨⟨_, he⟩, hw⟩
  · by_cases h2 : c = 65533
    · subst h2; exact (indexRune_err w hG).mono fun e w' ⟨he, hw⟩ => ⟨⟨_, he⟩, hw⟩
    · exact (indexRune_wide w hG c h1 (by rw [beq_eq_false_iff_ne]; exact h2) hv).mono fun e w' ⟨he, hw⟩ => ⟨⟨_, he⟩, hw⟩
end Go.Proofs.YthdlibgiejpjeaaGreatDoor.Given

/- strings.IndexAny of a text at the nine bytes that span's value looks for: some number between -1 and the text's length. -/
set_option linter.unusedVariables false
set_option linter.unusedSimpArgs false
namespace Go.Proofs.YthdlibgiejpjeaaGreatDoor.Given
open Go.RowKit Go.Proofs.YthdlibgiejpjeaaGreatDoor Go.Proofs.YthdlibgiejpjeaaGreatDoorW.PrintWords Go.Proofs.YthdlibgiejpjeaaGreatDoor.Spec

theorem decode_kind (s : ByteArray) (pos : Nat) : (Utf8.decode s pos).1 < 128 ∨ (Utf8.decode s pos).1 = 65533 ∨ (128 ≤ (Utf8.decode s pos).1 ∧ Utf8.valid ((Utf8.decode s pos).1 : Int) = true) := by
  have hb : ∀ k, (s.get! (pos + k)).toNat < 256 := fun k => (s.get! (pos + k)).toNat_lt
  have h0 := hb 0; have h1 := hb 1; have h2 := hb 2; have h3 := hb 3
  simp only [Utf8.decode]
  repeat' split
  all_goals simp_all [Utf8.runeError, Utf8.valid]
  all_goals omega
theorem width_in (s : ByteArray) (pos : Nat) (h : pos < s.size) : 1 ≤ (Utf8.decode s pos).2 ∧ pos + (Utf8.decode s pos).2 ≤ s.size := by
  simp only [Utf8.decode]
  repeat' split
  all_goals simp_all
  all_goals omega
/-- Some place, or none. -/
def SomeIx (n : Nat) (w : World) (e : Ending) (w' : World) : Prop := (∃ r : Int, e = .returned (.int .i64 r) ∧ -1 ≤ r ∧ r ≤ (n : Int)) ∧ Below w.heap.size w w'
set_option maxHeartbeats 4000000 in
set_option maxRecDepth 1000000 in
theorem indexAny_short (s : ByteArray) (w : World) (hG : GW w) (hs : s.size ≤ 8) : Calls Tryz.prog 154 #[.string s, .string nine] w (SomeIx s.size w) := by
  have hns : nine.size = 9 := rfl
  have hne : nine.toList.isEmpty = false := by decide +kernel
  have hR := Lib.hid indexRune_any
  have hdk := Lib.hid (decode_kind s)
  generalize hNB : nine = NB at *
  have hNB2 := Lib.hid hNB; clear hNB
  go_enter Tryz.func154, Tryz.ntmps154
  go_wp2
  go_loopw [] (fun wr => ∃ pos, pos ≤ s.size ∧ wr.heap[w.heap.size]? = some (.stringIter s pos) ∧ Below w.heap.size w wr) (fun wr => s.size - wr.iterPos w.heap.size)
  case atStart =>
    refine ⟨0, Nat.zero_le _, ?_, (Below.refl _ w).alloc (Nat.le_refl _) _⟩
    simpa using World.iter_heap w s 0
  case round =>
    obtain ⟨pos, hps, hit, hbw⟩ := hrel
    have hsz : w.heap.size < wr.heap.size := (Array.getElem?_eq_some_iff.1 hit).1
    by_cases hp : pos < s.size
    · have hnx : ∀ ty, (Instr.next (.pointer (some ⟨w.heap.size, 0, none⟩)) true ty).run Tryz.prog wr = _ := fun ty => Lib.run_next_any_at wr w.heap.size s pos ty hit hp
      have hit2 := Lib.iterAt_heap wr w.heap.size s pos (pos + (Utf8.decode s pos).2) hit
      have hbw2 := Lib.below_iterAt hbw (k := w.heap.size) (Nat.le_refl _) s (pos + (Utf8.decode s pos).2)
      obtain ⟨hwp, hwl⟩ := width_in s pos hp
      have hk := hdk.out pos
      have hip := Lib.hid (show wr.iterPos w.heap.size = pos by simp [World.iterPos, hit])
      generalize hW1 : wr.iterAt w.heap.size s (pos + (Utf8.decode s pos).2) = W1 at *
      generalize hcc : (Utf8.decode s pos).1 = cc at *
      generalize hww : (Utf8.decode s pos).2 = ww at *
      have hGW := hG.below hbw2
      have hC := Lib.hid (hR.out W1 hGW (cc : Int) (by
        rcases hk with h | h | ⟨h, h2⟩
        · exact .inl ⟨by omega, by omega⟩
        · exact .inr (.inl (by omega))
        · exact .inr (.inr ⟨by omega, (validRune_eq _).symm.trans h2⟩)))
      have hit3 := Lib.hid hit2; clear hit2
      have hbw3 := Lib.hid hbw2; clear hbw2 hbw
      clear hW1 hcc hww hk
      go_wp2_with fail
      refine hC.out.mono ?_
      rintro e w1 ⟨⟨r, rfl⟩, hb1⟩
      have hb2 := Lib.hid hb1; clear hb1
      have hlt : w.heap.size < W1.heap.size := (Array.getElem?_eq_some_iff.1 hit3.out).1
      have hbf := Lib.hid (hbw3.out.trans (hb2.out.mono (Nat.le_of_lt hlt)))
      have hit4 : w1.heap[w.heap.size]? = some (.stringIter s (pos + ww)) := by
        rw [← hit3.out]; exact hb2.out.block _ hlt
      have hit5 := Lib.hid hit4; clear hit4
      go_wp2_with fail
      · go_ret
        exact ⟨⟨_, rfl, by omega, by omega⟩, hbf.out⟩
      · refine ⟨⟨pos + ww, by omega, hit5.out, hbf.out⟩, ?_⟩
        rw [hip.out]; simp only [World.iterPos, hit5.out]; omega
    · obtain rfl : pos = s.size := by omega
      have hnx : ∀ ty, (Instr.next (.pointer (some ⟨w.heap.size, 0, none⟩)) true ty).run Tryz.prog wr = _ := fun ty => Lib.run_next_end_at wr w.heap.size s s.size ty hit (Nat.lt_irrefl _)
      have hbw3 := Lib.hid hbw; clear hbw
      go_wp2
      go_ret
      exact ⟨⟨-1, rfl, by omega, by omega⟩, hbw3.out⟩
theorem indexAny_le (cs : List UInt8) : ∀ l : List UInt8, Lib.indexAny l cs ≤ (l.length : Int)
  | [] => by show (-1 : Int) ≤ 0; decide
  | b :: l => by
    have ih := indexAny_le cs l
    unfold Lib.indexAny
    rw [List.length_cons]
    split
    · omega
    · split <;> omega
set_option maxRecDepth 100000 in
theorem indexAny_any (s : ByteArray) (w : World) (hG : GW w) (hs : s.size < 4294967281) : Calls Tryz.prog 154 #[.string s, .string nine] w (SomeIx s.size w) := by
  by_cases h : s.size ≤ 8
  · exact indexAny_short s w hG h
  · refine (Tryz.strings_IndexAny_long ?_ s nine w (by decide +kernel) (by omega) hs (by decide +kernel) ?_).mono ?_
    · exact (zero_of_info (P := Tryz.prog) (n := 256) (by kernel_rfl)).1
    · intro j b hb
      have h9 : ∀ x ∈ nine.data.toList, x.toNat < 128 := by decide +kernel
      exact h9 b (List.mem_of_getElem? hb)
    · rintro e w' ⟨rfl, rfl⟩
      refine ⟨⟨_, rfl, ?_, ?_⟩, ((Below.refl _ w).alloc (Nat.le_refl _) _).alloc (by simp) _⟩
      · exact Lib.indexAny_ge _ _
      · rw [Lib.size_eq]; exact indexAny_le _ _
end Go.Proofs.YthdlibgiejpjeaaGreatDoor.Given

/- Contracts of span's scan methods that say how much is left, and no more. -/
set_option linter.unusedVariables false
set_option linter.unusedSimpArgs false
namespace Go.Proofs.YthdlibgiejpjeaaGreatDoor.ScanWeak
open Go Go.RowKit Go.Proofs.YthdlibgiejpjeaaGreatDoor Go.Proofs.YthdlibgiejpjeaaGreatDoor.Given Go.Proofs.YthdlibgiejpjeaaGreatDoor.KT Go.Proofs.YthdlibgiejpjeaaGreatDoorW.PrintWords Go.Proofs.YthdlibgiejpjeaaGreatDoor.Spec Go.Proofs.YthdlibgiejpjeaaGreatDoor.PureAid

/-- The scan at block g holds the text x; the world is w0 with new blocks. -/
def At (w0 : World) (g : Nat) (x : List UInt8) (W : World) : Prop := W.heap[g]? = some (.cells #[.string (mkB x)] 124 (0, 0)) ∧ w0.heap.size ≤ g ∧ Below w0.heap.size w0 W
theorem At.lt {w0 W : World} {g : Nat} {x : List UInt8} (h : At w0 g x W) : g < W.heap.size := (Array.getElem?_eq_some_iff.1 h.1).1
theorem At.cell {w0 W : World} {g : Nat} {x : List UInt8} (h : At w0 g x W) : W.cell? ⟨g, 0, none⟩ = some (.string (mkB x)) := cellS124_0 h.1
theorem At.frozen {w0 W : World} {g : Nat} {x : List UInt8} (h : At w0 g x W) : W.frozen? ⟨g, 0, none⟩ = false := blk_frozen h.1 0
theorem At.below {w0 W W1 : World} {g : Nat} {x : List UInt8} (h : At w0 g x W) (hb : Below W.heap.size W W1) : At w0 g x W1 := ⟨(hb.block g h.lt).trans h.1, h.2.1, h.2.2.trans (hb.mono h.2.2.size)⟩
theorem At.set {w0 W : World} {g : Nat} {x : List UInt8} (h : At w0 g x W) (y : List UInt8) : At w0 g y (W.setCell ⟨g, 0, none⟩ (.string (mkB y))) :=
  ⟨(IsS124.set_0 (w0 := w0) ⟨h.1, h.2.1⟩ (mkB y)).1, h.2.1, h.2.2.setCell h.2.1 _⟩
def Keeps (w0 : World) (g : Nat) (w w' : World) : Prop := ∀ g' y, g' ≠ g → At w0 g' y w → At w0 g' y w'
theorem keeps_of {w0 w w' : World} {g : Nat} (hk : KeepBut w w' g none) (hb : Below w0.heap.size w0 w') : Keeps w0 g w w' := fun g' y hn h => ⟨hk.blk h.1 hn (by simp), h.2.1, hb⟩
def TextP (w0 w : World) (g : Nat) (x : List UInt8) (m : Nat) (e : Ending) (w' : World) : Prop := ∃ b r, e = .returned (.bool b) ∧ r.length ≤ x.length ∧ (b = true → m + r.length ≤ x.length) ∧ At w0 g r w' ∧ Keeps w0 g w w'
def GapP (w0 w : World) (g : Nat) (x : List UInt8) (e : Ending) (w' : World) : Prop := ∃ (n : Nat) (r : List UInt8), e = .returned (.int .i64 (n : Int)) ∧ r.length + n = x.length ∧ At w0 g r w' ∧ Keeps w0 g w w'
def BoolP (w0 w : World) (g : Nat) (x : List UInt8) (e : Ending) (w' : World) : Prop := ∃ b r, e = .returned (.bool b) ∧ r.length ≤ x.length ∧ At w0 g r w' ∧ Keeps w0 g w w'
theorem text_calls (w0 w : World) (g : Nat) (x : List UInt8) (t : ByteArray) (hG : GW w0) (h : At w0 g x w) : Calls Tryz.prog 119 #[.pointer (some ⟨g, 0, none⟩), .string t] w (TextP w0 w g x t.size) := by
  obtain ⟨b, r, h1, h2, h3⟩ := text_some x t
  exact (span_scan_text.calls g (mkB x) t b (mkB r) w0 w ⟨h.1, h.2.1⟩ h.2.2 hG h3).mono fun e w' ⟨he, hi, hb, hk⟩ => ⟨b, r, he, h1, h2, ⟨hi.1, hi.2, hb⟩, keeps_of hk hb⟩
theorem gap_calls (w0 w : World) (g : Nat) (x : List UInt8) (hx : x.length ≤ 1000000000) (hG : GW w0) (h : At w0 g x w) : Calls Tryz.prog 121 #[.pointer (some ⟨g, 0, none⟩)] w (GapP w0 w g x) := by
  obtain ⟨n, r, h1, K, h3⟩ := gap_ev x hx
  exact (span_scan_gap.calls K g (mkB x) n (mkB r) w0 w ⟨h.1, h.2.1⟩ h.2.2 hG (h3 K (Nat.le_refl _))).mono fun e w' ⟨he, hi, hb, hk⟩ => ⟨n, r, he, h1, ⟨hi.1, hi.2, hb⟩, keeps_of hk hb⟩
theorem some_calls (w0 w : World) (g : Nat) (x : List UInt8) (hx : x.length ≤ 1000000000) (a1 a2 : Bool) (a3 : ByteArray) (hG : GW w0) (h : At w0 g x w) : Calls Tryz.prog 123 #[.pointer (some ⟨g, 0, none⟩), .bool a1, .bool a2, .string a3] w (GapP w0 w g x) := by
  obtain ⟨n, h1, K, h3⟩ := some_ev x (by omega) a1 a2 a3
  exact (span_scan_some.calls K g (mkB x) a1 a2 a3 n (mkB (x.drop n)) w0 w ⟨h.1, h.2.1⟩ h.2.2 hG (h3 K (Nat.le_refl _))).mono fun e w' ⟨he, hi, hb, hk⟩ => ⟨n, x.drop n, he, by rw [List.length_drop]; omega, ⟨hi.1, hi.2, hb⟩, keeps_of hk hb⟩
theorem name_calls (w0 w : World) (g : Nat) (x : List UInt8) (hx : x.length ≤ 1000000000) (hG : GW w0) (h : At w0 g x w) : Calls Tryz.prog 120 #[.pointer (some ⟨g, 0, none⟩)] w (BoolP w0 w g x) := by
  obtain ⟨b, r, h1, K, h3⟩ := name_ev x (by omega)
  exact (span_scan_name.calls K g (mkB x) b (mkB r) w0 w ⟨h.1, h.2.1⟩ h.2.2 hG (h3 K (Nat.le_refl _))).mono fun e w' ⟨he, hi, hb, hk⟩ => ⟨b, r, he, h1, ⟨hi.1, hi.2, hb⟩, keeps_of hk hb⟩
theorem is_calls (w : World) (c : Int) (a1 a2 : Bool) (a3 : ByteArray) (hG : GW w) : Calls Tryz.prog 122 #[.int .u8 c, .bool a1, .bool a2, .string a3] w fun e w' => (∃ b, e = .returned (.bool b)) ∧ Below w.heap.size w w' := by
  obtain ⟨b, hb⟩ := is_some c a1 a2 a3
  refine (span_is.calls c a1 a2 a3 b w hG hb).mono ?_
  rintro e w' ⟨he, ⟨n, rfl⟩⟩
  exact ⟨⟨b, he⟩, GW.drewN_below w n⟩
end Go.Proofs.YthdlibgiejpjeaaGreatDoor.ScanWeak

/- (*scan).value, weakly. -/
set_option linter.unusedVariables false
set_option linter.unusedSimpArgs false
namespace Go.Proofs.YthdlibgiejpjeaaGreatDoor.ScanWeak
open Go Go.RowKit Go.Proofs.YthdlibgiejpjeaaGreatDoor Go.Proofs.YthdlibgiejpjeaaGreatDoor.Given Go.Proofs.YthdlibgiejpjeaaGreatDoor.KT Go.Proofs.YthdlibgiejpjeaaGreatDoorW.PrintWords Go.Proofs.YthdlibgiejpjeaaGreatDoor.Spec Go.Proofs.YthdlibgiejpjeaaGreatDoor.PureAid

def CutP (x : List UInt8) (w : World) (e : Ending) (w' : World) : Prop := ∃ (a r : List UInt8) (b : Bool), e = .returned (.tuple #[.string (mkB a), .string (mkB r), .bool b]) ∧ r.length ≤ x.length ∧ Below w.heap.size w w'
theorem cut_weak (x : List UInt8) (sep : ByteArray) (w : World) (hG : GW w) (hx : x.length ≤ 1000000000) : Calls Tryz.prog 59 #[.string (mkB x), .string sep] w (CutP x w) :=
  (cut_calls (mkB x) sep w hG (by rw [mkB_size]; omega)).mono fun e w' ⟨he, hb⟩ => ⟨_, (Lib.cut x sep.data.toList).2.1, _, he, by
    unfold Lib.cut
    split
    · rw [List.length_drop]; omega
    · exact Nat.zero_le _, hb⟩
def ValP (w0 : World) (g : Nat) (x : List UInt8) (e : Ending) (w' : World) : Prop := ∃ b r, e = .returned (.bool b) ∧ r.length ≤ x.length ∧ At w0 g r w'
set_option maxHeartbeats 4000000 in
set_option maxRecDepth 1000000 in
theorem value_calls (w0 w : World) (g : Nat) (x : List UInt8) (hx : x.length ≤ 1000000000) (hG : GW w0) (h : At w0 g x w) : Calls Tryz.prog 124 #[.pointer (some ⟨g, 0, none⟩)] w (ValP w0 g x) := by
  have hix0 : ∀ W, (Instr.index 107 (.agg #[.string ⟨#[39]⟩, .string ⟨#[34]⟩]) (.int .i64 0)).run Tryz.prog W = .ok (.string ⟨#[39]⟩) W := fun W => rfl
  have hix1 : ∀ W, (Instr.index 107 (.agg #[.string ⟨#[39]⟩, .string ⟨#[34]⟩]) (.int .i64 1)).run Tryz.prog W = .ok (.string ⟨#[34]⟩) W := fun W => rfl
  have hc := h.cell
  have hf := h.frozen
  obtain ⟨W1, hW1⟩ : ∃ W1, W1 = w.alloc (.cells #[.string (mkB x)] 124) := ⟨_, rfl⟩
  have hvg : w.heap.size ≠ g := by have := h.lt; omega
  have h1 : At w0 g x W1 := by subst hW1; exact h.below ((Below.refl _ _).alloc (Nat.le_refl _) _)
  have h1v : At w0 w.heap.size x W1 := by
    subst hW1
    exact ⟨by simpa using heap_alloc_new w _, h.2.2.size, h1.2.2⟩
  have hgap := Lib.hid (gap_calls w0 W1 g x hx hG h1)
  have h1v' := Lib.hid h1v
  clear h1v h h1
  have hvg' := Lib.hid hvg; clear hvg
  have hlen := Lib.hid hx; clear hx
  have hGh := Lib.hid hG; clear hG
  go_enter Tryz.func124, Tryz.ntmps124
  go_wp2_with fail
  rw [← hW1]
  refine hgap.out.mono ?_
  rintro e w2 ⟨n, r, rfl, hl2, h2, hk2⟩
  have h2v := hk2 _ x hvg'.out h1v'.out
  have htx := Lib.hid (text_calls w0 w2 g r ⟨#[61]⟩ hGh.out h2)
  have hl2' := Lib.hid hl2; clear hl2
  have h2v' := Lib.hid h2v
  clear hc hf h2 h2v hk2 hW1 hgap
  go_wp2_with fail
  refine htx.out.mono ?_
  rintro e w3 ⟨b, r3, rfl, hl3, _, h3, hk3⟩
  have h3v := hk3 _ x hvg'.out h2v'.out
  have hl3' := Lib.hid hl3; clear hl3
  have hvc := h3v.cell
  have hvf := h3v.frozen
  have hgc := h3.cell
  have hgf := h3.frozen
  have h3' := Lib.hid h3; clear h3
  have h3v' := Lib.hid h3v; clear h3v hk3
  go_wp2_with fail
  · go_ret
    exact ⟨true, x, rfl, Nat.le_refl _, h3'.out.set x⟩
  have hgap2 := Lib.hid (gap_calls w0 w3 g r3 (by have := hl2'.out; have := hl3'.out; have := hlen.out; omega) hGh.out h3'.out)
  clear hvc hvf hgc hgf
  refine hgap2.out.mono ?_
  rintro e w4 ⟨n4, r4, rfl, hl4, h4, hk4⟩
  have hl4' := Lib.hid hl4; clear hl4
  have h4' := Lib.hid h4; clear h4 hk4
  have hr4 := Lib.hid (show r4.length ≤ x.length by have := hl2'.out; have := hl3'.out; have := hl4'.out; omega)
  clear hgap2 htx h3v' h3' h2v' hl2' hl3' hl4'
  go_wp2_with fail
  go_loopw [24] (fun i wr => ∃ (k : Nat) (r : List UInt8), i = .int .i64 (k : Int) ∧ (k = 0 ∨ k = 1 ∨ k = 2) ∧ r.length ≤ x.length ∧ At w0 g r wr) (fun i _ => 2 - (intOf i).toNat)
  case atStart => exact ⟨0, r4, rfl, .inl rfl, hr4.out, h4'.out⟩
  case round =>
    obtain ⟨k, r, rfl, hk, hrl, hat⟩ := hrel
    clear hr4
    have hrl' := Lib.hid hrl; clear hrl
    have hat' := Lib.hid hat; clear hat
    rcases hk with rfl | rfl | rfl
    · have ht := Lib.hid (text_calls w0 wr g r ⟨#[39]⟩ hGh.out hat'.out)
      go_wp2_with fail
      refine ht.out.mono ?_
      rintro e w5 ⟨b5, r5, rfl, hl5, _, h5, _⟩
      have hl5' := Lib.hid hl5; clear hl5
      have h5c := h5.cell
      have hcut := Lib.hid (cut_weak r5 ⟨#[39]⟩ w5 (hGh.out.below h5.2.2) (by have := hl5'.out; have := hrl'.out; have := hlen.out; omega))
      have h5' := Lib.hid h5; clear h5
      go_wp2_with fail
      · refine hcut.out.mono ?_
        rintro e w6 ⟨a6, r6, b6, rfl, hl6, hb6⟩
        have h6 := h5'.out.below hb6
        have h6c := h6.cell
        have h6f := h6.frozen
        have hl6' := Lib.hid hl6; clear hl6
        have h6' := Lib.hid h6; clear h6 hb6
        clear h5c
        go_wp2_with fail
        go_ret
        exact ⟨b6, r6, rfl, by have := hl5'.out; have := hrl'.out; have := hl6'.out; omega, h6'.out.set r6⟩
      · exact ⟨⟨1, r5, rfl, .inr (.inl rfl), by have := hl5'.out; have := hrl'.out; omega, h5'.out⟩, by simp [intOf]⟩
    · have ht := Lib.hid (text_calls w0 wr g r ⟨#[34]⟩ hGh.out hat'.out)
      go_wp2_with fail
      refine ht.out.mono ?_
      rintro e w5 ⟨b5, r5, rfl, hl5, _, h5, _⟩
      have hl5' := Lib.hid hl5; clear hl5
      have h5c := h5.cell
      have hcut := Lib.hid (cut_weak r5 ⟨#[34]⟩ w5 (hGh.out.below h5.2.2) (by have := hl5'.out; have := hrl'.out; have := hlen.out; omega))
      have h5' := Lib.hid h5; clear h5
      go_wp2_with fail
      · refine hcut.out.mono ?_
        rintro e w6 ⟨a6, r6, b6, rfl, hl6, hb6⟩
        have h6 := h5'.out.below hb6
        have h6c := h6.cell
        have h6f := h6.frozen
        have hl6' := Lib.hid hl6; clear hl6
        have h6' := Lib.hid h6; clear h6 hb6
        clear h5c
        go_wp2_with fail
        go_ret
        exact ⟨b6, r6, rfl, by have := hl5'.out; have := hrl'.out; have := hl6'.out; omega, h6'.out.set r6⟩
      · exact ⟨⟨2, r5, rfl, .inr (.inr rfl), by have := hl5'.out; have := hrl'.out; omega, h5'.out⟩, by simp [intOf]⟩
    · have hc7 := hat'.out.cell
      have hany := Lib.hid (indexAny_any (mkB r) wr (hGh.out.below hat'.out.2.2) (by rw [mkB_size]; have := hrl'.out; have := hlen.out; omega))
      go_wp2_with fail
      refine hany.out.mono ?_
      rintro e w5 ⟨⟨i, rfl, hi0, hi1⟩, hb5⟩
      rw [mkB_size] at hi1
      have h5 := hat'.out.below hb5
      have h5c := h5.cell
      have h5f := h5.frozen
      have h5' := Lib.hid h5; clear h5 hb5
      clear hany
      by_cases hneg : i < 0
      · have hsl : ∀ W, (Instr.slice 9 (.string (mkB r)) (some (.int .i64 ((mkB r).size : Int))) none none).run Tryz.prog W = .ok (.string (mkB [])) W := fun W => by
          rw [run_slice_string_from_if _ _ _ _ _ Tryz.underlying9, if_pos ⟨by omega, by omega⟩, Int.toNat_natCast]
          have := mkB_drop r r.length
          rw [List.drop_length, mkB_size] at this
          rw [mkB_size, this]
        go_wp2_with fail
        go_ret
        exact ⟨_, [], rfl, Nat.zero_le _, h5'.out.set []⟩
      · obtain ⟨m, rfl⟩ : ∃ m : Nat, i = m := ⟨i.toNat, by omega⟩
        have hsl : ∀ W, (Instr.slice 9 (.string (mkB r)) (some (.int .i64 (m : Int))) none none).run Tryz.prog W = .ok (.string (mkB (r.drop m))) W := fun W => by
          rw [run_slice_string_from_if _ _ _ _ _ Tryz.underlying9, if_pos ⟨by omega, by rw [mkB_size]; omega⟩, Int.toNat_natCast, mkB_drop]
        go_wp2_with fail
        go_ret
        exact ⟨_, r.drop m, rfl, by rw [List.length_drop]; have := hrl'.out; omega, h5'.out.set (r.drop m)⟩
end Go.Proofs.YthdlibgiejpjeaaGreatDoor.ScanWeak

/- span.Tag, weakly: a number between 0 and the text's length. -/
set_option linter.unusedVariables false
set_option linter.unusedSimpArgs false
namespace Go.Proofs.YthdlibgiejpjeaaGreatDoor.ScanWeak
open Go Go.RowKit Go.Proofs.YthdlibgiejpjeaaGreatDoor Go.Proofs.YthdlibgiejpjeaaGreatDoor.Given Go.Proofs.YthdlibgiejpjeaaGreatDoor.KT Go.Proofs.YthdlibgiejpjeaaGreatDoorW.PrintWords Go.Proofs.YthdlibgiejpjeaaGreatDoor.Spec Go.Proofs.YthdlibgiejpjeaaGreatDoor.PureAid

/-- The length of what is left is at most that of the whole text. -/
theorem textA (w0 w : World) (g : Nat) (x0 x : List UInt8) (t : ByteArray) (hG : GW w0) (h : At w0 g x w) (hx : x.length ≤ x0.length) : Calls Tryz.prog 119 #[.pointer (some ⟨g, 0, none⟩), .string t] w fun e w' => ∃ b r, e = .returned (.bool b) ∧ r.length ≤ x0.length ∧ At w0 g r w' := 
  (text_calls w0 w g x t hG h).mono fun e w' ⟨b, r, he, hl, _, hat, _⟩ => ⟨b, r, he, by omega, hat⟩
theorem gapA (w0 w : World) (g : Nat) (x0 x : List UInt8) (hG : GW w0) (h : At w0 g x w) (hx : x.length ≤ x0.length) (h0 : x0.length ≤ 1000000000) : Calls Tryz.prog 121 #[.pointer (some ⟨g, 0, none⟩)] w fun e w' => ∃ (n : Nat) (r : List UInt8), e = .returned (.int .i64 (n : Int)) ∧ r.length ≤ x0.length ∧ At w0 g r w' := 
  (gap_calls w0 w g x (by omega) hG h).mono fun e w' ⟨n, r, he, hl, hat, _⟩ => ⟨n, r, he, by omega, hat⟩
theorem nameA (w0 w : World) (g : Nat) (x0 x : List UInt8) (hG : GW w0) (h : At w0 g x w) (hx : x.length ≤ x0.length) (h0 : x0.length ≤ 1000000000) : Calls Tryz.prog 120 #[.pointer (some ⟨g, 0, none⟩)] w fun e w' => ∃ b r, e = .returned (.bool b) ∧ r.length ≤ x0.length ∧ At w0 g r w' := 
  (name_calls w0 w g x (by omega) hG h).mono fun e w' ⟨b, r, he, hl, hat, _⟩ => ⟨b, r, he, by omega, hat⟩
theorem someA (w0 w : World) (g : Nat) (x0 x : List UInt8) (a1 a2 : Bool) (a3 : ByteArray) (hG : GW w0) (h : At w0 g x w) (hx : x.length ≤ x0.length) (h0 : x0.length ≤ 1000000000) : Calls Tryz.prog 123 #[.pointer (some ⟨g, 0, none⟩), .bool a1, .bool a2, .string a3] w fun e w' => ∃ (n : Nat) (r : List UInt8), e = .returned (.int .i64 (n : Int)) ∧ r.length ≤ x0.length ∧ At w0 g r w' := 
  (some_calls w0 w g x (by omega) a1 a2 a3 hG h).mono fun e w' ⟨n, r, he, hl, hat, _⟩ => ⟨n, r, he, by omega, hat⟩
theorem valueA (w0 w : World) (g : Nat) (x0 x : List UInt8) (hG : GW w0) (h : At w0 g x w) (hx : x.length ≤ x0.length) (h0 : x0.length ≤ 1000000000) : Calls Tryz.prog 124 #[.pointer (some ⟨g, 0, none⟩)] w fun e w' => ∃ b r, e = .returned (.bool b) ∧ r.length ≤ x0.length ∧ At w0 g r w' := 
  (value_calls w0 w g x (by omega) hG h).mono fun e w' ⟨b, r, he, hl, hat⟩ => ⟨b, r, he, by omega, hat⟩
theorem At.kept {w W : World} {g : Nat} {x : List UInt8} (h : At w g x W) : Below w.heap.size w W := h.2.2
theorem len_sub (x r : List UInt8) (h0 : x.length ≤ 1000000000) (h : r.length ≤ x.length) : wrap64 (((mkB x).size : Int) - ((mkB r).size : Int)) = ((x.length - r.length : Nat) : Int) := by
  rw [mkB_size, mkB_size, wrap_in _ (by omega)]; omega
def cellLen (g : Nat) (W : World) : Nat := match W.cell? ⟨g, 0, none⟩ with
  | some (.string b) => b.size
  | _ => 0
theorem At.cellLen {w W : World} {g : Nat} {x : List UInt8} (h : At w g x W) : cellLen g W = x.length := by
  unfold ScanWeak.cellLen; rw [h.cell]; exact mkB_size x
theorem nf {b : Bool} (h : (!b) = false) : b = true := by cases b <;> simp_all
def TagP (x : List UInt8) (w : World) (e : Ending) (w' : World) : Prop := ∃ n : Nat, e = .returned (.int .i64 (n : Int)) ∧ n ≤ x.length ∧ Below w.heap.size w w'
set_option maxHeartbeats 4000000 in
set_option maxRecDepth 1000000 in
theorem tag_calls (w : World) (x : List UInt8) (hx : x.length ≤ 1000000000) (hG : GW w) : Calls Tryz.prog 79 #[.string (mkB x)] w (TagP x w) := by
  have h1 : At w w.heap.size x (w.alloc (.cells #[.string (mkB x)] 124)) := ⟨by simpa using heap_alloc_new w _, Nat.le_refl _, (Below.refl _ _).alloc (Nat.le_refl _) _⟩
  have hc1 := h1.cell
  replace hx := Lib.hid hx
  go_enter Tryz.func79, Tryz.ntmps79
  go_wp2_with (first
    | (go_at_call 119; refine (textA w _ w.heap.size x _ _ hG (by assumption) (by first | exact Nat.le_refl _ | assumption)).mono ?_; rintro e w' ⟨b, r, rfl, hl, hat⟩; have hc := hat.cell; have hf := hat.frozen)
    | (go_at_call 121; refine (gapA w _ w.heap.size x _ hG (by assumption) (by first | exact Nat.le_refl _ | assumption) hx.out).mono ?_; rintro e w' ⟨n, r, rfl, hl, hat⟩; have hc := hat.cell; have hf := hat.frozen)
    | (go_at_call 120; refine (nameA w _ w.heap.size x _ hG (by assumption) (by first | exact Nat.le_refl _ | assumption) hx.out).mono ?_; rintro e w' ⟨b, r, rfl, hl, hat⟩; have hc := hat.cell; have hf := hat.frozen))
  all_goals try (go_ret; exact ⟨0, rfl, Nat.zero_le _, At.kept (by assumption)⟩)
  all_goals try (go_ret; refine ⟨_, congrArg (fun n => Ending.returned (Value.int .i64 n)) (len_sub x _ hx.out (by assumption)), Nat.sub_le _ _, At.kept (by assumption)⟩)
  have hb_ := nf (by assumption)
  subst hb_
  simp only [Bool.not_true]
  go_loopw [] (fun wr => ∃ r : List UInt8, r.length ≤ x.length ∧ At w w.heap.size r wr) (fun wr => cellLen w.heap.size wr)
  case atStart => exact ⟨_, by assumption, by assumption⟩
  case round =>
    obtain ⟨r0, hl0, hat⟩ := hrel
    have hcl := Lib.hid hat.cellLen
    have hc := hat.cell
    obtain ⟨W1, hW1⟩ : ∃ W1, W1 = wr.alloc (.cells #[.string (mkB r0)] 124) := ⟨_, rfl⟩
    have hvg := Lib.hid (show wr.heap.size ≠ w.heap.size by have := hat.lt; omega)
    have h1 : At w w.heap.size r0 W1 := by subst hW1; exact hat.below ((Below.refl _ _).alloc (Nat.le_refl _) _)
    have h1v : At w wr.heap.size r0 W1 := by
      subst hW1
      exact ⟨by simpa using heap_alloc_new wr _, hat.2.2.size, h1.2.2⟩
    have hgap := Lib.hid (gap_calls w W1 w.heap.size r0 (by have := hx.out; omega) hG h1)
    replace h1v := Lib.hid h1v
    clear h1 hat
    go_wp2_with fail
    rw [← hW1]
    refine hgap.out.mono ?_
    rintro e w2 ⟨n, r, rfl, hl2, h2, hk2⟩
    have h2v := hk2 _ r0 hvg.out h1v.out
    clear hgap h1v hc hW1 hk2
    have hl2' := Lib.hid hl2
    have hlr : r.length ≤ x.length := by omega
    clear hl2
    have hvc := h2v.cell
    have hvf := h2v.frozen
    have hgc := h2.cell
    have hgf := h2.frozen
    have h2r := h2.set r0
    by_cases hn : n = 0
    · subst hn
      go_wp2_with (first
    | (go_at_call 119; refine (textA w _ w.heap.size x _ _ hG (by assumption) (by first | exact Nat.le_refl _ | assumption)).mono ?_; rintro e w' ⟨b, r, rfl, hl, hat⟩; have hc := hat.cell; have hf := hat.frozen)
    | (go_at_call 121; refine (gapA w _ w.heap.size x _ hG (by assumption) (by first | exact Nat.le_refl _ | assumption) hx.out).mono ?_; rintro e w' ⟨n, r, rfl, hl, hat⟩; have hc := hat.cell; have hf := hat.frozen)
    | (go_at_call 120; refine (nameA w _ w.heap.size x _ hG (by assumption) (by first | exact Nat.le_refl _ | assumption) hx.out).mono ?_; rintro e w' ⟨b, r, rfl, hl, hat⟩; have hc := hat.cell; have hf := hat.frozen))
      all_goals try (go_ret; exact ⟨0, rfl, Nat.zero_le _, At.kept (by assumption)⟩)
      all_goals try (go_ret; refine ⟨_, congrArg (fun n => Ending.returned (Value.int .i64 n)) (len_sub x _ hx.out (by assumption)), Nat.sub_le _ _, At.kept (by assumption)⟩)
    · have hn2 : ((n : Int) == 0) = false := by rw [beq_eq_false_iff_ne]; omega
      cases r with
      | nil =>
        have he : (mkB []).toList.isEmpty = true := by rw [mkB_toList]; rfl
        go_wp2_with (first
    | (go_at_call 119; refine (textA w _ w.heap.size x _ _ hG (by assumption) (by first | exact Nat.le_refl _ | assumption)).mono ?_; rintro e w' ⟨b, r, rfl, hl, hat⟩; have hc := hat.cell; have hf := hat.frozen)
    | (go_at_call 121; refine (gapA w _ w.heap.size x _ hG (by assumption) (by first | exact Nat.le_refl _ | assumption) hx.out).mono ?_; rintro e w' ⟨n, r, rfl, hl, hat⟩; have hc := hat.cell; have hf := hat.frozen)
    | (go_at_call 120; refine (nameA w _ w.heap.size x _ hG (by assumption) (by first | exact Nat.le_refl _ | assumption) hx.out).mono ?_; rintro e w' ⟨b, r, rfl, hl, hat⟩; have hc := hat.cell; have hf := hat.frozen))
        all_goals try (go_ret; exact ⟨0, rfl, Nat.zero_le _, At.kept (by assumption)⟩)
        all_goals try (go_ret; refine ⟨_, congrArg (fun n => Ending.returned (Value.int .i64 n)) (len_sub x _ hx.out (by assumption)), Nat.sub_le _ _, At.kept (by assumption)⟩)
      | cons c rest =>
        have he : (mkB (c :: rest)).toList.isEmpty = false := by rw [mkB_toList]; rfl
        have hix : ∀ W, (Instr.index 9 (.string (mkB (c :: rest))) (.int .i64 0)).run Tryz.prog W = .ok (.int .u8 (c.toNat : Int)) W := fun W => by
          rw [run_index_string _ _ _ _ _ Tryz.underlying9, dif_pos ⟨by omega, by rw [mkB_size]; simp only [List.length_cons]; omega⟩]
          rfl
        have his := Lib.hid (is_calls w2 (c.toNat : Int) true false ⟨#[95, 58]⟩ (hG.below h2.2.2))
        go_wp2_with fail
        refine his.out.mono ?_
        rintro e w3 ⟨⟨b3, rfl⟩, hb3⟩
        have h3 := h2.below hb3
        have h3v := h2v.below hb3
        clear hvc hvf hgc hgf h2r h2 h2v hb3 his
        have hvc := h3v.cell
        have hvf := h3v.frozen
        have hgc := h3.cell
        have hgf := h3.frozen
        have h3r := h3.set r0
        clear h3v
        cases b3
        · go_wp2_with (first
    | (go_at_call 119; refine (textA w _ w.heap.size x _ _ hG (by assumption) (by first | exact Nat.le_refl _ | assumption)).mono ?_; rintro e w' ⟨b, r, rfl, hl, hat⟩; have hc := hat.cell; have hf := hat.frozen)
    | (go_at_call 121; refine (gapA w _ w.heap.size x _ hG (by assumption) (by first | exact Nat.le_refl _ | assumption) hx.out).mono ?_; rintro e w' ⟨n, r, rfl, hl, hat⟩; have hc := hat.cell; have hf := hat.frozen)
    | (go_at_call 120; refine (nameA w _ w.heap.size x _ hG (by assumption) (by first | exact Nat.le_refl _ | assumption) hx.out).mono ?_; rintro e w' ⟨b, r, rfl, hl, hat⟩; have hc := hat.cell; have hf := hat.frozen))
          all_goals try (go_ret; exact ⟨0, rfl, Nat.zero_le _, At.kept (by assumption)⟩)
          all_goals try (go_ret; refine ⟨_, congrArg (fun n => Ending.returned (Value.int .i64 n)) (len_sub x _ hx.out (by assumption)), Nat.sub_le _ _, At.kept (by assumption)⟩)
        · go_wp2_with (first
    | (go_at_call 119; refine (textA w _ w.heap.size x _ _ hG (by assumption) (by first | exact Nat.le_refl _ | assumption)).mono ?_; rintro e w' ⟨b, r, rfl, hl, hat⟩; have hc := hat.cell; have hf := hat.frozen)
    | (go_at_call 121; refine (gapA w _ w.heap.size x _ hG (by assumption) (by first | exact Nat.le_refl _ | assumption) hx.out).mono ?_; rintro e w' ⟨n, r, rfl, hl, hat⟩; have hc := hat.cell; have hf := hat.frozen)
    | (go_at_call 120; refine (nameA w _ w.heap.size x _ hG (by assumption) (by first | exact Nat.le_refl _ | assumption) hx.out).mono ?_; rintro e w' ⟨b, r, rfl, hl, hat⟩; have hc := hat.cell; have hf := hat.frozen)
    | (go_at_call 123; refine (someA w _ w.heap.size (c :: rest) _ _ _ _ hG (by assumption) (Nat.le_refl _) (by have := hx.out; omega)).mono ?_; rintro e w' ⟨n, r, rfl, hl, hat⟩; have hc := hat.cell; have hf := hat.frozen)
    | (go_at_call 124; refine (valueA w _ w.heap.size (c :: rest) _ hG (by assumption) (by assumption) (by have := hx.out; omega)).mono ?_; rintro e w' ⟨b, r, rfl, hl, hat⟩; have hc := hat.cell; have hf := hat.frozen))
          all_goals try (go_ret; exact ⟨0, rfl, Nat.zero_le _, At.kept (by assumption)⟩)
          all_goals try (go_ret; refine ⟨_, congrArg (fun n => Ending.returned (Value.int .i64 n)) (len_sub x _ hx.out (by assumption)), Nat.sub_le _ _, At.kept (by assumption)⟩)
          refine ⟨⟨_, Nat.le_trans (by assumption) hlr, by assumption⟩, ?_⟩
          rw [hcl.out, At.cellLen (by assumption)]
          have hlt := hl2'.out
          omega
end Go.Proofs.YthdlibgiejpjeaaGreatDoor.ScanWeak

/- What leaf.HTML may tell of any text: a kind from 0 to 7; one above 0 of a text alone that begins with '<'. Of span.Tag: how many bytes, no more than there are. -/
set_option linter.unusedVariables false
set_option linter.unusedSimpArgs false
namespace Go.Proofs.YthdlibgiejpjeaaGreatDoor.Given
open Go.RowKit Go.Proofs.YthdlibgiejpjeaaGreatDoor Go.Proofs.YthdlibgiejpjeaaGreatDoorW.PrintWords Go.Proofs.YthdlibgiejpjeaaGreatDoor.Spec

/-- Some bool, and nothing is changed. -/
def SomeBool (w : World) (e : Ending) (w' : World) : Prop := ∃ b : Bool, e = .returned (.bool b) ∧ w = w'
set_option maxHeartbeats 4000000 in
set_option maxRecDepth 1000000 in
theorem whole_weak (s : ByteArray) (w : World) : Calls Tryz.prog 75 #[.string s] w (SomeBool w) := by
  go_enter Tryz.func75, Tryz.ntmps75
  go_wp2
  all_goals
    go_ret
    exact ⟨_, rfl, rfl⟩
set_option maxHeartbeats 8000000 in
set_option maxRecDepth 1000000 in
theorem block_weak (s : ByteArray) (w : World) : Calls Tryz.prog 78 #[.string s] w (SomeBool w) := by
  go_enter Tryz.func78, Tryz.ntmps78
  go_wp2
  all_goals
    go_ret
    exact ⟨_, rfl, rfl⟩
/-- A beginning of the text. -/
def SomeName (t : List UInt8) (w : World) (e : Ending) (w' : World) : Prop := ∃ n, n ≤ t.length ∧ e = .returned (.string (mkB (t.take n))) ∧ Below w.heap.size w w'
set_option maxHeartbeats 4000000 in
set_option maxRecDepth 1000000 in
theorem name_weak (t more : List UInt8) (w : World) (hG : GW w) (ht : t.length < 4294967281) : Calls Tryz.prog 74 #[.string (mkB t), .string (mkB more)] w (SomeName t w) := by
  have hI := Lib.hid (fun c W hW => ixb more c W hW)
  have hsl := Lib.hid (fun n h W => sl_to t n h W)
  have hGh := Lib.hid hG; clear hG
  have hz : (mkB t).size ≤ 4294967281 := by rw [mkB_size]; omega
  have hzz := Lib.hid (mkB_size t)
  rw [show (⟨more.toArray⟩ : ByteArray) = mkB more from rfl] at hI
  generalize mkB more = M at *
  generalize mkB t = TB at *
  go_enter Tryz.func74, Tryz.ntmps74
  go_wp2
  go_loopw [5] (fun i wr => ∃ k : Nat, k ≤ t.length ∧ i = .int .i64 k ∧ Below w.heap.size w wr) (fun i _ => t.length - (intOf i).toNat)
  case atStart => exact ⟨0, Nat.zero_le _, rfl, Below.refl _ _⟩
  case round =>
    obtain ⟨k, hk, rfl, hbw⟩ := hrel
    have hbw' := Lib.hid hbw; clear hbw
    by_cases hlt : k < TB.size
    · have hlt2 : k < t.length := by have := hzz.out; omega
      obtain ⟨c, hc⟩ : ∃ c, TB[k]'hlt = c := ⟨_, rfl⟩
      have hS := Lib.hid (hsl.out k hk); clear hsl
      have hcB := c.toNat_lt
      have hS2 := hS.out
      go_wp2_with (go_at_call 52; refine (hI.out c _ (hGh.out.below hbw'.out)).mono ?_; rintro e w1 ⟨rfl, ⟨nd, rfl⟩⟩)
      all_goals first
        | exact ⟨⟨k + 1, by omega, rfl, by first | exact hbw'.out | exact hbw'.out.trans ((GW.drewN_below wr _).mono hbw'.out.size)⟩, by simp [intOf]; omega⟩
        | (go_ret; exact ⟨k, hk, rfl, by first | exact hbw'.out | exact hbw'.out.trans ((GW.drewN_below wr _).mono hbw'.out.size)⟩)
    · have hS2 := hsl.out k hk; clear hsl
      go_wp2
      go_ret
      exact ⟨k, hk, rfl, hbw'.out⟩
end Go.Proofs.YthdlibgiejpjeaaGreatDoor.Given

/- leaf.HTML at every text, weakly: a number between 0 and 7, and above 0 only if the text begins with '<'. -/
set_option linter.unusedVariables false
set_option linter.unusedSimpArgs false
namespace Go.Proofs.YthdlibgiejpjeaaGreatDoor.HtmlAny
open Go Go.RowKit Go.Proofs.YthdlibgiejpjeaaGreatDoor Go.Proofs.YthdlibgiejpjeaaGreatDoor.Given Go.Proofs.YthdlibgiejpjeaaGreatDoor.ScanWeak Go.Proofs.YthdlibgiejpjeaaGreatDoorW.PrintWords Go.Proofs.YthdlibgiejpjeaaGreatDoor.Spec Go.Proofs.YthdlibgiejpjeaaGreatDoor.PureAid

abbrev Bl (w W : World) : Prop := Below w.heap.size w W
theorem Bl.go {w W W' : World} (h : Bl w W) (k : Below W.heap.size W W') : Bl w W' := h.trans (k.mono h.size)
theorem hs (t : List UInt8) (n : Nat) (W : World) : (Instr.slice 9 (.string (mkB t)) (some (.int .i64 ((mkB (t.take n)).size : Int))) none none).run Tryz.prog W = .ok (.string (mkB (t.drop n))) W := by
  rw [mkB_size, sl_from t _ (by rw [List.length_take]; omega), List.length_take]
  by_cases h : n ≤ t.length
  · rw [Nat.min_eq_left h]
  · rw [Nat.min_eq_right (by omega), List.drop_length, List.drop_of_length_le (by omega)]
theorem ix0 (c : UInt8) (r : List UInt8) (W : World) : (Instr.index 9 (.string (mkB (c :: r))) (.int .i64 0)).run Tryz.prog W = .ok (.int .u8 (c.toNat : Int)) W := by
  rw [run_index_string _ _ _ _ _ Tryz.underlying9, dif_pos ⟨by omega, by rw [mkB_size]; simp only [List.length_cons]; omega⟩]
  rfl
theorem ix1 (c d : UInt8) (r : List UInt8) (W : World) : (Instr.index 9 (.string (mkB (c :: d :: r))) (.int .i64 1)).run Tryz.prog W = .ok (.int .u8 (d.toNat : Int)) W := by
  rw [run_index_string _ _ _ _ _ Tryz.underlying9, dif_pos ⟨by omega, by rw [mkB_size]; simp only [List.length_cons]; omega⟩]
  rfl
theorem behA (w W : World) (l : List UInt8) (hG : GW w) (hb : Bl w W) : Calls Tryz.prog 69 #[.string (mkB l)] W fun e w' => (∃ b c, e = .returned (.bool b) ∧ (b = false → ∀ W, (Instr.index 9 (.string (mkB l)) (.int .i64 0)).run Tryz.prog W = .ok (.int .u8 c) W)) ∧ Bl w w' := by
  refine (behind_calls l W (hG.below hb)).mono ?_
  rintro e w' ⟨rfl, h⟩
  cases l with
  | nil => exact ⟨⟨true, 0, rfl, fun h => by cases h⟩, hb.go h⟩
  | cons c r => exact ⟨⟨_, c.toNat, rfl, fun _ => ix0 c r⟩, hb.go h⟩
theorem nameA (w W : World) (t more : List UInt8) (hG : GW w) (hb : Bl w W) (ht : t.length < 4294967281) : Calls Tryz.prog 74 #[.string (mkB t), .string (mkB more)] W fun e w' => (∃ n, e = .returned (.string (mkB (t.take n)))) ∧ Bl w w' :=
  (name_weak t more W (hG.below hb) ht).mono fun e w' ⟨n, _, he, h⟩ => ⟨⟨n, he⟩, hb.go h⟩
theorem wholeA (w W : World) (s : ByteArray) (hb : Bl w W) : Calls Tryz.prog 75 #[.string s] W fun e w' => (∃ b, e = .returned (.bool b)) ∧ Bl w w' :=
  (whole_weak s W).mono fun e w' ⟨b, he, h⟩ => ⟨⟨b, he⟩, h ▸ hb⟩
theorem blockA (w W : World) (s : ByteArray) (hb : Bl w W) : Calls Tryz.prog 78 #[.string s] W fun e w' => (∃ b, e = .returned (.bool b)) ∧ Bl w w' :=
  (block_weak s W).mono fun e w' ⟨b, he, h⟩ => ⟨⟨b, he⟩, h ▸ hb⟩
theorem prefA (w W : World) (s p : ByteArray) (hb : Bl w W) : Calls Tryz.prog 76 #[.string s, .string p] W fun e w' => (∃ b, e = .returned (.bool b)) ∧ Bl w w' :=
  (Tryz.strings_HasPrefix s p W).mono fun e w' ⟨he, h⟩ => ⟨⟨_, he⟩, h ▸ hb⟩
theorem trimA (w W : World) (s : List UInt8) (p : ByteArray) (hb : Bl w W) (hs : s.length ≤ 1000000000) : Calls Tryz.prog 77 #[.string (mkB s), .string p] W fun e w' => (∃ r : List UInt8, e = .returned (.string (mkB r)) ∧ r.length ≤ 1000000000) ∧ Bl w w' := by
  refine (Tryz.strings_TrimPrefix (mkB s) p W).mono fun e w' ⟨he, h⟩ => ⟨⟨Lib.trimPrefix s p.data.toList, he, ?_⟩, h ▸ hb⟩
  unfold Lib.trimPrefix; split
  · rw [List.length_drop]; omega
  · exact hs
theorem gapA (w W : World) (l : List UInt8) (hG : GW w) (hb : Bl w W) (hl : l.length ≤ 1000000000) : Calls Tryz.prog 66 #[.string (mkB l)] W fun e w' => (∃ b, e = .returned (.bool b)) ∧ Bl w w' := by
  exact (leaf_gap.calls (mkB l) (Spec.gap l) W (hG.below hb) (by unfold leaf_gap.f; rw [mkB_size, if_pos (by omega)]; rfl)).mono fun e w' ⟨he, h⟩ => ⟨⟨_, he⟩, hb.go h⟩
theorem tagA (w W : World) (x : List UInt8) (hG : GW w) (hb : Bl w W) (hl : x.length ≤ 1000000000) : Calls Tryz.prog 79 #[.string (mkB x)] W fun e w' => (∃ n : Nat, e = .returned (.int .i64 (n : Int)) ∧ (x.drop n).length ≤ 1000000000 ∧ ∀ W, (Instr.slice 9 (.string (mkB x)) (some (.int .i64 (n : Int))) none none).run Tryz.prog W = .ok (.string (mkB (x.drop n))) W) ∧ Bl w w' :=
  (tag_calls W x hl (hG.below hb)).mono fun e w' ⟨n, he, hn, h⟩ => ⟨⟨n, he, by rw [List.length_drop]; omega, sl_from x n hn⟩, hb.go h⟩
def HtmlP (x : List UInt8) (w : World) (e : Ending) (w' : World) : Prop := ∃ k : Nat, e = .returned (.int .i64 (k : Int)) ∧ k ≤ 7 ∧ (0 < k → x.head? = some 60) ∧ Below w.heap.size w w'
theorem low60 : ∀ c : Fin 256, lowC c.val.toUInt8 = 60 → c.val.toUInt8 = 60 := by decide +kernel
theorem lowC_60 (c : UInt8) (h : lowC c = 60) : c = 60 := by
  have := low60 ⟨c.toNat, c.toNat_lt⟩
  simp only [show c.toNat.toUInt8 = c by simp] at this
  exact this h
set_option maxHeartbeats 60000000 in
set_option maxRecDepth 1000000 in
theorem html_any (w : World) (x : List UInt8) (hx : x.length ≤ 1000000000) (hG : GW w) : Calls Tryz.prog 35 #[.string (mkB x)] w (HtmlP x w) := by
  have hlow := Lib.hid (lower_calls x w hG (by omega))
  go_enter Tryz.func35, Tryz.ntmps35
  go_wp2_with fail
  refine hlow.out.mono ?_
  rintro e W1 ⟨rfl, hb⟩
  by_cases hh : (x.map lowC).head? = some 60
  · obtain ⟨t, ht⟩ : ∃ t, x.map lowC = 60 :: t := by
      cases hm : x.map lowC with
      | nil => rw [hm] at hh; cases hh
      | cons c t => rw [hm] at hh; exact ⟨t, by rw [Option.some.inj hh]⟩
    have htl : t.length ≤ 1000000000 := by
      have := congrArg List.length ht
      rw [List.length_map, List.length_cons] at this; omega
    have hx60 : x.head? = some 60 := by
      cases x with
      | nil => cases ht
      | cons c r => rw [List.map_cons] at ht; rw [List.head?_cons, lowC_60 c (List.cons.inj ht).1]
    rw [ht]
    go_wp2_with fail
    refine (cutp_hit 60 t W1).mono ?_
    rintro e w2 ⟨rfl, rfl⟩
    have hs' := hs
    cases t with
    | nil =>
      have he : (mkB []).toList.isEmpty = true := by rw [mkB_toList]; rfl
      go_wp2_with fail
      go_ret
      exact ⟨0, rfl, by omega, fun h => by omega, hb⟩
    | cons c t =>
      have he : (mkB (c :: t)).toList.isEmpty = false := by rw [mkB_toList]; rfl
      have hi0 := ix0 c t
      go_upto_region 7 with (go_at_call 74; refine (nameA w _ _ [] hG (by assumption) (by omega)).mono ?_; rintro e w' ⟨⟨n, rfl⟩, hb⟩)
      go_cut [28] (fun s28 wx => ∃ b : Bool, s28 = .bool b ∧ Bl w wx)
      case first =>
        go_wp2_with (first
    | (go_at_call 74; (first | refine (nameA w _ _ [] hG (by assumption) (by omega)).mono ?_ | refine (nameA w _ _ [45] hG (by assumption) (by omega)).mono ?_); rintro e w' ⟨⟨n, rfl⟩, hb⟩)
    | (go_at_call 75; refine (wholeA w _ _ (by assumption)).mono ?_; rintro e w' ⟨⟨b, rfl⟩, hb⟩; rcases b)
    | (go_at_call 78; refine (blockA w _ _ (by assumption)).mono ?_; rintro e w' ⟨⟨b, rfl⟩, hb⟩; rcases b)
    | (go_at_call 69; refine (behA w _ _ hG (by assumption)).mono ?_; rintro e w' ⟨⟨b, c, rfl, hix⟩, hb⟩; rcases b; rotate_left; clear hix; rotate_right; replace hix := hix rfl)
    | (go_at_call 76; refine (prefA w _ _ _ (by assumption)).mono ?_; rintro e w' ⟨⟨b, rfl⟩, hb⟩)
    | (go_at_call 77; refine (trimA w _ _ _ (by assumption) (by omega)).mono ?_; rintro e w' ⟨⟨r, rfl, hr⟩, hb⟩)
    | (go_at_call 66; refine (gapA w _ _ hG (by assumption) (by assumption)).mono ?_; rintro e w' ⟨⟨b, rfl⟩, hb⟩)
    | (go_at_call 79; refine (tagA w _ _ hG (by assumption) (by assumption)).mono ?_; rintro e w' ⟨⟨n, rfl, hn, hsl⟩, hb⟩))
        all_goals (go_meet; exact ⟨_, rfl, by assumption⟩)
      case rest =>
        obtain ⟨b, rfl, hb⟩ := hcut
        cases b
        · go_wp2_with fail
          refine (prefA w _ _ _ hb).mono ?_
          rintro e w2 ⟨⟨b, rfl⟩, hb2⟩
          clear hb
          cases b
          · by_cases h63 : ((c.toNat : Int) == 63) = true
            · go_wp2_with fail
              go_ret
              exact ⟨3, rfl, by omega, fun _ => hx60, hb2⟩
            · replace h63 := Bool.eq_false_iff.mpr h63
              go_upto_region 13 with fail
              go_cut [47] (fun s47 wx => ∃ b : Bool, s47 = .bool b ∧ Bl w wx)
              case first =>
                cases t with
                | nil =>
                  have hz : (mkB [c]).size = 1 := mkB_size _
                  go_wp2_with fail
                  all_goals (go_meet; exact ⟨_, rfl, by assumption⟩)
                | cons d t =>
                  have hz : 1 < (mkB (c :: d :: t)).size := by rw [mkB_size]; simp only [List.length_cons]; omega
                  have hi1 := ix1 c d t
                  go_wp2_with fail
                  all_goals (go_meet; exact ⟨_, rfl, by assumption⟩)
              case rest =>
                obtain ⟨b, rfl, hb⟩ := hcut
                cases b
                · go_wp2_with fail
                  refine (prefA w _ _ _ hb).mono ?_
                  rintro e w3 ⟨⟨b, rfl⟩, hb3⟩
                  clear hb
                  cases b
                  · go_upto_region 20 with (first
    | (go_at_call 74; (first | refine (nameA w _ _ [] hG (by assumption) (by omega)).mono ?_ | refine (nameA w _ _ [45] hG (by assumption) (by omega)).mono ?_); rintro e w' ⟨⟨n, rfl⟩, hb⟩)
    | (go_at_call 75; refine (wholeA w _ _ (by assumption)).mono ?_; rintro e w' ⟨⟨b, rfl⟩, hb⟩; rcases b)
    | (go_at_call 78; refine (blockA w _ _ (by assumption)).mono ?_; rintro e w' ⟨⟨b, rfl⟩, hb⟩; rcases b)
    | (go_at_call 69; refine (behA w _ _ hG (by assumption)).mono ?_; rintro e w' ⟨⟨b, c, rfl, hix⟩, hb⟩; rcases b; rotate_left; clear hix; rotate_right; replace hix := hix rfl)
    | (go_at_call 76; refine (prefA w _ _ _ (by assumption)).mono ?_; rintro e w' ⟨⟨b, rfl⟩, hb⟩)
    | (go_at_call 77; refine (trimA w _ _ _ (by assumption) (by omega)).mono ?_; rintro e w' ⟨⟨r, rfl, hr⟩, hb⟩)
    | (go_at_call 66; refine (gapA w _ _ hG (by assumption) (by assumption)).mono ?_; rintro e w' ⟨⟨b, rfl⟩, hb⟩)
    | (go_at_call 79; refine (tagA w _ _ hG (by assumption) (by assumption)).mono ?_; rintro e w' ⟨⟨n, rfl, hn, hsl⟩, hb⟩))
                    go_cut [92] (fun s92 wx => ∃ b : Bool, s92 = .bool b ∧ Bl w wx)
                    case first =>
                      go_wp2_with (first
    | (go_at_call 74; (first | refine (nameA w _ _ [] hG (by assumption) (by omega)).mono ?_ | refine (nameA w _ _ [45] hG (by assumption) (by omega)).mono ?_); rintro e w' ⟨⟨n, rfl⟩, hb⟩)
    | (go_at_call 75; refine (wholeA w _ _ (by assumption)).mono ?_; rintro e w' ⟨⟨b, rfl⟩, hb⟩; rcases b)
    | (go_at_call 78; refine (blockA w _ _ (by assumption)).mono ?_; rintro e w' ⟨⟨b, rfl⟩, hb⟩; rcases b)
    | (go_at_call 69; refine (behA w _ _ hG (by assumption)).mono ?_; rintro e w' ⟨⟨b, c, rfl, hix⟩, hb⟩; rcases b; rotate_left; clear hix; rotate_right; replace hix := hix rfl)
    | (go_at_call 76; refine (prefA w _ _ _ (by assumption)).mono ?_; rintro e w' ⟨⟨b, rfl⟩, hb⟩)
    | (go_at_call 77; refine (trimA w _ _ _ (by assumption) (by omega)).mono ?_; rintro e w' ⟨⟨r, rfl, hr⟩, hb⟩)
    | (go_at_call 66; refine (gapA w _ _ hG (by assumption) (by assumption)).mono ?_; rintro e w' ⟨⟨b, rfl⟩, hb⟩)
    | (go_at_call 79; refine (tagA w _ _ hG (by assumption) (by assumption)).mono ?_; rintro e w' ⟨⟨n, rfl, hn, hsl⟩, hb⟩))
                      all_goals (go_meet; exact ⟨_, rfl, by assumption⟩)
                    case rest =>
                      obtain ⟨b, rfl, hb⟩ := hcut
                      cases b
                      · go_wp2_with (first
    | (go_at_call 74; refine (nameA w _ _ [45] hG (by assumption) (by omega)).mono ?_; rintro e w' ⟨⟨n, rfl⟩, hb⟩)
    | (go_at_call 75; refine (wholeA w _ _ (by assumption)).mono ?_; rintro e w' ⟨⟨b, rfl⟩, hb⟩; rcases b)
    | (go_at_call 66; refine (gapA w _ _ hG (by assumption) (by assumption)).mono ?_; rintro e w' ⟨⟨b, rfl⟩, hb⟩; rcases b)
    | (go_at_call 79; refine (tagA w _ _ hG (by assumption) (by assumption)).mono ?_; rintro e w' ⟨⟨n, rfl, hn, hsl⟩, hb⟩; rcases Nat.eq_zero_or_pos n with rfl | hnp))
                        all_goals (go_ret; first | exact ⟨7, rfl, by omega, fun _ => hx60, by assumption⟩ | exact ⟨0, rfl, by omega, fun h => by omega, by assumption⟩)
                      · go_wp2_with fail
                        go_ret
                        exact ⟨6, rfl, by omega, fun _ => hx60, hb⟩
                  · go_wp2_with fail
                    go_ret
                    exact ⟨5, rfl, by omega, fun _ => hx60, hb3⟩
                · go_wp2_with fail
                  go_ret
                  exact ⟨4, rfl, by omega, fun _ => hx60, hb⟩
          · go_wp2_with fail
            go_ret
            exact ⟨2, rfl, by omega, fun _ => hx60, hb2⟩
        · go_wp2_with fail
          go_ret
          exact ⟨1, rfl, by omega, fun _ => hx60, hb⟩
  · go_wp2_with fail
    refine (cutp_miss 60 _ hh W1).mono ?_
    rintro e w2 ⟨rfl, rfl⟩
    go_wp2_with fail
    go_ret
    exact ⟨0, rfl, by omega, fun h => by omega, hb⟩
end Go.Proofs.YthdlibgiejpjeaaGreatDoor.HtmlAny

