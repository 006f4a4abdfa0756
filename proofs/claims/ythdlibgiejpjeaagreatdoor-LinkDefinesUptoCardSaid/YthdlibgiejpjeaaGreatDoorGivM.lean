import Derived.Test.YthdlibgiejpjeaaGreatDoorGivenDefs
import Derived.Test.YthdlibgiejpjeaaGreatDoorGW
import Derived.Test.YthdlibgiejpjeaaGreatDoorWWords
import Derived.Test.YthdlibgiejpjeaaGreatDoorShelf
import Derived.Shelf.Strings.SlTrimAscii
import Derived.Shelf.Strings.Shaped
import Derived.Shelf.Strings.SplitShaped
set_option linter.unusedVariables false
set_option linter.unusedSimpArgs false
/- The contracts of Go's library functions that are met by the shelf's theorems, in the form in which printed texts call them. -/
namespace Go.Proofs.YthdlibgiejpjeaaGreatDoor.Given
open Go.RowKit Go.Proofs.YthdlibgiejpjeaaGreatDoor Go.Proofs.YthdlibgiejpjeaaGreatDoorW.PrintWords Go.Proofs.YthdlibgiejpjeaaGreatDoor.Spec

theorem strings_IndexByte.calls (a0 : ByteArray) (a1 : Int) (r : Int) (w : World) (hG : GW w) (h : strings_IndexByte.f a0 a1 = some r) :
    Calls Tryz.prog 52 #[.string a0, .int .u8 a1] w fun e w' => e = .returned (.int .i64 r) ∧ Drawn0 w w' := by
  obtain rfl := Option.some.inj h
  exact (Tryz.strings_IndexByte a0 a1 w).mono fun e w' ⟨he, hw⟩ => ⟨he, hw ▸ Drawn0.refl w⟩
theorem strings_CutPrefix.calls (a0 a1 : ByteArray) (r1 : ByteArray) (r2 : Bool) (w : World) (hG : GW w) (h : strings_CutPrefix.f a0 a1 = some (r1, r2)) :
    Calls Tryz.prog 58 #[.string a0, .string a1] w fun e w' => e = .returned (.tuple #[.string r1, .bool r2]) ∧ Below w.heap.size w w' := by
  simp only [strings_CutPrefix.f, Option.some.injEq, Prod.mk.injEq] at h
  obtain ⟨rfl, rfl⟩ := h
  exact (Tryz.strings_CutPrefix a0 a1 w).mono fun e w' ⟨he, hw⟩ => ⟨he, by subst hw; exact Below.refl _ _⟩
theorem strings_HasPrefix.calls (a0 a1 : ByteArray) (r : Bool) (w : World) (hG : GW w) (h : strings_HasPrefix.f a0 a1 = some r) :
    Calls Tryz.prog 76 #[.string a0, .string a1] w fun e w' => e = .returned (.bool r) ∧ Below w.heap.size w w' := by
  obtain rfl := Option.some.inj h
  exact (Tryz.strings_HasPrefix a0 a1 w).mono fun e w' ⟨he, hw⟩ => ⟨he, by subst hw; exact Below.refl _ _⟩
theorem strings_TrimPrefix.calls (a0 a1 : ByteArray) (r : ByteArray) (w : World) (hG : GW w) (h : strings_TrimPrefix.f a0 a1 = some r) :
    Calls Tryz.prog 77 #[.string a0, .string a1] w fun e w' => e = .returned (.string r) ∧ Below w.heap.size w w' := by
  obtain rfl := Option.some.inj h
  exact (Tryz.strings_TrimPrefix a0 a1 w).mono fun e w' ⟨he, hw⟩ => ⟨he, by subst hw; exact Below.refl _ _⟩
theorem strings_Count.calls (a0 a1 : ByteArray) (r : Int) (w : World) (hG : GW w) (h : strings_Count.f a0 a1 = some r) :
    Calls Tryz.prog 65 #[.string a0, .string a1] w fun e w' => e = .returned (.int .i64 r) ∧ Drawn0 w w' := by
  unfold strings_Count.f at h
  split at h
  · rename_i h1
    obtain rfl := Option.some.inj h
    obtain ⟨⟨l⟩⟩ := a1
    match l, h1 with
    | [c], _ => exact (Tryz.strings_Count_one a0 c w).mono fun e w' ⟨he, hw⟩ => ⟨he, hw ▸ Drawn0.refl w⟩
  · cases h
theorem strings_ReplaceAll.calls (a0 a1 a2 : ByteArray) (r : ByteArray) (w : World) (hG : GW w) (h : strings_ReplaceAll.f a0 a1 a2 = some r) :
    Calls Tryz.prog 67 #[.string a0, .string a1, .string a2] w fun e w' => e = .returned (.string r) ∧ Below w.heap.size w w' := by
  unfold strings_ReplaceAll.f at h
  split at h
  · rename_i h1
    obtain rfl := Option.some.inj h
    obtain ⟨m, hm⟩ := Tryz.laysM143.s1_3 w hG.shaped
    exact Tryz.strings_ReplaceAll a0 a1 a2 m w h1.2.1 hm h1.1 h1.2.2
  · cases h
set_option maxRecDepth 100000
theorem info_ascii : (Tryz.prog.info? 116).map (fun i => (i.zero, i.size)) = some (some (.agg (Array.replicate 256 (.bool false))), 256) := by kernel_rfl
theorem ascii_at {l : List UInt8} (h : ascii l = true) : ∀ (j : Nat) b, l[j]? = some b → b.toNat < 128 := by
  intro j b hb
  have := List.all_eq_true.1 h b (List.mem_of_getElem? hb)
  simpa [UInt8.lt_iff_toNat_lt] using this
theorem strings_Trim.calls (a0 a1 : ByteArray) (r : ByteArray) (w : World) (hG : GW w) (h : strings_Trim.f a0 a1 = some r) :
    Calls Tryz.prog 70 #[.string a0, .string a1] w fun e w' => e = .returned (.string r) ∧ Below w.heap.size w w' := by
  unfold strings_Trim.f at h
  split at h
  · rename_i h1
    obtain rfl := Option.some.inj h
    exact Any.strings_Trim_laid Tryz.lays160 info_ascii a0 a1 w h1.1 h1.2.1 (ascii_at h1.2.2)
  · cases h
theorem strings_TrimLeft.calls (a0 a1 : ByteArray) (r : ByteArray) (w : World) (hG : GW w) (h : strings_TrimLeft.f a0 a1 = some r) :
    Calls Tryz.prog 80 #[.string a0, .string a1] w fun e w' => e = .returned (.string r) ∧ Below w.heap.size w w' := by
  unfold strings_TrimLeft.f at h
  split at h
  · rename_i h1
    obtain rfl := Option.some.inj h
    exact Any.strings_TrimLeft_laid Tryz.lays161 info_ascii a0 a1 w h1.1 (ascii_at h1.2)
  · cases h
theorem strings_TrimRight.calls (a0 a1 : ByteArray) (r : ByteArray) (w : World) (hG : GW w) (h : strings_TrimRight.f a0 a1 = some r) :
    Calls Tryz.prog 71 #[.string a0, .string a1] w fun e w' => e = .returned (.string r) ∧ Below w.heap.size w w' := by
  unfold strings_TrimRight.f at h
  split at h
  · rename_i h1
    obtain rfl := Option.some.inj h
    exact Any.strings_TrimRight_laid Tryz.lays162 info_ascii a0 a1 w h1.1 h1.2.1 (ascii_at h1.2.2)
  · cases h
theorem strings_Contains.calls (a0 a1 : ByteArray) (r : Bool) (w : World) (hG : GW w) (h : strings_Contains.f a0 a1 = some r) :
    Calls Tryz.prog 72 #[.string a0, .string a1] w fun e w' => e = .returned (.bool r) ∧ Drawn0 w w' := by
  unfold strings_Contains.f at h
  split at h
  · rename_i h1
    obtain rfl := Option.some.inj h
    exact (Tryz.strings_Contains_shaped a0 a1 w hG.shaped h1).mono fun e w' ⟨he, hw⟩ => ⟨he, hw ▸ Drawn0.refl w⟩
  · cases h

/-- strings.Cut at one separator of a byte or more. -/
theorem cut_calls (s sep : ByteArray) (w : World) (hG : GW w) (hs : s.size < 4294967281) :
    Calls Tryz.prog 59 #[.string s, .string sep] w fun e w' => e = .returned (.tuple #[.string ⟨(Lib.cut s.data.toList sep.data.toList).1.toArray⟩, .string ⟨(Lib.cut s.data.toList sep.data.toList).2.1.toArray⟩, .bool (Lib.cut s.data.toList sep.data.toList).2.2]) ∧ Below w.heap.size w w' :=
  (Tryz.strings_Cut_shaped s sep w hG.shaped hs).mono fun e w' ⟨he, n, hw⟩ => ⟨he, by subst hw; exact GW.drewN_below w n⟩

/-- A Builder's writers, out of the closure of strings.Map (which has them all). -/
theorem writeByte (B b : Nat) (bs : List Value) (c : Int) (w : World) (h : Lib.IsBuilderF 60 5 B b bs w) (hlen : bs.length + 1 ≤ 140737488355328) (hBw : B ≤ w.heap.size) :
    Calls Tryz.prog 53 #[.pointer (some ⟨b, 0, none⟩), .int .u8 c] w fun e w' => e = .returned .nilIface ∧ (Lib.BuilderAtF 60 5 B b (.pointer (some ⟨b, 0, none⟩)) (bs ++ [.int .u8 c]) w' ∧ Below B w w' ∧ Lib.OthersKept 5 (some b) w w') :=
  Any.Builder_WriteByte_k { Tryz.lays230 with } Tryz.Builder_Extra_230 B b bs c w h hlen hBw
theorem writeString (B b : Nat) (bs : List Value) (s : ByteArray) (w : World) (h : Lib.IsBuilderF 60 5 B b bs w) (hlen : bs.length + s.size ≤ 140737488355328) (hBw : B ≤ w.heap.size) :
    Calls Tryz.prog 54 #[.pointer (some ⟨b, 0, none⟩), .string s] w fun e w' => e = .returned (.tuple #[.int .i64 s.size, .nilIface]) ∧ (Lib.BuilderAtF 60 5 B b (.pointer (some ⟨b, 0, none⟩)) (bs ++ Lib.strCells s) w' ∧ Below B w w' ∧ Lib.OthersKept 5 (some b) w w') :=
  Any.Builder_WriteString_k { Tryz.lays230 with } Tryz.Builder_Extra_230 B b bs s w h hlen hBw
end Go.Proofs.YthdlibgiejpjeaaGreatDoor.Given

/- The contract of runes.Mark. -/
namespace Go.Proofs.YthdlibgiejpjeaaGreatDoor.Given
open Go.RowKit Go.Proofs.YthdlibgiejpjeaaGreatDoor Go.Proofs.YthdlibgiejpjeaaGreatDoorW.PrintWords Go.Proofs.YthdlibgiejpjeaaGreatDoor.Spec

theorem all_u8 {p : UInt8 → Prop} (h : ∀ n, n < 256 → p (UInt8.ofNat n)) (c : UInt8) : p c := by
  have := h c.toNat c.toNat_lt
  rwa [UInt8.ofNat_toNat] at this

theorem mark_eq (c : UInt8) : decide (0 ≤ Lib.indexByte [33, 34, 35, 36, 37, 38, 39, 40, 41, 42, 43, 44, 45, 46, 47, 58, 59, 60, 61, 62, 63, 64, 91, 92, 93, 94, 95, 96, 123, 124, 125, 126] c) = markC c := by
  revert c
  refine all_u8 ?_
  decide +kernel

theorem runes_Mark.calls (a0 : Int) (r : Bool) (w : World) (hG : GW w) (h : runes_Mark.f a0 = some r) :
    Calls Tryz.prog 30 #[.int .u8 a0] w fun e w' => e = .returned (.bool r) ∧ Drawn0 w w' := by
  obtain rfl := Option.some.inj h
  rw [← mark_eq]
  go_enter Tryz.func30, Tryz.ntmps30
  go_wp2_with (go_at_call 52; refine (Tryz.strings_IndexByte _ _ _).mono ?_; rintro e w' ⟨rfl, rfl⟩)
  go_ret
  exact ⟨rfl, Drawn0.refl _⟩
end Go.Proofs.YthdlibgiejpjeaaGreatDoor.Given

