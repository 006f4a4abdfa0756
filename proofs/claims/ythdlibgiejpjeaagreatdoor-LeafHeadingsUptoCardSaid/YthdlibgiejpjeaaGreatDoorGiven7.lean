/- leaf.lower, leaf.behind and leaf.Marker in the form in which printed texts call them. -/
import Derived.Test.YthdlibgiejpjeaaGreatDoorGiven6
set_option linter.unusedVariables false
set_option linter.unusedSimpArgs false
namespace Go.Proofs.YthdlibgiejpjeaaGreatDoor.Given
open Go.RowKit Go.Proofs.YthdlibgiejpjeaaGreatDoor Go.Proofs.YthdlibgiejpjeaaGreatDoorW.PrintWords Go.Proofs.YthdlibgiejpjeaaGreatDoor.Spec

def leaf_lower.f (a0 : ByteArray) : Option (ByteArray) := if a0.size < 4294967281 then some (mkB (a0.data.toList.map lowC)) else none
def leaf_behind.f (a0 : ByteArray) : Option (Bool) := some (behind a0.data.toList)
def leaf_Marker.f (a0 : ByteArray) : Option (Int × Int × Int) := if a0.size < 4294967281 then some (((marker a0.data.toList).1 : Nat), ((marker a0.data.toList).2.1 : Nat), ((marker a0.data.toList).2.2 : Nat)) else none
theorem leaf_lower.calls (a0 : ByteArray) (r : ByteArray) (w : World) (hG : GW w) (h : leaf_lower.f a0 = some r) :
    Calls Tryz.prog 73 #[.string a0] w fun e w' => e = .returned (.string r) ∧ Below w.heap.size w w' := by
  unfold leaf_lower.f at h
  split at h
  · rename_i h1
    obtain rfl := Option.some.inj h
    exact lower_calls a0.data.toList w hG (by rw [Array.length_toList]; exact h1)
  · cases h
theorem leaf_behind.calls (a0 : ByteArray) (r : Bool) (w : World) (hG : GW w) (h : leaf_behind.f a0 = some r) :
    Calls Tryz.prog 69 #[.string a0] w fun e w' => e = .returned (.bool r) ∧ Below w.heap.size w w' := by
  obtain rfl := Option.some.inj h
  exact behind_calls a0.data.toList w hG
theorem leaf_Marker.calls (a0 : ByteArray) (r1 : Int) (r2 : Int) (r3 : Int) (w : World) (hG : GW w) (h : leaf_Marker.f a0 = some (r1, r2, r3)) :
    Calls Tryz.prog 36 #[.string a0] w fun e w' => e = .returned (.tuple #[.int .u8 r1, .int .i64 r2, .int .i64 r3]) ∧ Below w.heap.size w w' := by
  unfold leaf_Marker.f at h
  split at h
  · rename_i h1
    simp only [Option.some.injEq, Prod.mk.injEq] at h
    obtain ⟨rfl, rfl, rfl⟩ := h
    exact marker_calls a0.data.toList w hG (by rw [Array.length_toList]; exact h1)
  · cases h
end Go.Proofs.YthdlibgiejpjeaaGreatDoor.Given
