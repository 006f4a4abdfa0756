/- The plain functions of the hand-written contracts, in the form that printed texts call them by: 'none' where the contract does not speak. -/
import Derived.Test.YthdlibgiejpjeaaGreatDoorSpec
set_option linter.unusedVariables false
set_option linter.unusedSimpArgs false
namespace Go.Proofs.YthdlibgiejpjeaaGreatDoor.Given
open Go Go.Proofs.YthdlibgiejpjeaaGreatDoor.Spec

def strings_IndexByte.f (a0 : ByteArray) (a1 : Int) : Option (Int) := some (Lib.indexByte a0.data.toList a1.toNat.toUInt8)
def strings_CutPrefix.f (a0 a1 : ByteArray) : Option (ByteArray × Bool) := some (⟨(Lib.trimPrefix a0.data.toList a1.data.toList).toArray⟩, Lib.hasPrefix a0.data.toList a1.data.toList)
def strings_HasPrefix.f (a0 a1 : ByteArray) : Option (Bool) := some (Lib.hasPrefix a0.data.toList a1.data.toList)
def strings_TrimPrefix.f (a0 a1 : ByteArray) : Option (ByteArray) := some ⟨(Lib.trimPrefix a0.data.toList a1.data.toList).toArray⟩
def strings_Count.f (a0 a1 : ByteArray) : Option (Int) := if a1.size = 1 then some ((a0.data.toList.count (a1.data.toList.headD 0) : Nat) : Int) else none
def strings_ReplaceAll.f (a0 a1 a2 : ByteArray) : Option (ByteArray) := if 1 ≤ a1.size ∧ a0.size < 4294967281 ∧ a0.size + Lib.countB a0 a1 * a2.size ≤ 140737488355328 then some ⟨(Lib.replaceAll a0.data.toList a1.data.toList a2.data.toList).toArray⟩ else none
def strings_Trim.f (a0 a1 : ByteArray) : Option (ByteArray) := if a0.size ≤ 9223372036854775807 ∧ a1.size < 4294967281 ∧ ascii a1.data.toList = true then some ⟨(Lib.trimS a0.data.toList a1.data.toList).toArray⟩ else none
def strings_TrimLeft.f (a0 a1 : ByteArray) : Option (ByteArray) := if a1.size < 4294967281 ∧ ascii a1.data.toList = true then some ⟨(Lib.trimLeftS a0.data.toList a1.data.toList).toArray⟩ else none
def strings_TrimRight.f (a0 a1 : ByteArray) : Option (ByteArray) := if a0.size ≤ 9223372036854775807 ∧ a1.size < 4294967281 ∧ ascii a1.data.toList = true then some ⟨(Lib.trimRightS a0.data.toList a1.data.toList).toArray⟩ else none
def strings_Contains.f (a0 a1 : ByteArray) : Option (Bool) := if a0.size < 4294967281 then some (Lib.contains a0.data.toList a1.data.toList) else none
def runes_Mark.f (a0 : Int) : Option (Bool) := some (markC a0.toNat.toUInt8)
def escape_HTML.f (a0 : ByteArray) : Option (ByteArray) := if a0.size ≤ 17592186044416 then some ⟨(html a0.data.toList).toArray⟩ else none
def escape_URL.f (a0 : ByteArray) : Option (ByteArray) := if a0.size ≤ 17592186044416 then some ⟨(url a0.data.toList).toArray⟩ else none
def escape_Entity.f (a0 : ByteArray) : Option (ByteArray × Int) := if a0.size < 4294967281 then some (⟨(entity a0.data.toList).1.toArray⟩, ((entity a0.data.toList).2 : Int)) else none
def escape_Unescape.f (a0 : ByteArray) : Option (ByteArray) := if a0.size < 4294967281 then some ⟨(unescape a0.data.toList).toArray⟩ else none
def leaf_run.f (a0 : ByteArray) (a1 : Int) : Option (Int) := if 0 ≤ a1 ∧ a1 < 128 ∧ a0.size < 4294967281 then some ((run a0.data.toList a1.toNat.toUInt8 : Nat) : Int) else none
def leaf_gap.f (a0 : ByteArray) : Option (Bool) := if a0.size < 4294967281 then some (gap a0.data.toList) else none
def leaf_Underline.f (a0 : ByteArray) : Option (Int) := if a0.size < 4294967281 then some ((underline a0.data.toList : Nat) : Int) else none
def scriptoriumref02_Plain.f (a0 : Int) : Option (Bool) := if 0 ≤ a0 ∧ a0 < 256 then some (plainU a0.toNat.toUInt8) else none
end Go.Proofs.YthdlibgiejpjeaaGreatDoor.Given
