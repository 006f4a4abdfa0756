/- What the library's package-level variables hold (premises of the walks), and that it stays while only new memory is written. -/
import Derived.Test.YthdlibgiejpjeaaGreatDoorProg
import Derived.WalkKit
import Derived.ProofKit
import Derived.ChangeAgain
import Derived.Below
import Derived.Deep.Draws
import Derived.Shelf.Unicode.DecodeSlow
set_option linter.unusedVariables false
set_option linter.unusedSimpArgs false
namespace Go.Proofs.YthdlibgiejpjeaaGreatDoor
open Go.RowKit

theorem lt_of_cell {w : World} {a : Addr} {v : Value} (h : w.cell? a = some v) : a.block < w.heap.size := by
  rcases Nat.lt_or_ge a.block w.heap.size with h' | h'
  · exact h'
  · simp [World.cell?, Array.getElem?_eq_none h'] at h

/-- The world's shape; the cells of two of the library's tables that the walks read. -/
structure GW (w : World) : Prop where
  shaped : w.ShapedOpen Tryz.prog
  tz : w.cell? ⟨8, 15, none⟩ = some (.int .u8 4)
  es : ∃ ev, w.cell? ⟨3, 0, none⟩ = some ev ∧ (ev = .nilIface ∨ ∃ te pe, ev = .iface te pe)
  u8 : Lib.Utf8Tabs 5 6 w

theorem GW.below {w w' : World} (h : GW w) (hb : Below w.heap.size w w') : GW w' := by
  refine ⟨h.shaped.keptBut (hb.frame (fun _ => False)) (fun _ hp => hp.elim), ?_, ?_, Utf8Tabs_below h.u8 hb⟩
  · rw [hb.cell (lt_of_cell h.tz)]; exact h.tz
  · obtain ⟨ev, h1, h2⟩ := h.es
    exact ⟨ev, by rw [hb.cell (lt_of_cell h1)]; exact h1, h2⟩

theorem GW.drewN {w : World} (h : GW w) (n : Nat) : GW (w.drewN n) := h.below ⟨rfl, rfl, rfl, Nat.le_refl _, fun _ _ => rfl⟩
theorem GW.drewN_below (w : World) (n : Nat) : Below w.heap.size w (w.drewN n) := ⟨rfl, rfl, rfl, Nat.le_refl _, fun _ _ => rfl⟩
theorem GW.drew {w : World} (h : GW w) : GW w.drew := h.below ⟨rfl, rfl, rfl, Nat.le_refl _, fun _ _ => rfl⟩
end Go.Proofs.YthdlibgiejpjeaaGreatDoor
