/- What the rows' listed variables give. -/
import Derived.Test.YthdlibgiejpjeaaGreatDoorCards
import Derived.Test.YthdlibgiejpjeaaGreatDoorTie
import Derived.Test.YthdlibgiejpjeaaGreatDoorGW
import Derived.Lib.LaidTab
import Derived.Lib.LaidU8
import Derived.Lib.LaidU8T
import Derived.PinnedBridge
import Derived.Stop.LaidErr
import Derived.Lib.TrailingZeros
import Derived.FnData
import Derived.LaidLaws
import Derived.MakeChecks
set_option linter.unusedVariables false
set_option linter.unusedSimpArgs false
namespace Go.Proofs.YthdlibgiejpjeaaGreatDoor
open Go.RowKit Go.ChangeShapes Go.WideShapes Go.ChangeAt

theorem gTz : Tryz.prog.globalNamed "math/bits.deBruijn64tab" = some 8 := by kernel_rfl
theorem tTz : (Tryz.prog.globals[8]?).map (·.type) = some 229 := by kernel_rfl
theorem cTz : Tryz.prog.cellsOf 229 = 64 := by kernel_rfl
theorem c5g : Tryz.prog.cellsOf 5 = 1 := by kernel_rfl
theorem gEs : Tryz.prog.globalNamed "strconv.ErrSyntax" = some 3 := by kernel_rfl
theorem tEs : (Tryz.prog.globals[3]?).map (·.type) = some 63 := by kernel_rfl

theorem tz_of {W : World} {l : List (String × DataW Unit)} (h : laidMet Tryz.prog l W) (hm : ("math/bits.deBruijn64tab", Rows.laid_math_bits_deBruijn64tab) ∈ l) : W.cell? ⟨8, 15, none⟩ = some (.int .u8 4) := by
  obtain ⟨g, t, cs, fuel, p, hg, hy, hv, hd⟩ := Lib.laidMet.reads h hm
  obtain rfl := Option.some.inj (gTz.symm.trans hg)
  obtain rfl := Option.some.inj (tTz.symm.trans hy)
  have hcs := Lib.cells_of_tab (zs := Lib.deBruijn64tab.map (fun n : Nat => (n : Int))) Tryz.underlying229 Tryz.underlying5 c5g cTz hd
  rw [World.var?_cell hg hv 15]
  have h2 : cs = (Lib.deBruijn64tab.map (fun n : Nat => Value.int .u8 (n : Int))).toArray := by
    rw [← Array.toArray_toList (xs := cs), hcs, List.map_map]; rfl
  rw [h2]; rfl
theorem starE : "*" ++ "errors.errorString" = "*errors.errorString" := by decide
theorem rowE (u : TypeId) (h : Tryz.prog.typeName? 3 u = some "*errors.errorString") : u = 212 :=
  typeName_ptr_named (nm := "errors.errorString") (by rw [starE]; kernel_rfl) (by kernel_rfl) (by decide) u (by rw [starE]; exact h)
theorem cE : Tryz.prog.cellsOf 214 = 1 := by kernel_rfl
theorem c9 : Tryz.prog.cellsOf 9 = 1 := by kernel_rfl
theorem es_of {W : World} {r : List (String × DataW Unit)} (h : laidMet Tryz.prog (("strconv.ErrSyntax", Rows.laid_strconv_ErrSyntax) :: r) W) : ∃ ev, W.cell? ⟨3, 0, none⟩ = some ev ∧ (ev = .nilIface ∨ ∃ te pe, ev = .iface te pe) := by
  obtain ⟨a, s, hv, _, _, _⟩ := laid_sentinel h gEs tEs Tryz.underlying63 rowE Tryz.underlying212 Tryz.underlying214 rfl rfl Tryz.underlying9 cE c9
  exact ⟨_, World.var?_cell gEs hv 0, .inr ⟨_, _, rfl⟩⟩
theorem u8x : U8Extra Tryz.prog ⟨id, fun | 119 => 165 | 139 => 204 | 138 => 203 | 5 => 5 | n => n, fun | 3 => 5 | 4 => 6 | n => n⟩ :=
  ⟨by kernel_rfl, by kernel_rfl, by kernel_rfl, by kernel_rfl, by kernel_rfl, by kernel_rfl, by kernel_rfl⟩
theorem u8t : U8Types Tryz.prog ⟨id, fun | 119 => 165 | 139 => 204 | 138 => 203 | 5 => 5 | n => n, fun | 3 => 5 | 4 => 6 | n => n⟩ :=
  ⟨Tryz.underlying5, Tryz.underlying165, Tryz.underlying203, Tryz.underlying204⟩
theorem acc_eq : (Rows.laid_unicode_utf8_acceptRanges : DataW Unit) = Lib.acceptData := by rfl
theorem u8_of {W : World} {l : List (String × DataW Unit)} (h : laidMet Tryz.prog l W) (h1 : ("unicode/utf8.first", Rows.laid_unicode_utf8_first) ∈ l) (h2 : ("unicode/utf8.acceptRanges", Rows.laid_unicode_utf8_acceptRanges) ∈ l) :
    Lib.Utf8Tabs 5 6 W := by
  have a := Lib.laidMet.reads h h1
  have b := Lib.laidMet.reads h h2
  rw [show (Rows.laid_unicode_utf8_first : DataW Unit) = Lib.firstData from Pinned.utf8First_eq] at a
  rw [acc_eq] at b
  exact utf8Tabs_of_readsT u8t u8x a b
/-- Of the list that the rows of the Escape laws bear. -/
theorem gw_of {W : World} (h : laidMetH Tryz.prog Rows.escapeURLRow.laid W) (hS : W.ShapedOpen Tryz.prog) : GW W := by
  rw [MakeChecks.laidMetH_plain _ _ _ (by kernel_rfl)] at h
  exact ⟨hS, tz_of h (.tail _ (.head _)), es_of (laidMet.tail (laidMet.tail (laidMet.tail (laidMet.tail (laidMet.tail h))))), u8_of h (.tail _ (.tail _ (.tail _ (.tail _ (.tail _ (.tail _ (.tail _ (.head _)))))))) (.tail _ (.tail _ (.tail _ (.head _))))⟩
end Go.Proofs.YthdlibgiejpjeaaGreatDoor
