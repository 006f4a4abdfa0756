/- Small lemmas for plain laws: bytes of a string by their place, lists that are dropped, numbers that stay in their kind. -/
import Derived.Test.YthdlibgiejpjeaaGreatDoorSpecLaws
import Derived.Test.YthdlibgiejpjeaaGreatDoorNumM
import Derived.Lib.SmallJoins
import Derived.Lib.LazyBuf
set_option linter.unusedVariables false
set_option linter.unusedSimpArgs false
namespace Go.Proofs.YthdlibgiejpjeaaGreatDoor.PureAid
open Go Go.RowKit Go.Proofs.YthdlibgiejpjeaaGreatDoor Go.Proofs.YthdlibgiejpjeaaGreatDoor.Given Go.Proofs.YthdlibgiejpjeaaGreatDoorW.PrintWords Go.Proofs.YthdlibgiejpjeaaGreatDoor.Spec

theorem wrap_in (n : Int) (h : -9223372036854775808 ≤ n ∧ n ≤ 9223372036854775807) : wrap64 n = n := IntWalk.wrap64_in n h
theorem drop_lt {α : Type} {l : List α} {k : Nat} {c : α} {r : List α} (h : l.drop k = c :: r) : k < l.length := by
  rcases Nat.lt_or_ge k l.length with h' | h'
  · exact h'
  · rw [List.drop_eq_nil_of_le h'] at h; cases h
theorem drop_next {α : Type} {l : List α} {k : Nat} {c : α} {r : List α} (h : l.drop k = c :: r) : l.drop (k + 1) = r := by
  have := List.drop_eq_getElem_cons (drop_lt h)
  rw [h] at this; injection this with a b; exact b.symm
theorem drop_end {α : Type} {l : List α} {k : Nat} (h : l.drop k = []) : l.length ≤ k := List.drop_eq_nil_iff.1 h
theorem drop_len {α : Type} {l : List α} {k : Nat} {r : List α} (h : l.drop k = r) (hk : k ≤ l.length) : k + r.length = l.length := by
  rw [← h, List.length_drop]; omega
theorem bt_drop (l : List UInt8) (k : Nat) (c : UInt8) (r : List UInt8) (h : l.drop k = c :: r) : bt (mkB l) (k : Int) = (c.toNat : Int) := by
  have hk : k < l.length := drop_lt h
  have hc : l[k] = c := by
    have := List.drop_eq_getElem_cons hk
    rw [h] at this; injection this with a b; exact a.symm
  unfold bt
  rw [dif_pos (show (k : Int).toNat < (mkB l).size by rw [mkB_size]; exact hk)]
  show (((mkB l)[(k : Int).toNat]'_).toNat : Int) = _
  congr 2
theorem ne_int (c d : UInt8) (h : c ≠ d) : ¬ ((c.toNat : Int) = (d.toNat : Int)) := fun e => h (UInt8.toNat_inj.1 (by omega))
theorem eq_int (c d : UInt8) : ((c.toNat : Int) = (d.toNat : Int)) ↔ c = d := ⟨fun e => UInt8.toNat_inj.1 (by omega), fun e => by rw [e]⟩
theorem all_bytes {P : UInt8 → Prop} (h : ∀ c : Fin 256, P c.val.toUInt8) (c : UInt8) : P c := by
  have := h ⟨c.toNat, c.toNat_lt⟩
  rwa [show (⟨c.toNat, c.toNat_lt⟩ : Fin 256).val = c.toNat from rfl, show c.toNat.toUInt8 = c by simp] at this
theorem mkB_drop (l : List UInt8) (i : Nat) : (mkB l).extract i (mkB l).size = mkB (l.drop i) := by
  apply mkB_of
  rw [Lib.extract_to_end]; rfl
theorem mkB_piece (l : List UInt8) (i j : Nat) : (mkB l).extract i j = mkB ((l.drop i).take (j - i)) := by
  apply mkB_of
  rw [Lib.extract_data]; rfl
theorem mkB_toList (l : List UInt8) : (mkB l).toList = l := Lib.toList_data _
def bnums (l : List UInt8) : List Int := l.map fun b => (b.toNat : Int)
theorem nums_snoc (l : List UInt8) (c : UInt8) : bnums l ++ [(c.toNat : Int)] = bnums (l ++ [c]) := by unfold bnums; simp
theorem nums_app (l m : List UInt8) : bnums l ++ bytesOf (mkB m) = bnums (l ++ m) := by unfold bnums bytesOf; rw [mkB_data]; simp
theorem nums_len (l : List UInt8) : (bnums l).length = l.length := by unfold bnums; simp
theorem nums_str (l : List UInt8) : strOfNums (bnums l) = mkB l := by unfold bnums; rw [Lib.Lz.strOfNums_map]; rfl
theorem mkB_append (a b : List UInt8) : mkB a ++ mkB b = mkB (a ++ b) := by
  apply mkB_of
  rw [Joins.data_append]; rfl
/-- A loop over a text's bytes that puts a piece down for each: what it comes to. -/
theorem loop_bytes {α : Type} (L : Nat → List Int → Int → Option α) (E : Nat → List UInt8 → Option α) (l : List UInt8) (piece : UInt8 → List UInt8) (m : Nat) (hp : ∀ c, (piece c).length ≤ m)
    (hstep : ∀ k acc (i : Nat) c r, l.drop i = c :: r → i < l.length → acc.length ≤ m * i → L (k + 1) (bnums acc) (i : Int) = L k (bnums (acc ++ piece c)) ((i + 1 : Nat) : Int))
    (hend : ∀ k acc, acc.length ≤ m * l.length → L (k + 1) (bnums acc) (l.length : Int) = E k acc) (q : Nat) :
    ∀ (rest : List UInt8) (i : Nat) (acc : List UInt8), l.drop i = rest → i ≤ l.length → acc.length ≤ m * i → L (rest.length + 1 + q) (bnums acc) (i : Int) = E q (acc ++ rest.flatMap piece) := by
  intro rest
  induction rest with
  | nil =>
    intro i acc hr hi ha
    have := drop_end hr
    obtain rfl : i = l.length := by omega
    rw [show ([] : List UInt8).length + 1 + q = q + 1 by simp; omega, hend q acc ha]; simp
  | cons c r ih =>
    intro i acc hr hi ha
    have hlt := drop_lt hr
    rw [show (c :: r).length + 1 + q = (r.length + 1 + q) + 1 by simp only [List.length_cons]; omega, hstep _ acc i c r hr hlt ha]
    have hc := hp c
    rw [ih (i + 1) (acc ++ piece c) (drop_next hr) hlt (by rw [List.length_append, Nat.mul_add, Nat.mul_one]; omega), List.flatMap_cons, List.append_assoc]
end Go.Proofs.YthdlibgiejpjeaaGreatDoor.PureAid
