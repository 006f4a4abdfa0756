import Derived.Test.YthdlibgiejpjeaaGreatDoorGiven5
import Derived.Lib.AtoiErrMem
import Derived.Lib.LazyBuf
/- The contract of leaf.lower. -/
set_option linter.unusedVariables false
set_option linter.unusedSimpArgs false
namespace Go.Proofs.YthdlibgiejpjeaaGreatDoor.Spec
def lowC (c : UInt8) : UInt8 := if 65 ≤ c ∧ c ≤ 90 then c ||| 32 else c
end Go.Proofs.YthdlibgiejpjeaaGreatDoor.Spec
namespace Go.Proofs.YthdlibgiejpjeaaGreatDoor.Given
open Go.RowKit Go.Proofs.YthdlibgiejpjeaaGreatDoor Go.Proofs.YthdlibgiejpjeaaGreatDoorW.PrintWords Go.Proofs.YthdlibgiejpjeaaGreatDoor.Spec

theorem or_low (c : UInt8) : bits .or .u8 (c.toNat : Int) 32 = ((c ||| 32).toNat : Int) := by
  have : ∀ c : Fin 256, bits .or .u8 (c.val.toUInt8.toNat : Int) 32 = ((c.val.toUInt8 ||| 32).toNat : Int) := by decide +kernel
  have h2 := this ⟨c.toNat, c.toNat_lt⟩
  simpa using h2
/-- What the loop has made of the bytes so far. -/
def lowTo (l : List UInt8) (j t : Nat) : UInt8 := if t < j then lowC (l.getD t 0) else l.getD t 0
/-- A row of the call's own: byte t stands at ⟨X, t⟩. -/
structure RowB (X : Nat) (n : Nat) (f : Nat → UInt8) (w : World) : Prop where
  at_ : ∀ t, t < n → w.cell? ⟨X, t, none⟩ = some (.int .u8 ((f t).toNat : Int))
  free : ∀ t, t < n → w.frozen? ⟨X, t, none⟩ = false
theorem RowB.set {X n : Nat} {f : Nat → UInt8} {w : World} (h : RowB X n f w) (j : Nat) (hj : j < n) (c : UInt8) : RowB X n (fun t => if t = j then c else f t) (w.setCell ⟨X, j, none⟩ (.int .u8 (c.toNat : Int))) := by
  refine ⟨fun t ht => ?_, fun t ht => by rw [World.frozen?_setCell]; exact h.free t ht⟩
  by_cases e : t = j
  · subst e; rw [if_pos rfl]; exact World.cell?_setCell_same _ _ _ (h.at_ t ht)
  · rw [if_neg e, World.cell?_setCell_other _ _ _ _ (by intro hh; injection hh with a b; exact e (by omega))]
    exact h.at_ t ht
theorem convB (l : List UInt8) (W : World) : ∃ cap W', (convert 9 28 (.string (mkB l))).run Tryz.prog W = .ok (.slice (some ⟨W.heap.size, 0, none⟩) l.length cap) W' ∧ Below W.heap.size W W' ∧ W.heap.size < W'.heap.size ∧ RowB W.heap.size l.length (fun t => l.getD t 0) W' := by
  refine ⟨grownCap W l.length 0 5, Lib.bytesWorld W 5 (mkB l), ?_, ?_, ?_, ?_, ?_⟩
  · rw [Lib.run_convert_string_bytes W 9 28 5 (mkB l) Tryz.underlying9 Tryz.underlying28 Tryz.underlying5, mkB_size]
  · exact Lib.bytesWorld_below _ _ _
  · rw [Lib.bytesWorld_size]; omega
  · intro j hj
    rw [Lib.bytesWorld_cell W _ _ j (by rw [mkB_size]; exact hj), mkB_data]
  · intro t ht
    have hc := Lib.bytesWorld_cell W 5 (mkB l) t (by rw [mkB_size]; exact ht)
    have := Lib.bytesWorld_at_new W 5 (mkB l)
    have hlt : t < (Lib.bytesCells W 5 (mkB l)).size := by
      simp only [World.cell?, this] at hc
      rcases Nat.lt_or_ge t (Lib.bytesCells W 5 (mkB l)).size with h' | h'
      · exact h'
      · simp [Array.getElem?_eq_none h'] at hc
    simp only [World.frozen?, this]
    simp
    omega

set_option maxHeartbeats 4000000 in
set_option maxRecDepth 1000000 in
theorem lower_calls (l : List UInt8) (w : World) (hG : GW w) (hl : l.length < 4294967281) :
    Calls Tryz.prog 73 #[.string (mkB l)] w fun e w' => e = .returned (.string (mkB (l.map lowC))) ∧ Below w.heap.size w w' := by
  obtain ⟨cap, W0, hcv, hb0, hsz0, hrow0⟩ := convB l w
  have hrow' := Lib.hid hrow0; clear hrow0
  have hb' := Lib.hid hb0; clear hb0
  go_enter Tryz.func73, Tryz.ntmps73
  go_wp2
  clear hcv
  go_loopw [10] (fun i wr => ∃ j : Nat, j ≤ l.length ∧ i = .int .i64 j ∧ Below w.heap.size w wr ∧ w.heap.size < wr.heap.size ∧ RowB w.heap.size l.length (lowTo l j) wr) (fun i _ => l.length - (intOf i).toNat)
  case atStart =>
    refine ⟨0, Nat.zero_le _, rfl, hb'.out, hsz0, ?_⟩
    have : lowTo l 0 = fun t => l.getD t 0 := by funext t; unfold lowTo; rw [if_neg (by omega)]
    rw [this]; exact hrow'.out
  case round =>
    obtain ⟨j, hj, rfl, hbw, hsz, hrow⟩ := hrel
    by_cases hlt : j < l.length
    · have hc := hrow.at_ j hlt
      have hf := hrow.free j hlt
      have hrow2 := Lib.hid hrow; clear hrow
      have hbw2 := Lib.hid hbw; clear hbw
      have hnext : ∀ t, lowTo l (j + 1) t = if t = j then lowC (l.getD j 0) else lowTo l j t := by
        intro t; unfold lowTo
        by_cases e : t = j
        · subst e; rw [if_pos rfl, if_pos (by omega)]
        · rw [if_neg e]
          by_cases h1 : t < j
          · rw [if_pos (by omega), if_pos h1]
          · rw [if_neg (by omega), if_neg h1]
      have hnext2 := Lib.hid hnext; clear hnext
      have hsame : lowTo l j j = l.getD j 0 := by unfold lowTo; rw [if_neg (by omega)]
      rw [hsame] at hc
      have hsame2 := Lib.hid hsame; clear hsame
      have hor := Lib.hid (or_low (l.getD j 0))
      have hup : Hid (lowC (l.getD j 0) = if 65 ≤ (l.getD j 0).toNat ∧ (l.getD j 0).toNat ≤ 90 then (l.getD j 0) ||| 32 else l.getD j 0) := Lib.hid (by unfold lowC; simp only [UInt8.le_iff_toNat_le]; rfl)
      generalize hcc : l.getD j 0 = c at *
      have hcc' := Lib.hid hcc; clear hcc
      have hlen : l.length ≤ 4294967281 := by omega
      by_cases h1 : 65 ≤ c.toNat
      · have h1i : decide ((65 : Int) ≤ (c.toNat : Int)) = true := by simp; omega
        by_cases h2 : c.toNat ≤ 90
        · have h2i : decide ((c.toNat : Int) ≤ (90 : Int)) = true := by simp; omega
          go_wp2
          refine ⟨⟨j + 1, by omega, rfl, hbw2.out.setCell (Nat.le_refl _) _, by simpa [World.setCell] using hsz, ?_⟩, by simp [intOf]; omega⟩
          have hs := hrow2.out.set j hlt (c ||| 32)
          rw [← hor.out] at hs
          have he : lowTo l (j + 1) = fun t => if t = j then c ||| 32 else lowTo l j t := by
            funext t; rw [hnext2.out t]
            by_cases e : t = j
            · rw [if_pos e, if_pos e, hup.out, if_pos ⟨h1, h2⟩]
            · rw [if_neg e, if_neg e]
          rw [he]; exact hs
        · have h2i : decide ((c.toNat : Int) ≤ (90 : Int)) = false := by simp; omega
          go_wp2
          refine ⟨⟨j + 1, by omega, rfl, hbw2.out, hsz, ?_⟩, by simp [intOf]; omega⟩
          have he : lowTo l (j + 1) = lowTo l j := by
            funext t; rw [hnext2.out t]
            by_cases e : t = j
            · rw [if_pos e, e, hup.out, if_neg (by omega), hsame2.out]
            · rw [if_neg e]
          rw [he]; exact hrow2.out
      · have h1i : decide ((65 : Int) ≤ (c.toNat : Int)) = false := by simp; omega
        go_wp2
        refine ⟨⟨j + 1, by omega, rfl, hbw2.out, hsz, ?_⟩, by simp [intOf]; omega⟩
        have he : lowTo l (j + 1) = lowTo l j := by
          funext t; rw [hnext2.out t]
          by_cases e : t = j
          · rw [if_pos e, e, hup.out, if_neg (by omega), hsame2.out]
          · rw [if_neg e]
        rw [he]; exact hrow2.out
    · obtain rfl : j = l.length := by omega
      have hcv2 : (convert 28 9 (.slice (some ⟨w.heap.size, 0, none⟩) l.length cap)).run Tryz.prog wr = .ok (.string (mkB (l.map lowC))) wr := by
        have h := run_convert_bytes_arg wr 28 5 Tryz.underlying28 Tryz.underlying5 w.heap.size 0 l.length cap ((l.map lowC).map fun b => (b.toNat : Int)) (by simp) (fun i hi => by
          rw [Nat.zero_add, hrow.at_ i hi]
          unfold lowTo
          rw [if_pos hi]
          congr 2
          simp [List.getD_eq_getElem?_getD, List.getElem?_eq_getElem hi]) 9 Tryz.underlying9
        rw [h, Lib.Lz.strOfNums_map]; rfl
      clear hrow
      go_wp2
      go_ret
      exact ⟨rfl, hbw⟩
end Go.Proofs.YthdlibgiejpjeaaGreatDoor.Given

/- leaf.lower, leaf.behind and leaf.Marker in the form in which printed texts call them. -/
set_option linter.unusedVariables false
set_option linter.unusedSimpArgs false
namespace Go.Proofs.YthdlibgiejpjeaaGreatDoor.Given
open Go.RowKit Go.Proofs.YthdlibgiejpjeaaGreatDoor Go.Proofs.YthdlibgiejpjeaaGreatDoorW.PrintWords Go.Proofs.YthdlibgiejpjeaaGreatDoor.Spec

def leaf_lower.f (a0 : ByteArray) : Option (ByteArray) := if a0.size < 4294967281 then some (mkB (a0.data.toList.map lowC)) else none
def leaf_behind.f (a0 : ByteArray) : Option (Bool) := some (behind a0.data.toList)
def leaf_Marker.f (a0 : ByteArray) : Option (Int × Int × Int) := if a0.size < 4294967281 then some (((marker a0.data.toList).1 : Nat), ((marker a0.data.toList).2.1 : Nat), ((marker a0.data.toList).2.2 : Nat)) else none
theorem leaf_lower.calls (a0 : ByteArray) (r : ByteArray) (w : World) (hG : GW w) (h : leaf_lower.f a0 = some r) :
    Calls Tryz.prog 73 #[.string a0] w fun e w' => e = .returned (.string r) ∧ Below w.heap.size w w' := by
  unfold leaf_lower.f at h
  split at h
  · rename_i h1
    obtain rfl := Option.some.inj h
    exact lower_calls a0.data.toList w hG (by rw [Array.length_toList]; exact h1)
  · cases h
theorem leaf_behind.calls (a0 : ByteArray) (r : Bool) (w : World) (hG : GW w) (h : leaf_behind.f a0 = some r) :
    Calls Tryz.prog 69 #[.string a0] w fun e w' => e = .returned (.bool r) ∧ Below w.heap.size w w' := by
  obtain rfl := Option.some.inj h
  exact behind_calls a0.data.toList w hG
theorem leaf_Marker.calls (a0 : ByteArray) (r1 : Int) (r2 : Int) (r3 : Int) (w : World) (hG : GW w) (h : leaf_Marker.f a0 = some (r1, r2, r3)) :
    Calls Tryz.prog 36 #[.string a0] w fun e w' => e = .returned (.tuple #[.int .u8 r1, .int .i64 r2, .int .i64 r3]) ∧ Below w.heap.size w w' := by
  unfold leaf_Marker.f at h
  split at h
  · rename_i h1
    simp only [Option.some.injEq, Prod.mk.injEq] at h
    obtain ⟨rfl, rfl, rfl⟩ := h
    exact marker_calls a0.data.toList w hG (by rw [Array.length_toList]; exact h1)
  · cases h
end Go.Proofs.YthdlibgiejpjeaaGreatDoor.Given

