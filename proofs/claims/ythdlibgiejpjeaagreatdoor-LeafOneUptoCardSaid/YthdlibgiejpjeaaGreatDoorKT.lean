-- PRINTED by print.py out of the translation. Not trusted: Lean checks it.
import Derived.Test.YthdlibgiejpjeaaGreatDoorProg
import Derived.Below
import Derived.Deep.Draws
import Derived.Deep.AppendLies
import Derived.Maps.AppendAt
import Derived.OwnWalk
import Derived.Laws.BytesArg
import Derived.Laws.MakeOwn
import Derived.Laws.OwnMore
import Derived.Deep.OwnRows
import Derived.Tactics
import Derived.Lib.ConvBytes
import Derived.Laws.Slices
import Derived.WalkKit
import Derived.KernelRfl
import Derived.RowKit3
import Derived.Deep.LoopGhost
import Derived.Deep.QuietTactic
import Derived.BigQuiet
import Derived.WideLaws
import Derived.Deep.DeepCutAuto
import Derived.Deep.CutBlock
import Derived.Deep.RegionHeld3
import Derived.Laws.Rows
import Derived.Lib.AppendStr
import Derived.ArgAppend
import Derived.Laws.IdiomCopy
import Derived.OrdersHeld
import Derived.Laws.BitsLemmas
import Derived.RowKit
import Derived.Test.YthdlibgiejpjeaaGreatDoorGivenKT
import Derived.Test.YthdlibgiejpjeaaGreatDoorWWords
import Derived.Test.YthdlibgiejpjeaaGreatDoorWLast
import Derived.Test.YthdlibgiejpjeaaGreatDoorWTab
import Derived.Test.YthdlibgiejpjeaaGreatDoorWFour
import Derived.Test.YthdlibgiejpjeaaGreatDoorWQPut
import Derived.Test.YthdlibgiejpjeaaGreatDoorWApart
import Derived.Test.YthdlibgiejpjeaaGreatDoorWArr
import Derived.Test.YthdlibgiejpjeaaGreatDoorWZeros
import Derived.Test.YthdlibgiejpjeaaGreatDoorWFoot
import Derived.Test.YthdlibgiejpjeaaGreatDoorWKept
import Derived.Test.YthdlibgiejpjeaaGreatDoorWShare
import Derived.Test.YthdlibgiejpjeaaGreatDoorWN
import Derived.Test.YthdlibgiejpjeaaGreatDoorWFootNe
import Derived.Test.YthdlibgiejpjeaaGreatDoorWAt
import Derived.Test.YthdlibgiejpjeaaGreatDoorWEqStruct
import Derived.Test.YthdlibgiejpjeaaGreatDoorWRepsOne
import Derived.Test.YthdlibgiejpjeaaGreatDoorWInv
import Derived.Test.YthdlibgiejpjeaaGreatDoorWInvWords
import Derived.Test.YthdlibgiejpjeaaGreatDoorWGuard
import Derived.Test.YthdlibgiejpjeaaGreatDoorWNEv
import Derived.Test.YthdlibgiejpjeaaGreatDoorWMore
namespace Go.Proofs.YthdlibgiejpjeaaGreatDoor.KT
open Go.RowKit Go.Proofs.YthdlibgiejpjeaaGreatDoor Go.Proofs.YthdlibgiejpjeaaGreatDoor.Given Go.Proofs.YthdlibgiejpjeaaGreatDoorW.PrintWords Go.Proofs.YthdlibgiejpjeaaGreatDoorW.PrintLast Go.Proofs.YthdlibgiejpjeaaGreatDoorW.PrintMore
attribute [local go_sem] max2_int min2_int max_two min_two max_three min_three max_four min_four   -- for this text's walks alone
set_option linter.unusedVariables false
set_option linter.unusedSimpArgs false



def errW : Option Int → Value
  | none => .nilIface
  | some c => .iface 0 (.int .i64 c)
theorem errW_none : errW none = .nilIface := rfl
theorem errW_some (c : Int) : errW (some c) = .iface 0 (.int .i64 c) := rfl

-- the values' own types

end Go.Proofs.YthdlibgiejpjeaaGreatDoor.KT

namespace Go.Proofs.YthdlibgiejpjeaaGreatDoor.KT
open Go.RowKit Go.Proofs.YthdlibgiejpjeaaGreatDoor Go.Proofs.YthdlibgiejpjeaaGreatDoor.Given Go.Proofs.YthdlibgiejpjeaaGreatDoorW.PrintWords Go.Proofs.YthdlibgiejpjeaaGreatDoorW.PrintLast Go.Proofs.YthdlibgiejpjeaaGreatDoorW.PrintMore
attribute [local go_sem] max2_int min2_int max_two min_two max_three min_three max_four min_four   -- for this text's walks alone
set_option linter.unusedVariables false
set_option linter.unusedSimpArgs false

/-- A state of type 124 at block g of W; what its slices lead to came in by w0. -/
def IsS124 (w0 W : World) (g : Nat) (f0 : ByteArray) : Prop := W.heap[g]? = some (.cells #[.string f0] 124 (0, 0)) ∧ w0.heap.size ≤ g
theorem IsS124.grown {w0 W : World} {g : Nat} {f0 : ByteArray} {W1 : World} {row : Option Nat} (h : IsS124 w0 W g f0) (hw : W.grownBy W1 row) (hne : some g ≠ row) : IsS124 w0 W1 g f0 := by
  obtain ⟨hb, hg⟩ := h
  exact ⟨blk_grown hb hw hne, hg⟩
theorem IsS124.own_neN {w0 W : World} {g : Nat} {f0 : ByteArray} {α : Type} {d : Kd α} {e : Nat} {base : Nat} {ok : Nat → Prop} {v : Value} {xs : List α} (h : IsS124 w0 W g f0) (ho : Kd.N d e W base ok v xs) (ht : e ≠ 124) : some g ≠ v.ownBlock := by
  obtain ⟨hb, hg⟩ := h
  exact Kd.N_ne ho hb ht
theorem IsS124.fresh {w0 W : World} {g : Nat} {f0 : ByteArray} (h : IsS124 w0 W g f0) : ∀ k, W.heap.size ≤ k → k ≠ g := by
  obtain ⟨hb, hg⟩ := h
  exact Kd.freshB hb
theorem IsS124.kept {w0 W : World} {g : Nat} {f0 : ByteArray} {W1 : World} {S : Nat → Prop} (h : IsS124 w0 W g f0) (hk : Kept W W1 S) (hne : ¬ S g) : IsS124 w0 W1 g f0 := by
  obtain ⟨hb, hg⟩ := h
  exact ⟨blk_kept hb hk hne, hg⟩
theorem IsS124.below {w0 W : World} {g : Nat} {f0 : ByteArray} {W1 : World} (h : IsS124 w0 W g f0) (hw : Below W.heap.size W W1) : IsS124 w0 W1 g f0 := h.grown (grown_of_below hw none) (by simp)
theorem IsS124.alloc {w0 W : World} {g : Nat} {f0 : ByteArray} (h : IsS124 w0 W g f0) (o : Obj) : IsS124 w0 (W.alloc o) g f0 := h.below (below_alloc (Below.refl _ _) o)
theorem IsS124.drewN {w0 W : World} {g : Nat} {f0 : ByteArray} (h : IsS124 w0 W g f0) (m : Nat) : IsS124 w0 (W.drewN m) g f0 := h
theorem IsS124.drew {w0 W : World} {g : Nat} {f0 : ByteArray} (h : IsS124 w0 W g f0) : IsS124 w0 W.drew g f0 := h
theorem IsS124.at_ {w0 W : World} {g : Nat} {f0 : ByteArray} {w' : World} {m : Nat} (hq : W.drewN m = w') (h : IsS124 w0 W g f0) : IsS124 w0 w' g f0 := by subst hq; exact IsS124.drewN h m
theorem IsS124.apart {w0 W : World} {g : Nat} {f0 : ByteArray} {α : Type} {d : Kd α} {e : Nat} {base : Nat} {ok : Nat → Prop} {v : Value} {xs : List α} (h : IsS124 w0 W g f0) (ho : d.R e W base ok v xs) (ht : ∀ q, q ∈ e :: d.E → q ≠ 124) : d.R e W base (fun k => ok k ∧ k ≠ g) v xs := by
  obtain ⟨hb, hg⟩ := h
  exact Kd.R_types ho hb ht
theorem IsS124.own_ne {w0 W : World} {g : Nat} {f0 : ByteArray} {α : Type} {d : Kd α} {e : Nat} {base : Nat} {ok : Nat → Prop} {v : Value} {xs : List α} (h : IsS124 w0 W g f0) (ho : d.R e W base ok v xs) (ht : e ≠ 124) : some g ≠ v.ownBlock := by
  obtain ⟨hb, hg⟩ := h
  exact Kd.R_ne ho hb ht
theorem IsS124.apartQ {w0 W : World} {g : Nat} {f0 : ByteArray} {α : Type} {d : Kd α} {e : Nat} {base : Nat} {ok : Nat → Prop} {v : Value} {xs : List α} (h : IsS124 w0 W g f0) (ho : d.Q e W base ok v xs) (ht : ∀ q, q ∈ e :: d.E → q ≠ 124) : d.Q e W base (fun k => ok k ∧ k ≠ g) v xs := by
  obtain ⟨hb, hg⟩ := h
  exact Kd.Q_types ho hb ht
theorem IsS124.own_neQ {w0 W : World} {g : Nat} {f0 : ByteArray} {α : Type} {d : Kd α} {e : Nat} {base : Nat} {ok : Nat → Prop} {v : Value} {xs : List α} (h : IsS124 w0 W g f0) (ho : d.Q e W base ok v xs) (ht : e ≠ 124) : some g ≠ v.ownBlock := by
  obtain ⟨hb, hg⟩ := h
  exact Kd.Q_ne ho hb ht
theorem IsS124.apartS {w0 W : World} {g : Nat} {f0 : ByteArray} {α : Type} {d : Kd α} {e : Nat} {base : Nat} {ok : Nat → Prop} {v : Value} {xs : List α} (h : IsS124 w0 W g f0) (ho : d.S e W base ok v xs) (ht : ∀ q, q ∈ e :: d.E → q ≠ 124) : d.S e W base (fun k => ok k ∧ k ≠ g) v xs := by
  obtain ⟨hb, hg⟩ := h
  exact Kd.S_types ho hb ht
theorem IsS124.own_neS {w0 W : World} {g : Nat} {f0 : ByteArray} {α : Type} {d : Kd α} {e : Nat} {base : Nat} {ok : Nat → Prop} {v : Value} {xs : List α} (h : IsS124 w0 W g f0) (ho : d.S e W base ok v xs) (ht : e ≠ 124) : some g ≠ v.ownBlock := by
  obtain ⟨hb, hg⟩ := h
  exact Kd.S_ne ho hb ht
theorem IsS124.lt {w0 W : World} {g : Nat} {f0 : ByteArray} (h : IsS124 w0 W g f0) : g < W.heap.size := by
  obtain ⟨hb, hg⟩ := h
  exact blk_lt hb
theorem IsS124.ge {w0 W : World} {g : Nat} {f0 : ByteArray} (h : IsS124 w0 W g f0) : w0.heap.size ≤ g := by
  obtain ⟨hb, hg⟩ := h
  exact hg
theorem IsS124.ne_blk {w0 W : World} {g : Nat} {f0 : ByteArray} {a : Nat} {cs : Array Value} {t : TypeId} {fr : Nat × Nat} (h : IsS124 w0 W g f0) (hb2 : W.heap[a]? = some (.cells cs t fr)) (ht : t ≠ 124) : g ≠ a := by
  obtain ⟨hb, hg⟩ := h
  rintro rfl
  rw [hb] at hb2
  injection hb2 with hb2
  injection hb2 with _ ht2
  exact ht ht2.symm
theorem IsS124.far {w0 W : World} {g : Nat} {f0 : ByteArray} {p : Addr} (h : IsS124 w0 W g f0) (hne : g ≠ p.block) (u : Value) : IsS124 w0 (W.setCell p u) g f0 := by
  obtain ⟨hb, hg⟩ := h
  exact ⟨blk_far hb hne u, hg⟩
theorem cellS124_0 {W : World} {g : Nat} {f0 : ByteArray} (h : W.heap[g]? = some (.cells #[.string f0] 124 (0, 0))) : W.cell? ⟨g, 0, none⟩ = some (.string f0) := (blk_cell h 0).trans rfl
theorem IsS124.set_0 {w0 W : World} {g : Nat} {f0 : ByteArray} (h : IsS124 w0 W g f0) (x : ByteArray) : IsS124 w0 (W.setCell ⟨g, 0, none⟩ (.string x)) g x := by
  obtain ⟨hb, hg⟩ := h
  exact ⟨by simpa using blk_set hb 0 (.string x), hg⟩
theorem IsS124.new (w0 W : World) (f0 : ByteArray) (hB : Below w0.heap.size w0 W) : IsS124 w0 (W.alloc (.cells #[.string f0] 124)) W.heap.size f0 := ⟨by simpa using heap_alloc_new W _, hB.size⟩

/-! ### span_scan_text: function 119 -/
def span_scan_text.f (s0_0 : ByteArray) (a1 : ByteArray) : Option (Bool × ByteArray) := (strings_CutPrefix.f s0_0 a1).bind fun bt101 => (some (bt101.2, bt101.1))
set_option maxHeartbeats 8000000 in
set_option maxRecDepth 100000 in
theorem span_scan_text.calls (g : Nat) (s0_0 : ByteArray) (a1 : ByteArray) (r1 : Bool) (r2 : ByteArray) (w0 w : World) (hI : IsS124 w0 w g s0_0) (hB : Below w0.heap.size w0 w) (hG : GW w0) (h : span_scan_text.f s0_0 a1 = some (r1, r2)) :
    Calls Tryz.prog 119 #[.pointer (some ⟨g, 0, none⟩), .string a1] w fun e w' => e = .returned (.bool r1) ∧ IsS124 w0 w' g r2 ∧ Below w0.heap.size w0 w' ∧ KeepBut w w' g none := by
  have HI0 := Aside0.mk hI
  have HK := Aside0.mk (KeepBut.refl w g none)
  have HL := Aside0.mk hB.size
  clear hI
  have HW0 := Aside0.mk hB.size
  have HB := Aside0.mk hB
  clear hB
  have HG := Aside0.mk hG
  clear hG
  have H : ((strings_CutPrefix.f s0_0 a1).bind fun bt101 => (some (bt101.2, bt101.1))) = some (r1, r2) := h
  clear h
  replace H := Option.bind_eq_some_iff.mp H
  obtain ⟨⟨t101, t102⟩, A30, H⟩ := H
  replace H : (some (t102, t101)) = some (r1, r2) := H
  have A3 := Aside0.mk A30
  clear A30
  simp only [Option.some.injEq, Prod.mk.injEq] at H
  obtain ⟨rfl, rfl⟩ := H
  obtain ⟨HGz4, hgz4⟩ := HI0.out
  have hcz4_0 := cellS124_0 HGz4
  have hfz4_0 := blk_frozen HGz4 0
  clear HGz4 hgz4
  go_enter Tryz.func119, Tryz.ntmps119
  go_wp2_with (first | ((with_reducible refine gate_callee (f := 58) rfl ?_); refine goesL_ (some 13) rfl rfl Tryz.func58 (by kernel_rfl) rfl #[.string s0_0, .string a1] rfl (by (try simp only [List.map_toArray, List.map_cons, List.map_nil]); first | done | rfl | (simp only [List.length_drop, List.length_take]; rfl)) ?_; (with_reducible refine (strings_CutPrefix.calls s0_0 a1 t101 t102 _ ?side1 A3.out).mono ?_); (case side1 => (first | (with_reducible first | exact HG.out | exact GW.drewN HG.out _ | exact GW.drewN (GW.drewN HG.out _) _) | exact GW.below HG.out (by repeat (first | (with_reducible first | exact HB.out | apply below_alloc | apply pw_below_drewN | apply below_drew1 | refine below_set ?_ (IsS124.ge HI0.out)) | exact HB.out)))); rintro e w5 ⟨rfl, hb⟩; refine ⟨_, rfl, ?_⟩; have n0_ := Aside0.mk (IsS124.below (by repeat (first | (with_reducible first | exact HI0.out | apply IsS124.alloc | apply IsS124.drewN | apply IsS124.drew | apply IsS124.set_0) | exact HI0.out)) hb); have n1_ := Aside0.mk (KeepBut.trans (by repeat (first | (with_reducible first | exact HK.out | apply KeepBut.set_ | apply keep_drewN | apply keep_drew | apply keep_alloc) | exact HK.out)) (KeepBut.of_below hb g none) (.inl rfl)); have n2_ := Aside0.mk (below_step (by repeat (first | (with_reducible first | exact HB.out | apply below_alloc | apply pw_below_drewN | apply below_drew1 | refine below_set ?_ (IsS124.ge HI0.out)) | exact HB.out)) hb); clear HI0; clear HK; clear HB; have HI0 := n0_; have HK := n1_; have HB := n2_; clear n0_ n1_ n2_; (try clear hb); (try clear hb2); (try clear hk); (try clear hi); obtain ⟨HGz6, hgz6⟩ := HI0.out; have hcz6_0 := cellS124_0 HGz6; have hfz6_0 := blk_frozen HGz6 0; clear HGz6 hgz6))
  go_ret
  exact ⟨by first | rfl | (simp [errW_none, errW_some] <;> rfl) | (simp [*, errW_none, errW_some] <;> rfl), by repeat (first | (with_reducible first | exact HI0.out | apply IsS124.alloc | apply IsS124.drewN | apply IsS124.drew | apply IsS124.set_0) | exact HI0.out), by repeat (first | (with_reducible first | exact HB.out | apply below_alloc | apply pw_below_drewN | apply below_drew1 | refine below_set ?_ (IsS124.ge HI0.out)) | exact HB.out), by repeat (first | (with_reducible first | exact HK.out | apply KeepBut.set_ | apply keep_drewN | apply keep_drew | apply keep_alloc) | exact HK.out)⟩

/-! ### span_is: function 122 -/
def span_is.f (a0 : Int) (a1 : Bool) (a2 : Bool) (a3 : ByteArray) : Option (Bool) := if a1 = true then (if (Go.bits .or .u8 a0 32) ≥ 97 then (if (Go.bits .or .u8 a0 32) ≤ 122 then (some true) else (if a2 = true then (if a0 ≥ 48 then (if a0 ≤ 57 then (some true) else ((strings_IndexByte.f a3 a0).bind fun t103 => (some (decide (t103 ≥ 0))))) else ((strings_IndexByte.f a3 a0).bind fun t104 => (some (decide (t104 ≥ 0))))) else ((strings_IndexByte.f a3 a0).bind fun t105 => (some (decide (t105 ≥ 0)))))) else (if a2 = true then (if a0 ≥ 48 then (if a0 ≤ 57 then (some true) else ((strings_IndexByte.f a3 a0).bind fun t106 => (some (decide (t106 ≥ 0))))) else ((strings_IndexByte.f a3 a0).bind fun t107 => (some (decide (t107 ≥ 0))))) else ((strings_IndexByte.f a3 a0).bind fun t108 => (some (decide (t108 ≥ 0)))))) else (if a2 = true then (if a0 ≥ 48 then (if a0 ≤ 57 then (some true) else ((strings_IndexByte.f a3 a0).bind fun t109 => (some (decide (t109 ≥ 0))))) else ((strings_IndexByte.f a3 a0).bind fun t110 => (some (decide (t110 ≥ 0))))) else ((strings_IndexByte.f a3 a0).bind fun t111 => (some (decide (t111 ≥ 0)))))
set_option maxHeartbeats 8000000 in
set_option maxRecDepth 100000 in
theorem span_is.calls (a0 : Int) (a1 : Bool) (a2 : Bool) (a3 : ByteArray) (r : Bool) (w : World) (hG : GW w) (h : span_is.f a0 a1 a2 a3 = some r) :
    Calls Tryz.prog 122 #[.int .u8 a0, .bool a1, .bool a2, .string a3] w fun e w' => e = .returned (.bool r) ∧ Drawn0 w w' := by
  have HG := Aside0.mk hG
  clear hG
  have H : (if a1 = true then (if (Go.bits .or .u8 a0 32) ≥ 97 then (if (Go.bits .or .u8 a0 32) ≤ 122 then (some true) else (if a2 = true then (if a0 ≥ 48 then (if a0 ≤ 57 then (some true) else ((strings_IndexByte.f a3 a0).bind fun t103 => (some (decide (t103 ≥ 0))))) else ((strings_IndexByte.f a3 a0).bind fun t104 => (some (decide (t104 ≥ 0))))) else ((strings_IndexByte.f a3 a0).bind fun t105 => (some (decide (t105 ≥ 0)))))) else (if a2 = true then (if a0 ≥ 48 then (if a0 ≤ 57 then (some true) else ((strings_IndexByte.f a3 a0).bind fun t106 => (some (decide (t106 ≥ 0))))) else ((strings_IndexByte.f a3 a0).bind fun t107 => (some (decide (t107 ≥ 0))))) else ((strings_IndexByte.f a3 a0).bind fun t108 => (some (decide (t108 ≥ 0)))))) else (if a2 = true then (if a0 ≥ 48 then (if a0 ≤ 57 then (some true) else ((strings_IndexByte.f a3 a0).bind fun t109 => (some (decide (t109 ≥ 0))))) else ((strings_IndexByte.f a3 a0).bind fun t110 => (some (decide (t110 ≥ 0))))) else ((strings_IndexByte.f a3 a0).bind fun t111 => (some (decide (t111 ≥ 0)))))) = some r := h
  clear h
  by_cases c5 : a1 = true
  · subst c5
    have H1 : (if (Go.bits .or .u8 a0 32) ≥ 97 then (if (Go.bits .or .u8 a0 32) ≤ 122 then (some true) else (if a2 = true then (if a0 ≥ 48 then (if a0 ≤ 57 then (some true) else ((strings_IndexByte.f a3 a0).bind fun t103 => (some (decide (t103 ≥ 0))))) else ((strings_IndexByte.f a3 a0).bind fun t104 => (some (decide (t104 ≥ 0))))) else ((strings_IndexByte.f a3 a0).bind fun t105 => (some (decide (t105 ≥ 0)))))) else (if a2 = true then (if a0 ≥ 48 then (if a0 ≤ 57 then (some true) else ((strings_IndexByte.f a3 a0).bind fun t106 => (some (decide (t106 ≥ 0))))) else ((strings_IndexByte.f a3 a0).bind fun t107 => (some (decide (t107 ≥ 0))))) else ((strings_IndexByte.f a3 a0).bind fun t108 => (some (decide (t108 ≥ 0)))))) = some r := by rw [if_pos rfl] at H; exact H
    clear H
    have H := H1
    clear H1
    by_cases c6 : (Go.bits .or .u8 a0 32) ≥ 97
    · rw [if_pos c6] at H
      have c6b0 : decide (97 ≤ (Go.bits .or .u8 a0 32)) = true := decide_eq_true c6
      clear c6
      by_cases c7 : (Go.bits .or .u8 a0 32) ≤ 122
      · rw [if_pos c7] at H
        have c7b0 : decide ((Go.bits .or .u8 a0 32) ≤ 122) = true := decide_eq_true c7
        clear c7
        obtain rfl := Option.some.inj H
        go_enter Tryz.func122, Tryz.ntmps122
        go_wp2
        go_ret
        exact ⟨by first | rfl | (simp; done) | (simp [*]; done), by repeat (first | exact Drawn0.refl _ | apply Drawn0.step)⟩
      · rw [if_neg c7] at H
        have c7b0 : decide ((Go.bits .or .u8 a0 32) ≤ 122) = false := decide_eq_false c7
        clear c7
        by_cases c8 : a2 = true
        · subst c8
          have H1 : (if a0 ≥ 48 then (if a0 ≤ 57 then (some true) else ((strings_IndexByte.f a3 a0).bind fun t103 => (some (decide (t103 ≥ 0))))) else ((strings_IndexByte.f a3 a0).bind fun t104 => (some (decide (t104 ≥ 0))))) = some r := by rw [if_pos rfl] at H; exact H
          clear H
          have H := H1
          clear H1
          by_cases c9 : a0 ≥ 48
          · rw [if_pos c9] at H
            have c9b0 : decide (48 ≤ a0) = true := decide_eq_true c9
            clear c9
            by_cases c10 : a0 ≤ 57
            · rw [if_pos c10] at H
              have c10b0 : decide (a0 ≤ 57) = true := decide_eq_true c10
              clear c10
              obtain rfl := Option.some.inj H
              go_enter Tryz.func122, Tryz.ntmps122
              go_wp2
              go_ret
              exact ⟨by first | rfl | (simp; done) | (simp [*]; done), by repeat (first | exact Drawn0.refl _ | apply Drawn0.step)⟩
            · rw [if_neg c10] at H
              have c10b0 : decide (a0 ≤ 57) = false := decide_eq_false c10
              clear c10
              replace H := Option.bind_eq_some_iff.mp H
              obtain ⟨t103, A110, H⟩ := H
              replace H : (some (decide (t103 ≥ 0))) = some r := H
              have A11 := Aside0.mk A110
              clear A110
              obtain rfl := Option.some.inj H
              go_enter Tryz.func122, Tryz.ntmps122
              go_wp2_with (first | (go_at_call 52; (with_reducible refine (strings_IndexByte.calls a3 a0 t103 _ ?side1 A11.out).mono ?_); (case side1 => (first | (with_reducible first | exact HG.out | exact GW.drewN HG.out _ | exact GW.drewN (GW.drewN HG.out _) _) | exact GW.below HG.out (by repeat (first | (with_reducible first | exact HB.out | apply below_alloc | apply pw_below_drewN | apply below_drew1) | exact HB.out)))); rintro e w' ⟨rfl, ⟨nd, rfl⟩⟩))
              go_ret
              exact ⟨by first | rfl | (simp; done) | (simp [*]; done), by repeat (first | exact Drawn0.refl _ | apply Drawn0.step)⟩
          · rw [if_neg c9] at H
            have c9b0 : decide (48 ≤ a0) = false := decide_eq_false c9
            clear c9
            replace H := Option.bind_eq_some_iff.mp H
            obtain ⟨t104, A120, H⟩ := H
            replace H : (some (decide (t104 ≥ 0))) = some r := H
            have A12 := Aside0.mk A120
            clear A120
            obtain rfl := Option.some.inj H
            go_enter Tryz.func122, Tryz.ntmps122
            go_wp2_with (first | (go_at_call 52; (with_reducible refine (strings_IndexByte.calls a3 a0 t104 _ ?side1 A12.out).mono ?_); (case side1 => (first | (with_reducible first | exact HG.out | exact GW.drewN HG.out _ | exact GW.drewN (GW.drewN HG.out _) _) | exact GW.below HG.out (by repeat (first | (with_reducible first | exact HB.out | apply below_alloc | apply pw_below_drewN | apply below_drew1) | exact HB.out)))); rintro e w' ⟨rfl, ⟨nd, rfl⟩⟩))
            go_ret
            exact ⟨by first | rfl | (simp; done) | (simp [*]; done), by repeat (first | exact Drawn0.refl _ | apply Drawn0.step)⟩
        · replace c8 := Bool.eq_false_iff.mpr c8
          subst c8
          have H1 : ((strings_IndexByte.f a3 a0).bind fun t105 => (some (decide (t105 ≥ 0)))) = some r := by rw [if_neg (show ¬ (false = true) by decide)] at H; exact H
          clear H
          have H := H1
          clear H1
          replace H := Option.bind_eq_some_iff.mp H
          obtain ⟨t105, A130, H⟩ := H
          replace H : (some (decide (t105 ≥ 0))) = some r := H
          have A13 := Aside0.mk A130
          clear A130
          obtain rfl := Option.some.inj H
          go_enter Tryz.func122, Tryz.ntmps122
          go_wp2_with (first | (go_at_call 52; (with_reducible refine (strings_IndexByte.calls a3 a0 t105 _ ?side1 A13.out).mono ?_); (case side1 => (first | (with_reducible first | exact HG.out | exact GW.drewN HG.out _ | exact GW.drewN (GW.drewN HG.out _) _) | exact GW.below HG.out (by repeat (first | (with_reducible first | exact HB.out | apply below_alloc | apply pw_below_drewN | apply below_drew1) | exact HB.out)))); rintro e w' ⟨rfl, ⟨nd, rfl⟩⟩))
          go_ret
          exact ⟨by first | rfl | (simp; done) | (simp [*]; done), by repeat (first | exact Drawn0.refl _ | apply Drawn0.step)⟩
    · rw [if_neg c6] at H
      have c6b0 : decide (97 ≤ (Go.bits .or .u8 a0 32)) = false := decide_eq_false c6
      clear c6
      by_cases c14 : a2 = true
      · subst c14
        have H1 : (if a0 ≥ 48 then (if a0 ≤ 57 then (some true) else ((strings_IndexByte.f a3 a0).bind fun t106 => (some (decide (t106 ≥ 0))))) else ((strings_IndexByte.f a3 a0).bind fun t107 => (some (decide (t107 ≥ 0))))) = some r := by rw [if_pos rfl] at H; exact H
        clear H
        have H := H1
        clear H1
        by_cases c15 : a0 ≥ 48
        · rw [if_pos c15] at H
          have c15b0 : decide (48 ≤ a0) = true := decide_eq_true c15
          clear c15
          by_cases c16 : a0 ≤ 57
          · rw [if_pos c16] at H
            have c16b0 : decide (a0 ≤ 57) = true := decide_eq_true c16
            clear c16
            obtain rfl := Option.some.inj H
            go_enter Tryz.func122, Tryz.ntmps122
            go_wp2
            go_ret
            exact ⟨by first | rfl | (simp; done) | (simp [*]; done), by repeat (first | exact Drawn0.refl _ | apply Drawn0.step)⟩
          · rw [if_neg c16] at H
            have c16b0 : decide (a0 ≤ 57) = false := decide_eq_false c16
            clear c16
            replace H := Option.bind_eq_some_iff.mp H
            obtain ⟨t106, A170, H⟩ := H
            replace H : (some (decide (t106 ≥ 0))) = some r := H
            have A17 := Aside0.mk A170
            clear A170
            obtain rfl := Option.some.inj H
            go_enter Tryz.func122, Tryz.ntmps122
            go_wp2_with (first | (go_at_call 52; (with_reducible refine (strings_IndexByte.calls a3 a0 t106 _ ?side1 A17.out).mono ?_); (case side1 => (first | (with_reducible first | exact HG.out | exact GW.drewN HG.out _ | exact GW.drewN (GW.drewN HG.out _) _) | exact GW.below HG.out (by repeat (first | (with_reducible first | exact HB.out | apply below_alloc | apply pw_below_drewN | apply below_drew1) | exact HB.out)))); rintro e w' ⟨rfl, ⟨nd, rfl⟩⟩))
            go_ret
            exact ⟨by first | rfl | (simp; done) | (simp [*]; done), by repeat (first | exact Drawn0.refl _ | apply Drawn0.step)⟩
        · rw [if_neg c15] at H
          have c15b0 : decide (48 ≤ a0) = false := decide_eq_false c15
          clear c15
          replace H := Option.bind_eq_some_iff.mp H
          obtain ⟨t107, A180, H⟩ := H
          replace H : (some (decide (t107 ≥ 0))) = some r := H
          have A18 := Aside0.mk A180
          clear A180
          obtain rfl := Option.some.inj H
          go_enter Tryz.func122, Tryz.ntmps122
          go_wp2_with (first | (go_at_call 52; (with_reducible refine (strings_IndexByte.calls a3 a0 t107 _ ?side1 A18.out).mono ?_); (case side1 => (first | (with_reducible first | exact HG.out | exact GW.drewN HG.out _ | exact GW.drewN (GW.drewN HG.out _) _) | exact GW.below HG.out (by repeat (first | (with_reducible first | exact HB.out | apply below_alloc | apply pw_below_drewN | apply below_drew1) | exact HB.out)))); rintro e w' ⟨rfl, ⟨nd, rfl⟩⟩))
          go_ret
          exact ⟨by first | rfl | (simp; done) | (simp [*]; done), by repeat (first | exact Drawn0.refl _ | apply Drawn0.step)⟩
      · replace c14 := Bool.eq_false_iff.mpr c14
        subst c14
        have H1 : ((strings_IndexByte.f a3 a0).bind fun t108 => (some (decide (t108 ≥ 0)))) = some r := by rw [if_neg (show ¬ (false = true) by decide)] at H; exact H
        clear H
        have H := H1
        clear H1
        replace H := Option.bind_eq_some_iff.mp H
        obtain ⟨t108, A190, H⟩ := H
        replace H : (some (decide (t108 ≥ 0))) = some r := H
        have A19 := Aside0.mk A190
        clear A190
        obtain rfl := Option.some.inj H
        go_enter Tryz.func122, Tryz.ntmps122
        go_wp2_with (first | (go_at_call 52; (with_reducible refine (strings_IndexByte.calls a3 a0 t108 _ ?side1 A19.out).mono ?_); (case side1 => (first | (with_reducible first | exact HG.out | exact GW.drewN HG.out _ | exact GW.drewN (GW.drewN HG.out _) _) | exact GW.below HG.out (by repeat (first | (with_reducible first | exact HB.out | apply below_alloc | apply pw_below_drewN | apply below_drew1) | exact HB.out)))); rintro e w' ⟨rfl, ⟨nd, rfl⟩⟩))
        go_ret
        exact ⟨by first | rfl | (simp; done) | (simp [*]; done), by repeat (first | exact Drawn0.refl _ | apply Drawn0.step)⟩
  · replace c5 := Bool.eq_false_iff.mpr c5
    subst c5
    have H1 : (if a2 = true then (if a0 ≥ 48 then (if a0 ≤ 57 then (some true) else ((strings_IndexByte.f a3 a0).bind fun t109 => (some (decide (t109 ≥ 0))))) else ((strings_IndexByte.f a3 a0).bind fun t110 => (some (decide (t110 ≥ 0))))) else ((strings_IndexByte.f a3 a0).bind fun t111 => (some (decide (t111 ≥ 0))))) = some r := by rw [if_neg (show ¬ (false = true) by decide)] at H; exact H
    clear H
    have H := H1
    clear H1
    by_cases c20 : a2 = true
    · subst c20
      have H1 : (if a0 ≥ 48 then (if a0 ≤ 57 then (some true) else ((strings_IndexByte.f a3 a0).bind fun t109 => (some (decide (t109 ≥ 0))))) else ((strings_IndexByte.f a3 a0).bind fun t110 => (some (decide (t110 ≥ 0))))) = some r := by rw [if_pos rfl] at H; exact H
      clear H
      have H := H1
      clear H1
      by_cases c21 : a0 ≥ 48
      · rw [if_pos c21] at H
        have c21b0 : decide (48 ≤ a0) = true := decide_eq_true c21
        clear c21
        by_cases c22 : a0 ≤ 57
        · rw [if_pos c22] at H
          have c22b0 : decide (a0 ≤ 57) = true := decide_eq_true c22
          clear c22
          obtain rfl := Option.some.inj H
          go_enter Tryz.func122, Tryz.ntmps122
          go_wp2
          go_ret
          exact ⟨by first | rfl | (simp; done) | (simp [*]; done), by repeat (first | exact Drawn0.refl _ | apply Drawn0.step)⟩
        · rw [if_neg c22] at H
          have c22b0 : decide (a0 ≤ 57) = false := decide_eq_false c22
          clear c22
          replace H := Option.bind_eq_some_iff.mp H
          obtain ⟨t109, A230, H⟩ := H
          replace H : (some (decide (t109 ≥ 0))) = some r := H
          have A23 := Aside0.mk A230
          clear A230
          obtain rfl := Option.some.inj H
          go_enter Tryz.func122, Tryz.ntmps122
          go_wp2_with (first | (go_at_call 52; (with_reducible refine (strings_IndexByte.calls a3 a0 t109 _ ?side1 A23.out).mono ?_); (case side1 => (first | (with_reducible first | exact HG.out | exact GW.drewN HG.out _ | exact GW.drewN (GW.drewN HG.out _) _) | exact GW.below HG.out (by repeat (first | (with_reducible first | exact HB.out | apply below_alloc | apply pw_below_drewN | apply below_drew1) | exact HB.out)))); rintro e w' ⟨rfl, ⟨nd, rfl⟩⟩))
          go_ret
          exact ⟨by first | rfl | (simp; done) | (simp [*]; done), by repeat (first | exact Drawn0.refl _ | apply Drawn0.step)⟩
      · rw [if_neg c21] at H
        have c21b0 : decide (48 ≤ a0) = false := decide_eq_false c21
        clear c21
        replace H := Option.bind_eq_some_iff.mp H
        obtain ⟨t110, A240, H⟩ := H
        replace H : (some (decide (t110 ≥ 0))) = some r := H
        have A24 := Aside0.mk A240
        clear A240
        obtain rfl := Option.some.inj H
        go_enter Tryz.func122, Tryz.ntmps122
        go_wp2_with (first | (go_at_call 52; (with_reducible refine (strings_IndexByte.calls a3 a0 t110 _ ?side1 A24.out).mono ?_); (case side1 => (first | (with_reducible first | exact HG.out | exact GW.drewN HG.out _ | exact GW.drewN (GW.drewN HG.out _) _) | exact GW.below HG.out (by repeat (first | (with_reducible first | exact HB.out | apply below_alloc | apply pw_below_drewN | apply below_drew1) | exact HB.out)))); rintro e w' ⟨rfl, ⟨nd, rfl⟩⟩))
        go_ret
        exact ⟨by first | rfl | (simp; done) | (simp [*]; done), by repeat (first | exact Drawn0.refl _ | apply Drawn0.step)⟩
    · replace c20 := Bool.eq_false_iff.mpr c20
      subst c20
      have H1 : ((strings_IndexByte.f a3 a0).bind fun t111 => (some (decide (t111 ≥ 0)))) = some r := by rw [if_neg (show ¬ (false = true) by decide)] at H; exact H
      clear H
      have H := H1
      clear H1
      replace H := Option.bind_eq_some_iff.mp H
      obtain ⟨t111, A250, H⟩ := H
      replace H : (some (decide (t111 ≥ 0))) = some r := H
      have A25 := Aside0.mk A250
      clear A250
      obtain rfl := Option.some.inj H
      go_enter Tryz.func122, Tryz.ntmps122
      go_wp2_with (first | (go_at_call 52; (with_reducible refine (strings_IndexByte.calls a3 a0 t111 _ ?side1 A25.out).mono ?_); (case side1 => (first | (with_reducible first | exact HG.out | exact GW.drewN HG.out _ | exact GW.drewN (GW.drewN HG.out _) _) | exact GW.below HG.out (by repeat (first | (with_reducible first | exact HB.out | apply below_alloc | apply pw_below_drewN | apply below_drew1) | exact HB.out)))); rintro e w' ⟨rfl, ⟨nd, rfl⟩⟩))
      go_ret
      exact ⟨by first | rfl | (simp; done) | (simp [*]; done), by repeat (first | exact Drawn0.refl _ | apply Drawn0.step)⟩

/-! ### span_scan_some: function 123 -/
def span_scan_some.l0 : Nat → Bool → Bool → ByteArray → Int → ByteArray → Option (Int × ByteArray)
  | 0, _, _, _, _, _ => none
  | k + 1, x1, x2, x3, x9, x1000 => if x9 < (x1000.size : Int) then (if 0 ≤ x9 then ((span_is.f (bt x1000 x9) x1 x2 x3).bind fun t112 => (if t112 = true then (span_scan_some.l0 k x1 x2 x3 (wrap64 (x9 + 1)) x1000) else (if x9 ≤ (x1000.size : Int) then (some (x9, x1000.extract (x9 : Int).toNat x1000.size)) else (none)))) else (none)) else (if 0 ≤ x9 then (if x9 ≤ (x1000.size : Int) then (some (x9, x1000.extract (x9 : Int).toNat x1000.size)) else (none)) else (none))
def span_scan_some.f (k : Nat) (s0_0 : ByteArray) (a1 : Bool) (a2 : Bool) (a3 : ByteArray) : Option (Int × ByteArray) := span_scan_some.l0 k a1 a2 a3 0 s0_0
theorem span_scan_some.mono_l : ∀ k, (∀ y0 y1 y2 y3 y4, LeO (span_scan_some.l0 k y0 y1 y2 y3 y4) (span_scan_some.l0 (k + 1) y0 y1 y2 y3 y4))
  | 0 => fun _ _ _ _ _ r h => by simp [span_scan_some.l0] at h
  | k + 1 => by
    have ih0 := span_scan_some.mono_l k
    · intro y0 y1 y2 y3 y4
      unfold span_scan_some.l0
      repeat' first
      | (with_reducible exact ih0 _ _ _ _ _)
      | (with_reducible exact LeO.refl _)
      | (with_reducible exact LeO.none _)
      | (with_reducible refine LeO.ite ?_ ?_)
      | (with_reducible refine LeO.bind ?_ (fun _ => ?_))
      | exact ih0 _ _ _ _ _
      | exact LeO.none _
      | refine LeO.ite ?_ ?_
      | refine LeO.bind ?_ (fun _ => ?_)
theorem span_scan_some.mono : ∀ a0 a1 a2 a3 k, LeO (span_scan_some.f k a0 a1 a2 a3) (span_scan_some.f (k + 1) a0 a1 a2 a3) := by
  intro a0 a1 a2 a3 k
  have ih0 := span_scan_some.mono_l k
  unfold span_scan_some.f
  repeat' first
      | (with_reducible exact ih0 _ _ _ _ _)
      | (with_reducible exact LeO.refl _)
      | (with_reducible exact LeO.none _)
      | (with_reducible refine LeO.ite ?_ ?_)
      | (with_reducible refine LeO.bind ?_ (fun _ => ?_))
      | exact ih0 _ _ _ _ _
      | exact LeO.none _
      | refine LeO.ite ?_ ?_
      | refine LeO.bind ?_ (fun _ => ?_)
set_option maxHeartbeats 8000000 in
set_option maxRecDepth 100000 in
theorem span_scan_some.calls (k : Nat) (g : Nat) (s0_0 : ByteArray) (a1 : Bool) (a2 : Bool) (a3 : ByteArray) (r1 : Int) (r2 : ByteArray) (w0 w : World) (hI : IsS124 w0 w g s0_0) (hB : Below w0.heap.size w0 w) (hG : GW w0) (h : span_scan_some.f k s0_0 a1 a2 a3 = some (r1, r2)) :
    Calls Tryz.prog 123 #[.pointer (some ⟨g, 0, none⟩), .bool a1, .bool a2, .string a3] w fun e w' => e = .returned (.int .i64 r1) ∧ IsS124 w0 w' g r2 ∧ Below w0.heap.size w0 w' ∧ KeepBut w w' g none := by
  have HI0 := Aside0.mk hI
  have HK := Aside0.mk (KeepBut.refl w g none)
  have HL := Aside0.mk hB.size
  clear hI
  have HW0 := Aside0.mk hB.size
  have HB := Aside0.mk hB
  clear hB
  have HG := Aside0.mk hG
  clear hG
  have H : (span_scan_some.l0 k a1 a2 a3 0 s0_0) = some (r1, r2) := h
  clear h
  have H' := Aside0.mk H
  clear H
  go_enter Tryz.func123, Tryz.ntmps123
  go_wp2
  go_loopg [9] k (fun kq v9 w' => ∃ (x9_1 : Int), v9 = .int .i64 x9_1 ∧ Aside0 (span_scan_some.l0 kq a1 a2 a3 x9_1 s0_0 = some (r1, r2)) ∧ Aside0 (kq ≤ k) ∧ Aside0 (IsS124 w0 w' g s0_0) ∧ Aside0 (KeepBut w w' g none) ∧ Aside0 (Below w0.heap.size w0 w'))
  case atStart => exact ⟨(0), (by first | rfl | (simp; done) | (simp [*]; done)), H', ⟨Nat.le_refl _⟩, ⟨by repeat (first | (with_reducible first | exact HI0.out | apply IsS124.alloc | apply IsS124.drewN | apply IsS124.drew | apply IsS124.set_0) | exact HI0.out)⟩, ⟨by repeat (first | (with_reducible first | exact HK.out | apply KeepBut.set_ | apply keep_drewN | apply keep_drew | apply keep_alloc) | exact HK.out)⟩, ⟨by repeat (first | (with_reducible first | exact HB.out | apply below_alloc | apply pw_below_drewN | apply below_drew1 | refine below_set ?_ (IsS124.ge HI0.out)) | exact HB.out)⟩⟩
  case round =>
    clear H'
    try clear c1
    try clear p2
    obtain ⟨x9_1, rfl, HA, HK1, HI0, HK, HB⟩ := hrel
    cases gk with
    | zero => exact absurd HA.out (by simp [span_scan_some.l0])
    | succ k1 =>
      have H := HA.out
      clear HA
      simp only [span_scan_some.l0] at H
      by_cases c5 : x9_1 < (s0_0.size : Int)
      · rw [if_pos c5] at H
        have c5b0 : decide (x9_1 < (s0_0.size : Int)) = true := decide_eq_true c5
        clear c5
        by_cases c6 : 0 ≤ x9_1
        · rw [if_pos c6] at H
          have c6b0 : decide (0 ≤ x9_1) = true := decide_eq_true c6
          clear c6
          replace H := Option.bind_eq_some_iff.mp H
          obtain ⟨t112, A80, H⟩ := H
          replace H : (if t112 = true then (span_scan_some.l0 k1 a1 a2 a3 (wrap64 (x9_1 + 1)) s0_0) else (if x9_1 ≤ (s0_0.size : Int) then (some (x9_1, s0_0.extract (x9_1 : Int).toNat s0_0.size)) else (none))) = some (r1, r2) := H
          have A8 := Aside0.mk A80
          clear A80
          by_cases c9 : t112 = true
          · subst c9
            have H1 : (span_scan_some.l0 k1 a1 a2 a3 (wrap64 (x9_1 + 1)) s0_0) = some (r1, r2) := by rw [if_pos rfl] at H; exact H
            clear H
            have H := H1
            clear H1
            have H' := Aside0.mk H
            clear H
            obtain ⟨HGz10, hgz10⟩ := HI0.out
            have hcz10_0 := cellS124_0 HGz10
            have hfz10_0 := blk_frozen HGz10 0
            clear HGz10 hgz10
            have p7 : 0 ≤ (x9_1 : Int) := of_decide_eq_true (by first | (with_reducible assumption) | assumption)
            have q7 : x9_1 < (s0_0.size : Int) := of_decide_eq_true (by first | (with_reducible assumption) | assumption)
            have hx7 := bt_at s0_0 x9_1
            replace p7 := eq_true p7
            replace q7 := eq_true q7
            go_wp2_with (first | (go_at_call 122; (with_reducible refine (span_is.calls (bt s0_0 x9_1) a1 a2 a3 true _ ?side1 A8.out).mono ?_); (case side1 => (first | (with_reducible first | exact HG.out | exact GW.drewN HG.out _ | exact GW.drewN (GW.drewN HG.out _) _) | exact GW.below HG.out (by repeat (first | (with_reducible first | exact HB.out | apply below_alloc | apply pw_below_drewN | apply below_drew1 | refine below_set ?_ (IsS124.ge HI0.out)) | exact HB.out)))); rintro e w' ⟨rfl, ⟨nd, rfl⟩⟩))
            go_roundg k1
            case measure => have := HK1.out; omega
            case rel => exact ⟨(wrap64 (x9_1 + 1)), (by first | rfl | (simp; done) | (simp [*]; done)), H', ⟨by have := HK1.out; omega⟩, ⟨by repeat (first | (with_reducible first | exact HI0.out | apply IsS124.alloc | apply IsS124.drewN | apply IsS124.drew | apply IsS124.set_0) | exact HI0.out)⟩, ⟨by repeat (first | (with_reducible first | exact HK.out | apply KeepBut.set_ | apply keep_drewN | apply keep_drew | apply keep_alloc) | exact HK.out)⟩, ⟨by repeat (first | (with_reducible first | exact HB.out | apply below_alloc | apply pw_below_drewN | apply below_drew1 | refine below_set ?_ (IsS124.ge HI0.out)) | exact HB.out)⟩⟩
          · replace c9 := Bool.eq_false_iff.mpr c9
            subst c9
            have H1 : (if x9_1 ≤ (s0_0.size : Int) then (some (x9_1, s0_0.extract (x9_1 : Int).toNat s0_0.size)) else (none)) = some (r1, r2) := by rw [if_neg (show ¬ (false = true) by decide)] at H; exact H
            clear H
            have H := H1
            clear H1
            have c11b0 := eq_true (of_decide_eq_true (by first | (with_reducible assumption) | assumption) : 0 ≤ x9_1)
            by_cases c12 : x9_1 ≤ (s0_0.size : Int)
            · rw [if_pos c12] at H
              have c12b0 := eq_true c12
              have c12b1 : decide (x9_1 ≤ (s0_0.size : Int)) = true := decide_eq_true c12
              clear c12
              simp only [Option.some.injEq, Prod.mk.injEq] at H
              obtain ⟨rfl, rfl⟩ := H
              obtain ⟨HGz13, hgz13⟩ := HI0.out
              have hcz13_0 := cellS124_0 HGz13
              have hfz13_0 := blk_frozen HGz13 0
              clear HGz13 hgz13
              have p7 : 0 ≤ (x9_1 : Int) := of_decide_eq_true (by first | (with_reducible assumption) | assumption)
              have q7 : x9_1 < (s0_0.size : Int) := of_decide_eq_true (by first | (with_reducible assumption) | assumption)
              have hx7 := bt_at s0_0 x9_1
              replace p7 := eq_true p7
              replace q7 := eq_true q7
              go_wp2_with (first | (go_at_call 122; (with_reducible refine (span_is.calls (bt s0_0 x9_1) a1 a2 a3 false _ ?side1 A8.out).mono ?_); (case side1 => (first | (with_reducible first | exact HG.out | exact GW.drewN HG.out _ | exact GW.drewN (GW.drewN HG.out _) _) | exact GW.below HG.out (by repeat (first | (with_reducible first | exact HB.out | apply below_alloc | apply pw_below_drewN | apply below_drew1 | refine below_set ?_ (IsS124.ge HI0.out)) | exact HB.out)))); rintro e w' ⟨rfl, ⟨nd, rfl⟩⟩; (try (rw [drewN_self wr]; generalize hq_ : World.drewN wr _ = wr; have n0_ : Aside0 (IsS124 w0 wr g s0_0) := ⟨by rw [← hq_]; exact (by repeat (first | (with_reducible first | exact HI0.out | apply IsS124.alloc | apply IsS124.drewN | apply IsS124.drew | apply IsS124.set_0) | exact HI0.out))⟩; have n1_ : Aside0 (KeepBut w wr g none) := ⟨by rw [← hq_]; exact (by repeat (first | (with_reducible first | exact HK.out | apply KeepBut.set_ | apply keep_drewN | apply keep_drew | apply keep_alloc) | exact HK.out))⟩; have n2_ : Aside0 (Below w0.heap.size w0 wr) := ⟨by rw [← hq_]; exact (by repeat (first | (with_reducible first | exact HB.out | apply below_alloc | apply pw_below_drewN | apply below_drew1 | refine below_set ?_ (IsS124.ge HI0.out)) | exact HB.out))⟩; clear HI0 HK HB hq_; have HI0 := n0_; have HK := n1_; have HB := n2_; clear n0_ n1_ n2_; (try (obtain ⟨HGz_, hgz_⟩ := HI0.out; have hcz_ := cellS124_0 HGz_; have hfz_ := blk_frozen HGz_ 0; clear HGz_ hgz_))))))
              go_ret
              exact ⟨by first | rfl | (simp [errW_none, errW_some] <;> rfl) | (simp [*, errW_none, errW_some] <;> rfl), by repeat (first | (with_reducible first | exact HI0.out | apply IsS124.alloc | apply IsS124.drewN | apply IsS124.drew | apply IsS124.set_0) | exact HI0.out), by repeat (first | (with_reducible first | exact HB.out | apply below_alloc | apply pw_below_drewN | apply below_drew1 | refine below_set ?_ (IsS124.ge HI0.out)) | exact HB.out), by repeat (first | (with_reducible first | exact HK.out | apply KeepBut.set_ | apply keep_drewN | apply keep_drew | apply keep_alloc) | exact HK.out)⟩
            · rw [if_neg c12] at H
              exact absurd H (by simp)
        · rw [if_neg c6] at H
          exact absurd H (by simp)
      · rw [if_neg c5] at H
        have c5b0 : decide (x9_1 < (s0_0.size : Int)) = false := decide_eq_false c5
        clear c5
        by_cases c14 : 0 ≤ x9_1
        · rw [if_pos c14] at H
          have c14b0 := eq_true c14
          have c14b1 : decide (0 ≤ x9_1) = true := decide_eq_true c14
          clear c14
          by_cases c15 : x9_1 ≤ (s0_0.size : Int)
          · rw [if_pos c15] at H
            have c15b0 := eq_true c15
            have c15b1 : decide (x9_1 ≤ (s0_0.size : Int)) = true := decide_eq_true c15
            clear c15
            simp only [Option.some.injEq, Prod.mk.injEq] at H
            obtain ⟨rfl, rfl⟩ := H
            obtain ⟨HGz16, hgz16⟩ := HI0.out
            have hcz16_0 := cellS124_0 HGz16
            have hfz16_0 := blk_frozen HGz16 0
            clear HGz16 hgz16
            go_wp2
            go_ret
            exact ⟨by first | rfl | (simp [errW_none, errW_some] <;> rfl) | (simp [*, errW_none, errW_some] <;> rfl), by repeat (first | (with_reducible first | exact HI0.out | apply IsS124.alloc | apply IsS124.drewN | apply IsS124.drew | apply IsS124.set_0) | exact HI0.out), by repeat (first | (with_reducible first | exact HB.out | apply below_alloc | apply pw_below_drewN | apply below_drew1 | refine below_set ?_ (IsS124.ge HI0.out)) | exact HB.out), by repeat (first | (with_reducible first | exact HK.out | apply KeepBut.set_ | apply keep_drewN | apply keep_drew | apply keep_alloc) | exact HK.out)⟩
          · rw [if_neg c15] at H
            exact absurd H (by simp)
        · rw [if_neg c14] at H
          exact absurd H (by simp)

/-! ### span_scan_name: function 120 -/
def span_scan_name.f (k : Nat) (s0_0 : ByteArray) : Option (Bool × ByteArray) := if s0_0.toList = ([] : List UInt8) then (some (false, s0_0)) else (if 0 < (s0_0.size : Int) then ((span_is.f (bt s0_0 0) true false (⟨#[]⟩ : ByteArray)).bind fun t113 => (if t113 = true then ((span_scan_some.f k s0_0 true true (⟨#[45]⟩ : ByteArray)).bind fun bt114 => (some (decide (bt114.1 > 0), bt114.2))) else (some (false, s0_0)))) else (none))
theorem span_scan_name.mono : ∀ a0 k, LeO (span_scan_name.f k a0) (span_scan_name.f (k + 1) a0) := by
  intro a0 k
  unfold span_scan_name.f
  repeat' first
      | (with_reducible exact span_scan_some.mono _ _ _ _ _)
      | (with_reducible exact LeO.refl _)
      | (with_reducible exact LeO.none _)
      | (with_reducible refine LeO.ite ?_ ?_)
      | (with_reducible refine LeO.bind ?_ (fun _ => ?_))
      | exact span_scan_some.mono _ _ _ _ _
      | exact LeO.none _
      | refine LeO.ite ?_ ?_
      | refine LeO.bind ?_ (fun _ => ?_)
set_option maxHeartbeats 8000000 in
set_option maxRecDepth 100000 in
theorem span_scan_name.calls (k : Nat) (g : Nat) (s0_0 : ByteArray) (r1 : Bool) (r2 : ByteArray) (w0 w : World) (hI : IsS124 w0 w g s0_0) (hB : Below w0.heap.size w0 w) (hG : GW w0) (h : span_scan_name.f k s0_0 = some (r1, r2)) :
    Calls Tryz.prog 120 #[.pointer (some ⟨g, 0, none⟩)] w fun e w' => e = .returned (.bool r1) ∧ IsS124 w0 w' g r2 ∧ Below w0.heap.size w0 w' ∧ KeepBut w w' g none := by
  have HI0 := Aside0.mk hI
  have HK := Aside0.mk (KeepBut.refl w g none)
  have HL := Aside0.mk hB.size
  clear hI
  have HW0 := Aside0.mk hB.size
  have HB := Aside0.mk hB
  clear hB
  have HG := Aside0.mk hG
  clear hG
  have H : (if s0_0.toList = ([] : List UInt8) then (some (false, s0_0)) else (if 0 < (s0_0.size : Int) then ((span_is.f (bt s0_0 0) true false (⟨#[]⟩ : ByteArray)).bind fun t113 => (if t113 = true then ((span_scan_some.f k s0_0 true true (⟨#[45]⟩ : ByteArray)).bind fun bt114 => (some (decide (bt114.1 > 0), bt114.2))) else (some (false, s0_0)))) else (none))) = some (r1, r2) := h
  clear h
  by_cases c2 : s0_0.toList = ([] : List UInt8)
  · rw [if_pos c2] at H
    have c2b0 : (s0_0.toList == ([] : List UInt8)) = true := beq_iff_eq.mpr c2
    have c2b1 : (s0_0.toList != ([] : List UInt8)) = false := bne_eq_false_iff_eq.mpr c2
    have c2e0 : s0_0.toList.isEmpty = true := by rw [c2]; rfl
    clear c2
    simp only [Option.some.injEq, Prod.mk.injEq] at H
    obtain ⟨rfl, rfl⟩ := H
    obtain ⟨HGz3, hgz3⟩ := HI0.out
    have hcz3_0 := cellS124_0 HGz3
    have hfz3_0 := blk_frozen HGz3 0
    clear HGz3 hgz3
    go_enter Tryz.func120, Tryz.ntmps120
    go_wp2
    go_ret
    exact ⟨by first | rfl | (simp [errW_none, errW_some] <;> rfl) | (simp [*, errW_none, errW_some] <;> rfl), by repeat (first | (with_reducible first | exact HI0.out | apply IsS124.alloc | apply IsS124.drewN | apply IsS124.drew | apply IsS124.set_0) | exact HI0.out), by repeat (first | (with_reducible first | exact HB.out | apply below_alloc | apply pw_below_drewN | apply below_drew1 | refine below_set ?_ (IsS124.ge HI0.out)) | exact HB.out), by repeat (first | (with_reducible first | exact HK.out | apply KeepBut.set_ | apply keep_drewN | apply keep_drew | apply keep_alloc) | exact HK.out)⟩
  · rw [if_neg c2] at H
    have c2b0 : (s0_0.toList == ([] : List UInt8)) = false := beq_eq_false_iff_ne.mpr c2
    have c2b1 : (s0_0.toList != ([] : List UInt8)) = true := bne_iff_ne.mpr c2
    have c2e0 : s0_0.toList.isEmpty = false := by cases h_ : s0_0.toList with | nil => exact absurd h_ c2 | cons _ _ => rfl
    by_cases c4 : 0 < (s0_0.size : Int)
    · rw [if_pos c4] at H
      have c4b0 : decide (0 < (s0_0.size : Int)) = true := decide_eq_true c4
      have c4b1 : decide (0 < s0_0.size) = true := decide_eq_true (by omega)
      clear c4
      replace H := Option.bind_eq_some_iff.mp H
      obtain ⟨t113, A60, H⟩ := H
      replace H : (if t113 = true then ((span_scan_some.f k s0_0 true true (⟨#[45]⟩ : ByteArray)).bind fun bt114 => (some (decide (bt114.1 > 0), bt114.2))) else (some (false, s0_0))) = some (r1, r2) := H
      have A6 := Aside0.mk A60
      clear A60
      by_cases c7 : t113 = true
      · subst c7
        have H1 : ((span_scan_some.f k s0_0 true true (⟨#[45]⟩ : ByteArray)).bind fun bt114 => (some (decide (bt114.1 > 0), bt114.2))) = some (r1, r2) := by rw [if_pos rfl] at H; exact H
        clear H
        have H := H1
        clear H1
        replace H := Option.bind_eq_some_iff.mp H
        obtain ⟨⟨t114, t115⟩, A80, H⟩ := H
        replace H : (some (decide (t114 > 0), t115)) = some (r1, r2) := H
        have A8 := Aside0.mk A80
        clear A80
        simp only [Option.some.injEq, Prod.mk.injEq] at H
        obtain ⟨rfl, rfl⟩ := H
        obtain ⟨HGz9, hgz9⟩ := HI0.out
        have hcz9_0 := cellS124_0 HGz9
        have hfz9_0 := blk_frozen HGz9 0
        clear HGz9 hgz9
        have p5 : 0 ≤ (0 : Int) := (by omega)
        have q5 : 0 < s0_0.size := (by have : (0 : Int) < (s0_0.size : Int) := of_decide_eq_true (by first | (with_reducible assumption) | assumption); omega)
        have hx5 : ∀ h : 0 < s0_0.size, ((s0_0[0]'h).toNat : Int) = bt s0_0 0 := bt_at s0_0 0
        clear p5
        have qi5 : (0 < (s0_0.size : Int)) = True := eq_true (of_decide_eq_true (by first | (with_reducible assumption) | assumption))
        replace q5 := eq_true q5
        go_enter Tryz.func120, Tryz.ntmps120
        go_wp2_with (first | (go_at_call 122; (with_reducible refine (span_is.calls (bt s0_0 0) true false (⟨#[]⟩ : ByteArray) true _ ?side1 A6.out).mono ?_); (case side1 => (first | (with_reducible first | exact HG.out | exact GW.drewN HG.out _ | exact GW.drewN (GW.drewN HG.out _) _) | exact GW.below HG.out (by repeat (first | (with_reducible first | exact HB.out | apply below_alloc | apply pw_below_drewN | apply below_drew1 | refine below_set ?_ (IsS124.ge HI0.out)) | exact HB.out)))); rintro e w' ⟨rfl, ⟨nd, rfl⟩⟩) | ((with_reducible refine gate_callee (f := 123) rfl ?_); refine goesL_ (some 18) rfl rfl Tryz.func123 (by kernel_rfl) rfl #[.pointer (some ⟨g, 0, none⟩), .bool true, .bool true, .string (⟨#[45]⟩ : ByteArray)] rfl (by (try simp only [List.map_toArray, List.map_cons, List.map_nil]); first | done | rfl | (simp only [List.length_drop, List.length_take]; rfl)) ?_; (with_reducible refine (span_scan_some.calls k g s0_0 true true (⟨#[45]⟩ : ByteArray) t114 t115 w0 _ ?side1 ?side2 ?side3 A8.out).mono ?_); (case side1 => repeat (first | (with_reducible first | exact HI0.out | apply IsS124.alloc | apply IsS124.drewN | apply IsS124.drew | apply IsS124.set_0) | exact HI0.out)); (case side2 => repeat (first | (with_reducible first | exact HB.out | apply below_alloc | apply pw_below_drewN | apply below_drew1 | refine below_set ?_ (IsS124.ge HI0.out)) | exact HB.out)); (case side3 => exact HG.out); rintro e w10 ⟨rfl, hi, hb, hk⟩; refine ⟨_, rfl, ?_⟩; have n0_ := Aside0.mk (KeepBut.trans (by repeat (first | (with_reducible first | exact HK.out | apply KeepBut.set_ | apply keep_drewN | apply keep_drew | apply keep_alloc) | exact HK.out)) hk (.inl rfl)); have n1_ := Aside0.mk (hb); have n2_ := Aside0.mk (hi); clear HK; clear HB; clear HI0; have HK := n0_; have HB := n1_; have HI0 := n2_; clear n0_ n1_ n2_; (try clear hb); (try clear hb2); (try clear hk); (try clear hi)))
        go_ret
        exact ⟨by first | rfl | (simp [errW_none, errW_some] <;> rfl) | (simp [*, errW_none, errW_some] <;> rfl), by repeat (first | (with_reducible first | exact HI0.out | apply IsS124.alloc | apply IsS124.drewN | apply IsS124.drew | apply IsS124.set_0) | exact HI0.out), by repeat (first | (with_reducible first | exact HB.out | apply below_alloc | apply pw_below_drewN | apply below_drew1 | refine below_set ?_ (IsS124.ge HI0.out)) | exact HB.out), by repeat (first | (with_reducible first | exact HK.out | apply KeepBut.set_ | apply keep_drewN | apply keep_drew | apply keep_alloc) | exact HK.out)⟩
      · replace c7 := Bool.eq_false_iff.mpr c7
        subst c7
        have H1 : (some (false, s0_0)) = some (r1, r2) := by rw [if_neg (show ¬ (false = true) by decide)] at H; exact H
        clear H
        have H := H1
        clear H1
        simp only [Option.some.injEq, Prod.mk.injEq] at H
        obtain ⟨rfl, rfl⟩ := H
        obtain ⟨HGz11, hgz11⟩ := HI0.out
        have hcz11_0 := cellS124_0 HGz11
        have hfz11_0 := blk_frozen HGz11 0
        clear HGz11 hgz11
        have p5 : 0 ≤ (0 : Int) := (by omega)
        have q5 : 0 < s0_0.size := (by have : (0 : Int) < (s0_0.size : Int) := of_decide_eq_true (by first | (with_reducible assumption) | assumption); omega)
        have hx5 : ∀ h : 0 < s0_0.size, ((s0_0[0]'h).toNat : Int) = bt s0_0 0 := bt_at s0_0 0
        clear p5
        have qi5 : (0 < (s0_0.size : Int)) = True := eq_true (of_decide_eq_true (by first | (with_reducible assumption) | assumption))
        replace q5 := eq_true q5
        go_enter Tryz.func120, Tryz.ntmps120
        go_wp2_with (first | (go_at_call 122; (with_reducible refine (span_is.calls (bt s0_0 0) true false (⟨#[]⟩ : ByteArray) false _ ?side1 A6.out).mono ?_); (case side1 => (first | (with_reducible first | exact HG.out | exact GW.drewN HG.out _ | exact GW.drewN (GW.drewN HG.out _) _) | exact GW.below HG.out (by repeat (first | (with_reducible first | exact HB.out | apply below_alloc | apply pw_below_drewN | apply below_drew1 | refine below_set ?_ (IsS124.ge HI0.out)) | exact HB.out)))); rintro e w' ⟨rfl, ⟨nd, rfl⟩⟩))
        go_ret
        exact ⟨by first | rfl | (simp [errW_none, errW_some] <;> rfl) | (simp [*, errW_none, errW_some] <;> rfl), by repeat (first | (with_reducible first | exact HI0.out | apply IsS124.alloc | apply IsS124.drewN | apply IsS124.drew | apply IsS124.set_0) | exact HI0.out), by repeat (first | (with_reducible first | exact HB.out | apply below_alloc | apply pw_below_drewN | apply below_drew1 | refine below_set ?_ (IsS124.ge HI0.out)) | exact HB.out), by repeat (first | (with_reducible first | exact HK.out | apply KeepBut.set_ | apply keep_drewN | apply keep_drew | apply keep_alloc) | exact HK.out)⟩
    · rw [if_neg c4] at H
      exact absurd H (by simp)

/-! ### span_scan_gap: function 121 -/
def span_scan_gap.f (k : Nat) (s0_0 : ByteArray) : Option (Int × ByteArray) := (span_scan_some.f k s0_0 false false (⟨#[32, 9]⟩ : ByteArray)).bind fun bt116 => ((span_scan_text.f bt116.2 (⟨#[10]⟩ : ByteArray)).bind fun bt118 => (if bt118.1 = true then ((span_scan_some.f k bt118.2 false false (⟨#[32, 9]⟩ : ByteArray)).bind fun bt120 => (some (wrap64 (bt116.1 + (wrap64 (1 + bt120.1))), bt120.2))) else (some (bt116.1, bt118.2))))
theorem span_scan_gap.mono : ∀ a0 k, LeO (span_scan_gap.f k a0) (span_scan_gap.f (k + 1) a0) := by
  intro a0 k
  unfold span_scan_gap.f
  repeat' first
      | (with_reducible exact span_scan_some.mono _ _ _ _ _)
      | (with_reducible exact LeO.refl _)
      | (with_reducible exact LeO.none _)
      | (with_reducible refine LeO.ite ?_ ?_)
      | (with_reducible refine LeO.bind ?_ (fun _ => ?_))
      | exact span_scan_some.mono _ _ _ _ _
      | exact LeO.none _
      | refine LeO.ite ?_ ?_
      | refine LeO.bind ?_ (fun _ => ?_)
set_option maxHeartbeats 8000000 in
set_option maxRecDepth 100000 in
theorem span_scan_gap.calls (k : Nat) (g : Nat) (s0_0 : ByteArray) (r1 : Int) (r2 : ByteArray) (w0 w : World) (hI : IsS124 w0 w g s0_0) (hB : Below w0.heap.size w0 w) (hG : GW w0) (h : span_scan_gap.f k s0_0 = some (r1, r2)) :
    Calls Tryz.prog 121 #[.pointer (some ⟨g, 0, none⟩)] w fun e w' => e = .returned (.int .i64 r1) ∧ IsS124 w0 w' g r2 ∧ Below w0.heap.size w0 w' ∧ KeepBut w w' g none := by
  have HI0 := Aside0.mk hI
  have HK := Aside0.mk (KeepBut.refl w g none)
  have HL := Aside0.mk hB.size
  clear hI
  have HW0 := Aside0.mk hB.size
  have HB := Aside0.mk hB
  clear hB
  have HG := Aside0.mk hG
  clear hG
  have H : ((span_scan_some.f k s0_0 false false (⟨#[32, 9]⟩ : ByteArray)).bind fun bt116 => ((span_scan_text.f bt116.2 (⟨#[10]⟩ : ByteArray)).bind fun bt118 => (if bt118.1 = true then ((span_scan_some.f k bt118.2 false false (⟨#[32, 9]⟩ : ByteArray)).bind fun bt120 => (some (wrap64 (bt116.1 + (wrap64 (1 + bt120.1))), bt120.2))) else (some (bt116.1, bt118.2))))) = some (r1, r2) := h
  clear h
  replace H := Option.bind_eq_some_iff.mp H
  obtain ⟨⟨t116, t117⟩, A20, H⟩ := H
  replace H : ((span_scan_text.f t117 (⟨#[10]⟩ : ByteArray)).bind fun bt118 => (if bt118.1 = true then ((span_scan_some.f k bt118.2 false false (⟨#[32, 9]⟩ : ByteArray)).bind fun bt120 => (some (wrap64 (t116 + (wrap64 (1 + bt120.1))), bt120.2))) else (some (t116, bt118.2)))) = some (r1, r2) := H
  have A2 := Aside0.mk A20
  clear A20
  replace H := Option.bind_eq_some_iff.mp H
  obtain ⟨⟨t118, t119⟩, A30, H⟩ := H
  replace H : (if t118 = true then ((span_scan_some.f k t119 false false (⟨#[32, 9]⟩ : ByteArray)).bind fun bt120 => (some (wrap64 (t116 + (wrap64 (1 + bt120.1))), bt120.2))) else (some (t116, t119))) = some (r1, r2) := H
  have A3 := Aside0.mk A30
  clear A30
  by_cases c4 : t118 = true
  · subst c4
    have H1 : ((span_scan_some.f k t119 false false (⟨#[32, 9]⟩ : ByteArray)).bind fun bt120 => (some (wrap64 (t116 + (wrap64 (1 + bt120.1))), bt120.2))) = some (r1, r2) := by rw [if_pos rfl] at H; exact H
    clear H
    have H := H1
    clear H1
    replace H := Option.bind_eq_some_iff.mp H
    obtain ⟨⟨t120, t121⟩, A50, H⟩ := H
    replace H : (some (wrap64 (t116 + (wrap64 (1 + t120))), t121)) = some (r1, r2) := H
    have A5 := Aside0.mk A50
    clear A50
    simp only [Option.some.injEq, Prod.mk.injEq] at H
    obtain ⟨rfl, rfl⟩ := H
    go_enter Tryz.func121, Tryz.ntmps121
    go_wp2_with (first | ((with_reducible refine gate_callee (f := 123) rfl ?_); refine goesL_ (some 5) rfl rfl Tryz.func123 (by kernel_rfl) rfl #[.pointer (some ⟨g, 0, none⟩), .bool false, .bool false, .string (⟨#[32, 9]⟩ : ByteArray)] rfl (by (try simp only [List.map_toArray, List.map_cons, List.map_nil]); first | done | rfl | (simp only [List.length_drop, List.length_take]; rfl)) ?_; (with_reducible refine (span_scan_some.calls k g s0_0 false false (⟨#[32, 9]⟩ : ByteArray) t116 t117 w0 _ ?side1 ?side2 ?side3 A2.out).mono ?_); (case side1 => repeat (first | (with_reducible first | exact HI0.out | apply IsS124.alloc | apply IsS124.drewN | apply IsS124.drew | apply IsS124.set_0) | exact HI0.out)); (case side2 => repeat (first | (with_reducible first | exact HB.out | apply below_alloc | apply pw_below_drewN | apply below_drew1 | refine below_set ?_ (IsS124.ge HI0.out)) | exact HB.out)); (case side3 => exact HG.out); rintro e w6 ⟨rfl, hi, hb, hk⟩; refine ⟨_, rfl, ?_⟩; have n0_ := Aside0.mk (KeepBut.trans (by repeat (first | (with_reducible first | exact HK.out | apply KeepBut.set_ | apply keep_drewN | apply keep_drew | apply keep_alloc) | exact HK.out)) hk (.inl rfl)); have n1_ := Aside0.mk (hb); have n2_ := Aside0.mk (hi); clear HK; clear HB; clear HI0; have HK := n0_; have HB := n1_; have HI0 := n2_; clear n0_ n1_ n2_; (try clear hb); (try clear hb2); (try clear hk); (try clear hi)) | ((with_reducible refine gate_callee (f := 119) rfl ?_); refine goesL_ (some 7) rfl rfl Tryz.func119 (by kernel_rfl) rfl #[.pointer (some ⟨g, 0, none⟩), .string (⟨#[10]⟩ : ByteArray)] rfl (by (try simp only [List.map_toArray, List.map_cons, List.map_nil]); first | done | rfl | (simp only [List.length_drop, List.length_take]; rfl)) ?_; (with_reducible refine (span_scan_text.calls g t117 (⟨#[10]⟩ : ByteArray) true t119 w0 _ ?side1 ?side2 ?side3 A3.out).mono ?_); (case side1 => repeat (first | (with_reducible first | exact HI0.out | apply IsS124.alloc | apply IsS124.drewN | apply IsS124.drew | apply IsS124.set_0) | exact HI0.out)); (case side2 => repeat (first | (with_reducible first | exact HB.out | apply below_alloc | apply pw_below_drewN | apply below_drew1 | refine below_set ?_ (IsS124.ge HI0.out)) | exact HB.out)); (case side3 => exact HG.out); rintro e w7 ⟨rfl, hi, hb, hk⟩; refine ⟨_, rfl, ?_⟩; have n0_ := Aside0.mk (KeepBut.trans (by repeat (first | (with_reducible first | exact HK.out | apply KeepBut.set_ | apply keep_drewN | apply keep_drew | apply keep_alloc) | exact HK.out)) hk (.inl rfl)); have n1_ := Aside0.mk (hb); have n2_ := Aside0.mk (hi); clear HK; clear HB; clear HI0; have HK := n0_; have HB := n1_; have HI0 := n2_; clear n0_ n1_ n2_; (try clear hb); (try clear hb2); (try clear hk); (try clear hi)) | ((with_reducible refine gate_callee (f := 123) rfl ?_); refine goesL_ (some 10) rfl rfl Tryz.func123 (by kernel_rfl) rfl #[.pointer (some ⟨g, 0, none⟩), .bool false, .bool false, .string (⟨#[32, 9]⟩ : ByteArray)] rfl (by (try simp only [List.map_toArray, List.map_cons, List.map_nil]); first | done | rfl | (simp only [List.length_drop, List.length_take]; rfl)) ?_; (with_reducible refine (span_scan_some.calls k g t119 false false (⟨#[32, 9]⟩ : ByteArray) t120 t121 w0 _ ?side1 ?side2 ?side3 A5.out).mono ?_); (case side1 => repeat (first | (with_reducible first | exact HI0.out | apply IsS124.alloc | apply IsS124.drewN | apply IsS124.drew | apply IsS124.set_0) | exact HI0.out)); (case side2 => repeat (first | (with_reducible first | exact HB.out | apply below_alloc | apply pw_below_drewN | apply below_drew1 | refine below_set ?_ (IsS124.ge HI0.out)) | exact HB.out)); (case side3 => exact HG.out); rintro e w8 ⟨rfl, hi, hb, hk⟩; refine ⟨_, rfl, ?_⟩; have n0_ := Aside0.mk (KeepBut.trans (by repeat (first | (with_reducible first | exact HK.out | apply KeepBut.set_ | apply keep_drewN | apply keep_drew | apply keep_alloc) | exact HK.out)) hk (.inl rfl)); have n1_ := Aside0.mk (hb); have n2_ := Aside0.mk (hi); clear HK; clear HB; clear HI0; have HK := n0_; have HB := n1_; have HI0 := n2_; clear n0_ n1_ n2_; (try clear hb); (try clear hb2); (try clear hk); (try clear hi)))
    go_ret
    exact ⟨by first | rfl | (simp [errW_none, errW_some] <;> rfl) | (simp [*, errW_none, errW_some] <;> rfl), by repeat (first | (with_reducible first | exact HI0.out | apply IsS124.alloc | apply IsS124.drewN | apply IsS124.drew | apply IsS124.set_0) | exact HI0.out), by repeat (first | (with_reducible first | exact HB.out | apply below_alloc | apply pw_below_drewN | apply below_drew1 | refine below_set ?_ (IsS124.ge HI0.out)) | exact HB.out), by repeat (first | (with_reducible first | exact HK.out | apply KeepBut.set_ | apply keep_drewN | apply keep_drew | apply keep_alloc) | exact HK.out)⟩
  · replace c4 := Bool.eq_false_iff.mpr c4
    subst c4
    have H1 : (some (t116, t119)) = some (r1, r2) := by rw [if_neg (show ¬ (false = true) by decide)] at H; exact H
    clear H
    have H := H1
    clear H1
    simp only [Option.some.injEq, Prod.mk.injEq] at H
    obtain ⟨rfl, rfl⟩ := H
    go_enter Tryz.func121, Tryz.ntmps121
    go_wp2_with (first | ((with_reducible refine gate_callee (f := 123) rfl ?_); refine goesL_ (some 5) rfl rfl Tryz.func123 (by kernel_rfl) rfl #[.pointer (some ⟨g, 0, none⟩), .bool false, .bool false, .string (⟨#[32, 9]⟩ : ByteArray)] rfl (by (try simp only [List.map_toArray, List.map_cons, List.map_nil]); first | done | rfl | (simp only [List.length_drop, List.length_take]; rfl)) ?_; (with_reducible refine (span_scan_some.calls k g s0_0 false false (⟨#[32, 9]⟩ : ByteArray) t116 t117 w0 _ ?side1 ?side2 ?side3 A2.out).mono ?_); (case side1 => repeat (first | (with_reducible first | exact HI0.out | apply IsS124.alloc | apply IsS124.drewN | apply IsS124.drew | apply IsS124.set_0) | exact HI0.out)); (case side2 => repeat (first | (with_reducible first | exact HB.out | apply below_alloc | apply pw_below_drewN | apply below_drew1 | refine below_set ?_ (IsS124.ge HI0.out)) | exact HB.out)); (case side3 => exact HG.out); rintro e w9 ⟨rfl, hi, hb, hk⟩; refine ⟨_, rfl, ?_⟩; have n0_ := Aside0.mk (KeepBut.trans (by repeat (first | (with_reducible first | exact HK.out | apply KeepBut.set_ | apply keep_drewN | apply keep_drew | apply keep_alloc) | exact HK.out)) hk (.inl rfl)); have n1_ := Aside0.mk (hb); have n2_ := Aside0.mk (hi); clear HK; clear HB; clear HI0; have HK := n0_; have HB := n1_; have HI0 := n2_; clear n0_ n1_ n2_; (try clear hb); (try clear hb2); (try clear hk); (try clear hi)) | ((with_reducible refine gate_callee (f := 119) rfl ?_); refine goesL_ (some 7) rfl rfl Tryz.func119 (by kernel_rfl) rfl #[.pointer (some ⟨g, 0, none⟩), .string (⟨#[10]⟩ : ByteArray)] rfl (by (try simp only [List.map_toArray, List.map_cons, List.map_nil]); first | done | rfl | (simp only [List.length_drop, List.length_take]; rfl)) ?_; (with_reducible refine (span_scan_text.calls g t117 (⟨#[10]⟩ : ByteArray) false t119 w0 _ ?side1 ?side2 ?side3 A3.out).mono ?_); (case side1 => repeat (first | (with_reducible first | exact HI0.out | apply IsS124.alloc | apply IsS124.drewN | apply IsS124.drew | apply IsS124.set_0) | exact HI0.out)); (case side2 => repeat (first | (with_reducible first | exact HB.out | apply below_alloc | apply pw_below_drewN | apply below_drew1 | refine below_set ?_ (IsS124.ge HI0.out)) | exact HB.out)); (case side3 => exact HG.out); rintro e w10 ⟨rfl, hi, hb, hk⟩; refine ⟨_, rfl, ?_⟩; have n0_ := Aside0.mk (KeepBut.trans (by repeat (first | (with_reducible first | exact HK.out | apply KeepBut.set_ | apply keep_drewN | apply keep_drew | apply keep_alloc) | exact HK.out)) hk (.inl rfl)); have n1_ := Aside0.mk (hb); have n2_ := Aside0.mk (hi); clear HK; clear HB; clear HI0; have HK := n0_; have HB := n1_; have HI0 := n2_; clear n0_ n1_ n2_; (try clear hb); (try clear hb2); (try clear hk); (try clear hi)))
    go_ret
    exact ⟨by first | rfl | (simp [errW_none, errW_some] <;> rfl) | (simp [*, errW_none, errW_some] <;> rfl), by repeat (first | (with_reducible first | exact HI0.out | apply IsS124.alloc | apply IsS124.drewN | apply IsS124.drew | apply IsS124.set_0) | exact HI0.out), by repeat (first | (with_reducible first | exact HB.out | apply below_alloc | apply pw_below_drewN | apply below_drew1 | refine below_set ?_ (IsS124.ge HI0.out)) | exact HB.out), by repeat (first | (with_reducible first | exact HK.out | apply KeepBut.set_ | apply keep_drewN | apply keep_drew | apply keep_alloc) | exact HK.out)⟩

-- NOT PRINTED: function 79 (span_Tag)

end Go.Proofs.YthdlibgiejpjeaaGreatDoor.KT

namespace Go.Proofs.YthdlibgiejpjeaaGreatDoor.KT
open Go.RowKit Go.Proofs.YthdlibgiejpjeaaGreatDoor Go.Proofs.YthdlibgiejpjeaaGreatDoor.Given Go.Proofs.YthdlibgiejpjeaaGreatDoorW.PrintWords Go.Proofs.YthdlibgiejpjeaaGreatDoorW.PrintLast Go.Proofs.YthdlibgiejpjeaaGreatDoorW.PrintMore
attribute [local go_sem] max2_int min2_int max_two min_two max_three min_three max_four min_four   -- for this text's walks alone
set_option linter.unusedVariables false
set_option linter.unusedSimpArgs false

end Go.Proofs.YthdlibgiejpjeaaGreatDoor.KT
