import Derived.Test.YthdlibgiejpjeaaGreatDoorGivM
import Derived.Test.YthdlibgiejpjeaaGreatDoorNumM
import Derived.Tactics
import Derived.Tactics2
import Derived.Defers
import Derived.Laws.Pointers
import Derived.Laws.LoneSync
import Derived.RegionTactic
import Derived.RegionCalls
import Derived.ChangeAlike
import Derived.Lib.ItoaMem
import Derived.ArgAppend
import Derived.Laws.OwnMore
import Derived.Laws.NewBlocks
import Derived.RangeFuncBox
import Derived.Deep.WholeRow
import Derived.Laws.IdiomCopy
import Derived.Lib.LazyBuf
import Derived.Lib.ConvBytes
import Derived.Outline
import Derived.Deep.OwnRows
import Derived.BigRegion
import Derived.Deep.QuietTactic
import Derived.BigQuiet
set_option linter.unusedVariables false
set_option linter.unusedSimpArgs false
/- sync.Once's parts, for strings.Replacer: the lock, and the two calls that doSlow defers. After LazyParts (a worked proof). -/
namespace Go.Proofs.YthdlibgiejpjeaaGreatDoor.Given
open Go.RowKit Go.Proofs.YthdlibgiejpjeaaGreatDoor Go.Proofs.YthdlibgiejpjeaaGreatDoorW.PrintWords Go.Proofs.YthdlibgiejpjeaaGreatDoor.Spec

theorem disable (w : World) : (callFunc 200 #[]).run Tryz.prog w = .ok (.value (.tuple #[])) w := run_call_mark0 Tryz.func200 (by kernel_rfl) (by kernel_rfl) (by kernel_rfl) .disable (by kernel_rfl) w
theorem enable (w : World) : (callFunc 202 #[]).run Tryz.prog w = .ok (.value (.tuple #[])) w := run_call_mark0 Tryz.func202 (by kernel_rfl) (by kernel_rfl) (by kernel_rfl) .enable (by kernel_rfl) w
theorem acquire (a : Addr) (w : World) : (callFunc 203 #[.pointer (some a)]).run Tryz.prog w = .ok (.value (.tuple #[])) w := run_call_marked Tryz.func203 (by kernel_rfl) (by kernel_rfl) (by kernel_rfl) .acquire (by kernel_rfl) a w
theorem releaseMerge (a : Addr) (w : World) : (callFunc 205 #[.pointer (some a)]).run Tryz.prog w = .ok (.value (.tuple #[])) w := run_call_marked Tryz.func205 (by kernel_rfl) (by kernel_rfl) (by kernel_rfl) .releaseMerge (by kernel_rfl) a w

set_option maxHeartbeats 4000000 in
set_option maxRecDepth 1000000 in
theorem store_deferred (a : Addr) (x : Value) (u : FrameMode) (w : World) (hc : w.cell? a = some x) (hz : w.frozen? a = false) :
    CallsD Tryz.prog 163 #[.pointer (some a), .bool true] u w fun e u' w' => u' = u ∧ (e = .returned (.tuple #[]) ∧ w' = w.drew.setCell a (.int .u32 1)) := by
  have hc' : w.drew.cell? a = some x := by go_simp
  have hz' : w.drew.frozen? a = false := by go_simp
  have hst := run_call_store (P := Tryz.prog) Tryz.func187 (by kernel_rfl) (by kernel_rfl) (by kernel_rfl) (by kernel_rfl) (k := .u32) (y := 1) hc' hz'
  go_enter_d Tryz.func163, Tryz.ntmps163
  go_wp2
  go_region_calls
  all_goals (go_end0; exact ⟨rfl, rfl⟩)

set_option maxHeartbeats 4000000 in
set_option maxRecDepth 1000000 in
theorem unlock_deferred (a : Addr) (u : FrameMode) (w : World) (hc : w.cell? a = some (.int .i32 1)) (hz : w.frozen? a = false) :
    CallsD Tryz.prog 162 #[.pointer (some a)] u w fun e u' w' => u' = u ∧ (e = .returned (.tuple #[]) ∧ w' = w.setCell a (.int .i32 0)) := by
  have hd := disable
  have he := enable
  have hr := releaseMerge
  have hadd := run_call_add (P := Tryz.prog) Tryz.func206 (by kernel_rfl) (by kernel_rfl) (by kernel_rfl) .i32 (by kernel_rfl) (y := -1) (s := 0) hc hz (by simp [go_sem]; rfl)
  have hcv := run_convert_to_unsafe (P := Tryz.prog) (src := 215) (dst := 135) Tryz.underlying215 Tryz.underlying135 (by kernel_rfl) hc
  go_enter_d Tryz.func162, Tryz.ntmps162
  go_wp2
  go_end0
  go_wp2
  go_end0
  exact ⟨rfl, rfl⟩

set_option maxHeartbeats 4000000 in
set_option maxRecDepth 1000000 in
theorem lock_free (a : Addr) (w : World) (hc : w.cell? a = some (.int .i32 0)) (hz : w.frozen? a = false) :
    Calls Tryz.prog 161 #[.pointer (some a)] w fun e w' => e = .returned (.tuple #[]) ∧ w' = w.setCell a (.int .i32 1) := by
  have hd := disable
  have he := enable
  have ha := acquire
  have hcas := run_call_cas_hit (P := Tryz.prog) Tryz.func201 (by kernel_rfl) (by kernel_rfl) (by kernel_rfl) .i32 (by kernel_rfl) (y := 1) hc hz
  have hc' : (w.setCell a (.int .i32 1)).cell? a = some (.int .i32 1) := World.cell?_setCell_same w a _ hc
  have hcv := run_convert_to_unsafe (P := Tryz.prog) (src := 215) (dst := 135) Tryz.underlying215 Tryz.underlying135 (by kernel_rfl) hc'
  go_enter Tryz.func161, Tryz.ntmps161
  go_wp2
  first | go_end0 | (simp only [Exit.inBlock, Exit.then]; refine bodyPost_ret (results_none rfl _ _ _) rfl ?_) | refine bodyPost_ret (results_none rfl _ _ _) rfl ?_
  go_wp2
  go_end0
  exact ⟨rfl, rfl⟩
end Go.Proofs.YthdlibgiejpjeaaGreatDoor.Given

/- strings.NewReplacer of eight strings. -/
namespace Go.Proofs.YthdlibgiejpjeaaGreatDoor.Given
open Go.RowKit Go.Proofs.YthdlibgiejpjeaaGreatDoor Go.Proofs.YthdlibgiejpjeaaGreatDoorW.PrintWords Go.Proofs.YthdlibgiejpjeaaGreatDoor.Spec

theorem info_str : (Tryz.prog.info? 9).map (fun i => (i.zero, i.size, i.bytes)) = some (some (.string ⟨#[]⟩), 1, 16) := by kernel_rfl
theorem info_u8 : (Tryz.prog.info? 5).map (fun i => (i.zero, i.size, i.bytes)) = some (some (.int .u8 0), 1, 1) := by kernel_rfl

/-- A new strings.Replacer at p, whose pairs lie at A. -/
structure NewRep (B p A c : Nat) (ss : List Value) (w : World) : Prop where
  pB : B ≤ p
  AB : B ≤ A
  ne : A ≠ p
  done : w.cell? ⟨p, 0, none⟩ = some (.int .u32 0)
  mu : w.cell? ⟨p, 1, none⟩ = some (.int .i32 0)
  sema : w.cell? ⟨p, 2, none⟩ = some (.int .u32 0)
  r : w.cell? ⟨p, 3, none⟩ = some .nilIface
  oldnew : w.cell? ⟨p, 4, none⟩ = some (.slice (some ⟨A, 0, none⟩) 8 c)
  fz : ∀ o, w.frozen? ⟨p, o, none⟩ = false
  cells : ∀ j u, ss[j]? = some u → w.cell? ⟨A, j, none⟩ = some u

set_option maxHeartbeats 4000000 in
set_option maxRecDepth 1000000 in
theorem newReplacer (b : Nat) (ss : List Value) (h8 : ss.length = 8) (w : World) (hc : ∀ j u, ss[j]? = some u → w.cell? ⟨b, j, none⟩ = some u) (h1 : ∀ u ∈ ss, u.oneCell' = true) :
    Calls Tryz.prog 50 #[.slice (some ⟨b, 0, none⟩) 8 8] w fun e w' => ∃ p A c, e = .returned (.pointer (some ⟨p, 0, none⟩)) ∧ NewRep w.heap.size p A c ss w' ∧ Below w.heap.size w w' := by
  obtain ⟨i, hi, hz, hs, hb⟩ : ∃ i, Tryz.prog.info? 9 = some i ∧ i.zero = some (.string ⟨#[]⟩) ∧ i.size = 1 ∧ i.bytes = 16 := by
    have := info_str
    cases h : Tryz.prog.info? 9 with
    | none => rw [h] at this; cases this
    | some i => rw [h] at this; injection this with this; injection this with a b; injection b with b c; exact ⟨i, rfl, a, b, c⟩
  go_enter Tryz.func50, Tryz.ntmps50
  go_wp2_with (at_builtin; go_must (refine wpList_append_grows _ rfl _ _ _ rfl 9 i _ 1 16 Tryz.underlying42 hi hz hs hb rfl (by omega) none 0 0 [] rfl (fun _ => ⟨rfl, rfl⟩) rfl (fun _ h => by cases h) ⟨b, 0, none⟩ 8 8 ss rfl (by rw [h8]) (fun j u h => by rw [Lib.add_plain, Nat.zero_add]; exact hc j u h) h1 (by omega) (by unfold maxLen; omega) (by omega) ?_; intro v' w1 hrow hgr; obtain ⟨g, cap, rfl⟩ := ownsRow_succ (k := 7) hrow))
  go_ret
  have hlt := hrow.lt g rfl
  refine ⟨w1.heap.size, g, cap, rfl, ⟨?_, hlt.1, ?_, ?_, ?_, ?_, ?_, ?_, ?_, ?_⟩, ?_⟩
  · omega
  · omega
  · rw [World.cell?_alloc_new]; rfl
  · rw [World.cell?_alloc_new]; rfl
  · rw [World.cell?_alloc_new]; rfl
  · rw [World.cell?_alloc_new]; rfl
  · rw [World.cell?_alloc_new]; rfl
  · intro o; exact World.frozen?_alloc_new _ _ _ _
  · intro j u hj
    rw [World.cell?_alloc_lt _ _ _ (show (⟨g, j, none⟩ : Addr).block < w1.heap.size from hlt.2)]
    have hjl : j < 8 := by rw [← h8]; exact (List.getElem?_eq_some_iff.1 hj).1
    exact (hrow.cellAt j (by omega)).trans (by simpa using hj)
  · exact (Below.grown (Below.refl _ w) hgr (Nat.le_refl _) (fun k h => by cases h)).alloc (by omega) _
end Go.Proofs.YthdlibgiejpjeaaGreatDoor.Given

/- strings.Replacer.build of eight strings, each old one of one byte. -/
namespace Go.Proofs.YthdlibgiejpjeaaGreatDoor.Given
open Go.RowKit Go.Proofs.YthdlibgiejpjeaaGreatDoor Go.Proofs.YthdlibgiejpjeaaGreatDoorW.PrintWords Go.Proofs.YthdlibgiejpjeaaGreatDoor.Spec

def pairs : List Value := [.string ⟨#[38]⟩, .string ⟨#[38, 97, 109, 112, 59]⟩, .string ⟨#[60]⟩, .string ⟨#[38, 108, 116, 59]⟩, .string ⟨#[62]⟩, .string ⟨#[38, 103, 116, 59]⟩, .string ⟨#[34]⟩, .string ⟨#[38, 113, 117, 111, 116, 59]⟩]

theorem zero170 : Tryz.zeroCells170 = Array.replicate 257 (.slice none 0 0) := by kernel_rfl
theorem info170 : (Tryz.prog.info? 170).map (·.size) = some 257 := by kernel_rfl
theorem store170 (W : World) (v : Value) (hv : v.oneCell' = true) : (storeCells ⟨W.heap.size, 0, none⟩ (Tryz.zeroCells170.toList.set 256 v)).run Tryz.prog (W.alloc (.cells Tryz.zeroCells170 170)) = .ok () (W.alloc (.cells ((Array.replicate 257 (.slice none 0 0)).setIfInBounds 256 v) 170)) := by
  rw [zero170]
  have h := run_storeCells_new (P := Tryz.prog) W 170 (Array.replicate 257 (.slice none 0 0)) ((Array.replicate 257 (.slice none 0 0)).setIfInBounds 256 v) (by rw [info170]; simp) (by simp) (by
    rw [Array.all_eq_true]
    intro i hi
    rw [Array.getElem_setIfInBounds (by simpa using hi)]
    split
    · exact hv
    · rw [Array.getElem_replicate]; rfl)
  rw [Array.toList_setIfInBounds] at h
  exact h
def amp : UInt8 × List UInt8 := (38, [38, 97, 109, 112, 59])
def lt : UInt8 × List UInt8 := (60, [38, 108, 116, 59])
def gt : UInt8 × List UInt8 := (62, [38, 103, 116, 59])
def quot : UInt8 × List UInt8 := (34, [38, 113, 117, 111, 116, 59])
/-- What stands at a byte: nil, or a slice whose cells are these bytes, in a block of its own. -/
def RepOf (B R T : Nat) (W : World) (v : Value) : Option (List UInt8) → Prop
  | none => v = .slice none 0 0
  | some bs => ∃ X cap, v = .slice (some ⟨X, 0, none⟩) bs.length cap ∧ B ≤ X ∧ X ≠ R ∧ X ≠ T ∧ ∀ j, j < bs.length → W.cell? ⟨X, j, none⟩ = some (.int .u8 ((bs[j]!).toNat : Int))
def look (L : List (UInt8 × List UInt8)) (c : Nat) : Option (List UInt8) := (L.find? (fun p => p.1.toNat = c)).map (·.2)
/-- A strings.byteStringReplacer at R, its names at T, with these pairs. -/
structure RepT (B R T : Nat) (L : List (UInt8 × List UInt8)) (W : World) : Prop where
  BR : B ≤ R
  BT : B ≤ T
  RT : R ≠ T
  tr : W.cell? ⟨R, 256, none⟩ = some (.slice (some ⟨T, 0, none⟩) L.length 4)
  names : ∀ j (hj : j < L.length), W.cell? ⟨T, j, none⟩ = some (.string (mkB [L[j].1]))
  room : ∀ j, j < 4 → (W.cell? ⟨T, j, none⟩).isSome = true
  fzR : ∀ o, W.frozen? ⟨R, o, none⟩ = false
  fzT : ∀ o, W.frozen? ⟨T, o, none⟩ = false
  reps : ∀ c, c < 256 → ∃ v, W.cell? ⟨R, c, none⟩ = some v ∧ RepOf B R T W v (look L c)
theorem frozen_below {w w' : World} {a : Addr} {v : Value} (h : w.cell? a = some v) (hf : w.frozen? a = false) (hb : Below w.heap.size w w') : w'.frozen? a = false := by
  rw [hb.frozen (lt_of_cell h)]; exact hf
theorem eql_nil (W : World) : (binOp .eql 28 (.slice none 0 0) (.slice none 0 0)).run Tryz.prog W = .ok (.bool true) W := by
  exact Go.run_eql_slice_nil W 28 5 none 0 0 Tryz.underlying28
theorem conv1 (W : World) (x : UInt8) : (convert 28 9 (.slice (some ⟨W.heap.size, 0, none⟩) 1 1)).run Tryz.prog (W.alloc (.cells #[.int .u8 (x.toNat : Int)] 5)) = .ok (.string (mkB [x])) (W.alloc (.cells #[.int .u8 (x.toNat : Int)] 5)) :=
  run_convert_bytes_back (P := Tryz.prog) (W.alloc (.cells #[.int .u8 (x.toNat : Int)] 5)) 28 9 5 ⟨W.heap.size, 0, none⟩ 1 [x] Tryz.underlying28 Tryz.underlying5 Tryz.underlying9 (fun j hj => by
    rw [Lib.add_plain, World.cell?_alloc_new]
    match j, hj with
    | 0, _ => rfl)
theorem cell_below {w w' : World} {a : Addr} {v : Value} (h : w.cell? a = some v) (hb : Below w.heap.size w w') : w'.cell? a = some v := by
  rw [hb.cell (lt_of_cell h)]; exact h

theorem look_append (L : List (UInt8 × List UInt8)) (c : UInt8) (bs : List UInt8) (d : Nat) : look (L ++ [(c, bs)]) d = (look L d).or (if c.toNat = d then some bs else none) := by
  unfold look
  rw [List.find?_append]
  cases h : L.find? (fun p => p.1.toNat = d) with
  | some x => simp
  | none => by_cases hc : c.toNat = d <;> simp [hc]

theorem RepOf.keep {B R T : Nat} {W W' : World} {v : Value} {o : Option (List UInt8)} (h : RepOf B R T W v o) (hk : ∀ X j u, X ≠ R → X ≠ T → W.cell? ⟨X, j, none⟩ = some u → W'.cell? ⟨X, j, none⟩ = some u) : RepOf B R T W' v o := by
  cases o with
  | none => exact h
  | some bs =>
    obtain ⟨X, cap, h1, h2, h3, h4, h5⟩ := h
    exact ⟨X, cap, h1, h2, h3, h4, fun j hj => hk _ _ _ h3 h4 (h5 j hj)⟩

theorem ne_addr {b b' o o' : Nat} (h : b ≠ b' ∨ o ≠ o') : (⟨b, o, none⟩ : Addr) ≠ ⟨b', o', none⟩ := by
  intro e
  injection e with e1 e2
  rcases h with h | h
  · exact h e1
  · exact h e2

theorem RepT.step {B R T : Nat} {L : List (UInt8 × List UInt8)} {W : World} (hT : RepT B R T L W) (hL : L.length < 4) (c : UInt8) (bs : List UInt8) (hn : look L c.toNat = none) (o1 o2 : Obj) (cap : Nat)
    (W3 W4 : World) (hW3 : W3 = (((W.alloc o1).alloc o2).setCell ⟨T, L.length, none⟩ (.string (mkB [c]))).setCell ⟨R, 256, none⟩ (.slice (some ⟨T, 0, none⟩) (L.length + 1) 4))
    (hb : Below W3.heap.size W3 W4) (hc : ∀ j, j < bs.length → W4.cell? ⟨W3.heap.size, j, none⟩ = some (.int .u8 ((bs[j]!).toNat : Int))) :
    RepT B R T (L ++ [(c, bs)]) (W4.setCell ⟨R, c.toNat, none⟩ (.slice (some ⟨W3.heap.size, 0, none⟩) bs.length cap)) := by
  have hRlt : R < W.heap.size := lt_of_cell hT.tr
  obtain ⟨t0, ht0⟩ := Option.isSome_iff_exists.1 (hT.room 0 (by omega))
  have hTlt : T < W.heap.size := lt_of_cell ht0
  have hA := (Below.refl _ W).alloc (Nat.le_refl _) o1
  have hAB := hA.alloc hA.size o2
  have hsz : W3.heap.size = ((W.alloc o1).alloc o2).heap.size := by rw [hW3]; simp [World.setCell]
  have hWle : W.heap.size ≤ W3.heap.size := by rw [hsz]; exact hAB.size
  have hcl : c.toNat < 256 := c.toNat_lt
  -- a cell of W in W3
  have k3 : ∀ X j u, (⟨X, j, none⟩ : Addr) ≠ ⟨T, L.length, none⟩ → (⟨X, j, none⟩ : Addr) ≠ ⟨R, 256, none⟩ → W.cell? ⟨X, j, none⟩ = some u → W3.cell? ⟨X, j, none⟩ = some u := by
    intro X j u h1 h2 hu
    rw [hW3, World.cell?_setCell_other _ _ _ _ (Ne.symm h2), World.cell?_setCell_other _ _ _ _ (Ne.symm h1)]
    exact cell_below hu hAB
  have kT : ∀ j u, j ≠ L.length → W.cell? ⟨T, j, none⟩ = some u → W3.cell? ⟨T, j, none⟩ = some u := fun j u hj hu => k3 T j u (ne_addr (.inr hj)) (ne_addr (.inl (Ne.symm hT.RT))) hu
  obtain ⟨tl, htl⟩ := Option.isSome_iff_exists.1 (hT.room L.length hL)
  have kTl : W3.cell? ⟨T, L.length, none⟩ = some (.string (mkB [c])) := by
    rw [hW3, World.cell?_setCell_other _ _ _ _ (ne_addr (.inl hT.RT))]
    exact World.cell?_setCell_same _ _ _ (cell_below htl hAB)
  have kR : W3.cell? ⟨R, 256, none⟩ = some (.slice (some ⟨T, 0, none⟩) (L.length + 1) 4) := by
    rw [hW3]
    refine World.cell?_setCell_same _ _ _ (u := .slice (some ⟨T, 0, none⟩) L.length 4) ?_
    rw [World.cell?_setCell_other _ _ _ _ (ne_addr (.inl (Ne.symm hT.RT)))]
    exact cell_below hT.tr hAB
  -- to W5
  have k5 : ∀ X j u, (⟨X, j, none⟩ : Addr) ≠ ⟨R, c.toNat, none⟩ → W3.cell? ⟨X, j, none⟩ = some u → (W4.setCell ⟨R, c.toNat, none⟩ (.slice (some ⟨W3.heap.size, 0, none⟩) bs.length cap)).cell? ⟨X, j, none⟩ = some u := by
    intro X j u h1 hu
    rw [World.cell?_setCell_other _ _ _ _ (Ne.symm h1)]
    exact cell_below hu hb
  refine ⟨hT.BR, hT.BT, hT.RT, ?_, ?_, ?_, ?_, ?_, ?_⟩
  · rw [List.length_append]
    exact k5 _ _ _ (ne_addr (.inr (by omega))) kR
  · intro j hj
    rw [List.length_append, List.length_singleton] at hj
    by_cases hjl : j = L.length
    · subst hjl
      rw [List.getElem_append_right (Nat.le_refl _)]
      simp only [Nat.sub_self, List.getElem_cons_zero]
      exact k5 _ _ _ (ne_addr (.inl (Ne.symm hT.RT))) kTl
    · rw [List.getElem_append_left (by omega)]
      exact k5 _ _ _ (ne_addr (.inl (Ne.symm hT.RT))) (kT _ _ hjl (hT.names j (by omega)))
  · intro j hj
    rw [Option.isSome_iff_exists]
    by_cases hjl : j = L.length
    · subst hjl
      exact ⟨_, k5 _ _ _ (ne_addr (.inl (Ne.symm hT.RT))) kTl⟩
    · obtain ⟨u, hu⟩ := Option.isSome_iff_exists.1 (hT.room j hj)
      exact ⟨u, k5 _ _ _ (ne_addr (.inl (Ne.symm hT.RT))) (kT _ _ hjl hu)⟩
  · intro o
    rw [World.frozen?_setCell, hb.frozen (show R < W3.heap.size by omega), hW3, World.frozen?_setCell, World.frozen?_setCell, hAB.frozen hRlt]
    exact hT.fzR o
  · intro o
    rw [World.frozen?_setCell, hb.frozen (show T < W3.heap.size by omega), hW3, World.frozen?_setCell, World.frozen?_setCell, hAB.frozen hTlt]
    exact hT.fzT o
  · intro d hd
    rw [look_append]
    by_cases hdc : c.toNat = d
    · subst hdc
      rw [hn, if_pos rfl]
      obtain ⟨v0, hv0, _⟩ := hT.reps c.toNat hd
      have hv3 := k3 R c.toNat v0 (ne_addr (.inl hT.RT)) (ne_addr (.inr (by omega))) hv0
      refine ⟨_, World.cell?_setCell_same _ _ _ (cell_below hv3 hb), W3.heap.size, cap, rfl, Nat.le_trans hT.BR (by omega), by omega, by omega, ?_⟩
      intro j hj
      rw [World.cell?_setCell_other _ _ _ _ (ne_addr (.inl (by omega)))]
      exact hc j hj
    · rw [if_neg hdc]
      obtain ⟨v0, hv0, hr0⟩ := hT.reps d hd
      refine ⟨v0, k5 _ _ _ (ne_addr (.inr (Ne.symm hdc))) (k3 R d v0 (ne_addr (.inl hT.RT)) (ne_addr (.inr (by omega))) hv0), ?_⟩
      have : (look L d).or none = look L d := by cases look L d <;> rfl
      rw [this]
      exact hr0.keep fun X j u h1 h2 hu => k5 X j u (ne_addr (.inl h1)) (k3 X j u (ne_addr (.inl h2)) (ne_addr (.inl h1)) hu)

theorem convStr (l : List UInt8) (W : World) : ∃ X cap W', X = W.heap.size ∧ (convert 9 28 (.string (mkB l))).run Tryz.prog W = .ok (.slice (some ⟨X, 0, none⟩) l.length cap) W' ∧ Below W.heap.size W W' ∧ ∀ j, j < l.length → W'.cell? ⟨W.heap.size, j, none⟩ = some (.int .u8 ((l[j]!).toNat : Int)) := by
  refine ⟨W.heap.size, grownCap W l.length 0 5, Lib.bytesWorld W 5 (mkB l), rfl, ?_, ⟨rfl, rfl, rfl, ?_, ?_⟩, ?_⟩
  · rw [Lib.run_convert_string_bytes W 9 28 5 (mkB l) Tryz.underlying9 Tryz.underlying28 Tryz.underlying5, mkB_size]
  · rw [Lib.bytesWorld_size]; omega
  · intro k hk; exact Lib.bytesWorld_at_old W _ _ k hk
  · intro j hj
    rw [Lib.bytesWorld_cell W _ _ j (by rw [mkB_size]; exact hj), mkB_data]
    congr 3
    simp [List.getD, List.getElem!_eq_getElem?_getD]
    rfl
theorem RepT.mid {B R T : Nat} {L : List (UInt8 × List UInt8)} {W : World} (hT : RepT B R T L W) (c : UInt8) (d : Nat) (hd : d < 256) (v : Value) (hv : W.cell? ⟨R, d, none⟩ = some v) (o1 o2 : Obj)
    (W3 W4 : World) (hW3 : W3 = (((W.alloc o1).alloc o2).setCell ⟨T, L.length, none⟩ (.string (mkB [c]))).setCell ⟨R, 256, none⟩ (.slice (some ⟨T, 0, none⟩) (L.length + 1) 4)) (hb : Below W3.heap.size W3 W4) :
    W4.cell? ⟨R, d, none⟩ = some v ∧ W4.frozen? ⟨R, d, none⟩ = false := by
  have hRlt : R < W.heap.size := lt_of_cell hT.tr
  have hA := (Below.refl _ W).alloc (Nat.le_refl _) o1
  have hAB := hA.alloc hA.size o2
  have hsz : W3.heap.size = ((W.alloc o1).alloc o2).heap.size := by rw [hW3]; simp [World.setCell]
  have hWle : W.heap.size ≤ W3.heap.size := by rw [hsz]; exact hAB.size
  constructor
  · refine cell_below ?_ hb
    rw [hW3, World.cell?_setCell_other _ _ _ _ (ne_addr (.inr (by omega))), World.cell?_setCell_other _ _ _ _ (ne_addr (.inl (Ne.symm hT.RT)))]
    exact cell_below hv hAB
  · rw [hb.frozen (show R < W3.heap.size by omega), hW3, World.frozen?_setCell, World.frozen?_setCell, hAB.frozen hRlt]
    exact hT.fzR d

set_option maxHeartbeats 4000000 in
set_option maxRecDepth 1000000 in
theorem build (p A c : Nat) (w : World) (ho : w.cell? ⟨p, 4, none⟩ = some (.slice (some ⟨A, 0, none⟩) 8 c)) (hc : ∀ j u, pairs[j]? = some u → w.cell? ⟨A, j, none⟩ = some u) :
    Calls Tryz.prog 136 #[.pointer (some ⟨p, 0, none⟩)] w fun e w' => ∃ R T, e = .returned (.iface 171 (.pointer (some ⟨R, 0, none⟩))) ∧ RepT w.heap.size R T [quot, gt, lt, amp] w' ∧ Below w.heap.size w w' := by
  have hcells := Lib.hid hc; clear hc
  go_enter Tryz.func136, Tryz.ntmps136
  go_wp2
  go_loopw [4, 5] (fun an i wr => Below w.heap.size w wr ∧ ((an = .bool true ∧ i = .int .i64 0) ∨ (an = .bool false ∧ i = .int .i64 2) ∨ (an = .bool false ∧ i = .int .i64 4) ∨ (an = .bool false ∧ i = .int .i64 6) ∨ (an = .bool false ∧ i = .int .i64 8))) (fun _ i _ => 10 - (intOf i).toNat)
  case atStart => exact ⟨Below.refl _ w, .inl ⟨rfl, rfl⟩⟩
  case round =>
    obtain ⟨hbw, hst⟩ := hrel
    have hbw' := Lib.hid hbw; clear hbw
    rcases hst with ⟨rfl, rfl⟩ | ⟨rfl, rfl⟩ | ⟨rfl, rfl⟩ | ⟨rfl, rfl⟩ | ⟨rfl, rfl⟩
    · have c0 := cell_below (hcells.out 0 _ rfl) hbw'.out
      have c1 := cell_below (hcells.out 1 _ rfl) hbw'.out
      go_wp2_with fail
      exact ⟨⟨by first | exact hbw'.out | exact hbw'.out.drew, .inr (.inl ⟨rfl, rfl⟩)⟩, by simp [intOf]⟩
    · have c2 := cell_below (hcells.out 2 _ rfl) hbw'.out
      have c3 := cell_below (hcells.out 3 _ rfl) hbw'.out
      go_wp2_with fail
      exact ⟨⟨by first | exact hbw'.out | exact hbw'.out.drew, .inr (.inr (.inl ⟨rfl, rfl⟩))⟩, by simp [intOf]⟩
    · have c4 := cell_below (hcells.out 4 _ rfl) hbw'.out
      have c5 := cell_below (hcells.out 5 _ rfl) hbw'.out
      go_wp2_with fail
      exact ⟨⟨by first | exact hbw'.out | exact hbw'.out.drew, .inr (.inr (.inr (.inl ⟨rfl, rfl⟩)))⟩, by simp [intOf]⟩
    · have c6 := cell_below (hcells.out 6 _ rfl) hbw'.out
      have c7 := cell_below (hcells.out 7 _ rfl) hbw'.out
      go_wp2_with fail
      exact ⟨⟨by first | exact hbw'.out | exact hbw'.out.drew, .inr (.inr (.inr (.inr ⟨rfl, rfl⟩)))⟩, by simp [intOf]⟩
    · obtain ⟨i, hi, hz, hs, hb⟩ : ∃ i, Tryz.prog.info? 9 = some i ∧ i.zero = some (.string ⟨#[]⟩) ∧ i.size = 1 ∧ i.bytes = 16 := by
        have := info_str
        cases h : Tryz.prog.info? 9 with
        | none => rw [h] at this; cases this
        | some i => rw [h] at this; injection this with this; injection this with a b; injection b with b c; exact ⟨i, rfl, a, b, c⟩
      obtain ⟨w2, hw2⟩ : ∃ w2, w2 = wr.alloc (.cells (madeCells #[.string ⟨#[]⟩] 4) 9) := ⟨_, rfl⟩
      have hrun : (Instr.makeSlice 42 (.int .i64 0) (.int .i64 4)).run Tryz.prog wr = .ok (.slice (some ⟨wr.heap.size, 0, none⟩) 0 4) w2 := by
        have := run_makeSlice (P := Tryz.prog) wr 42 9 i (.string ⟨#[]⟩) Tryz.underlying42 hi hz .i64 .i64 0 4 (by omega) (by omega) (by rw [hs]; decide) (by rw [hb]; omega) (by omega)
        rw [hs] at this
        rw [hw2]; exact this
      have hb2 : Below wr.heap.size wr w2 := by rw [hw2]; exact (Below.refl _ wr).alloc (Nat.le_refl _) _
      have hb2' := Lib.hid hb2; clear hb2
      have hw2' := Lib.hid hw2; clear hw2
      clear hi hz hs hb
      have hst := store170 w2 (.slice (some ⟨wr.heap.size, 0, none⟩) 0 4) rfl
      go_wp2
      obtain ⟨TT, hTT⟩ : ∃ TT, wr.heap.size = TT := ⟨_, rfl⟩
      obtain ⟨RR, hRR⟩ : ∃ RR, w2.heap.size = RR := ⟨_, rfl⟩
      rw [hTT, hRR]
      have hTT' := Lib.hid hTT; clear hTT
      have hRR' := Lib.hid hRR; clear hRR
      clear hst hrun ho
      go_loopw [12] (fun i W => Below w.heap.size w W ∧ ∃ L, RepT w.heap.size RR TT L W ∧ ((i = .int .i64 6 ∧ L = []) ∨ (i = .int .i64 4 ∧ L = [quot]) ∨ (i = .int .i64 2 ∧ L = [quot, gt]) ∨ (i = .int .i64 0 ∧ L = [quot, gt, lt]) ∨ (i = .int .i64 (-2) ∧ L = [quot, gt, lt, amp]))) (fun i _ => (intOf i + 2).toNat)
      case atStart =>
        have hWb : Below w.heap.size w w2 := hbw'.out.trans (hb2'.out.mono hbw'.out.size)
        have hwsz : w2.heap.size = wr.heap.size + 1 := by rw [hw2'.out]; simp
        have hTR : TT < RR := by rw [← hTT'.out, ← hRR'.out, hwsz]; omega
        refine ⟨hWb.alloc hWb.size _, [], ⟨?_, ?_, by omega, ?_, fun j hj => absurd hj (by simp), ?_, ?_, ?_, ?_⟩, .inl ⟨rfl, rfl⟩⟩
        · rw [← hRR'.out]; exact hWb.size
        · rw [← hTT'.out]; exact hbw'.out.size
        · rw [← hRR'.out, World.cell?_alloc_new, Array.getElem?_setIfInBounds]; simp
        · intro j hj
          rw [World.cell?_alloc_lt _ _ _ (show (⟨TT, j, none⟩ : Addr).block < w2.heap.size by show TT < _; rw [hRR'.out]; exact hTR), hw2'.out, ← hTT'.out, World.cell?_alloc_new]
          rw [Array.getElem?_eq_getElem (by rw [size_madeCells]; exact hj)]; rfl
        · intro o; rw [← hRR'.out]; exact World.frozen?_alloc_new _ _ _ _
        · intro o
          rw [((Below.refl _ w2).alloc (Nat.le_refl _) _).frozen (show (⟨TT, o, none⟩ : Addr).block < w2.heap.size by show TT < _; rw [hRR'.out]; exact hTR), hw2'.out, ← hTT'.out]
          exact World.frozen?_alloc_new _ _ _ _
        · intro d hd
          refine ⟨.slice none 0 0, ?_, rfl⟩
          rw [← hRR'.out, World.cell?_alloc_new, Array.getElem?_setIfInBounds, if_neg (by omega), Array.getElem?_replicate, if_pos (by omega)]
      case round =>
        obtain ⟨hbW, L, hT, hst⟩ := hrel
        rename_i W _
        rcases hst with ⟨rfl, rfl⟩ | ⟨rfl, rfl⟩ | ⟨rfl, rfl⟩ | ⟨rfl, rfl⟩ | ⟨rfl, rfl⟩
        · have c6 := cell_below (hcells.out 6 _ rfl) hbW
          have c7 := cell_below (hcells.out 7 _ rfl) hbW
          obtain ⟨v, hv, hvo⟩ := hT.reps 34 (by omega)
          have hvn : v = .slice none 0 0 := hvo
          subst hvn
          have hbW' := Lib.hid hbW; clear hbW
          have hix : ∀ W, (Instr.index 9 (.string ⟨#[34]⟩) (.int .i64 0)).run Tryz.prog W = .ok (.int .u8 34) W := fun W => rfl
          have heq0 : ∀ W, (binOp .eql 28 (.slice none 0 0) (.slice none 0 0)).run Tryz.prog W = .ok (.bool true) W := eql_nil
          have hcv : (convert 28 9 (.slice (some ⟨wr.heap.size, 0, none⟩) 1 1)).run Tryz.prog (wr.alloc (.cells #[.int .u8 34] 5)) = .ok (.string (mkB [34])) (wr.alloc (.cells #[.int .u8 34] 5)) := conv1 wr 34
          have htr := hT.tr
          obtain ⟨t0, ht0⟩ := Option.isSome_iff_exists.1 (hT.room 0 (by omega))
          have hbA := (Below.refl _ wr).alloc (Nat.le_refl _) (.cells #[.int .u8 34] 5)
          have hbB := hbA.alloc hbA.size (.cells #[.string (mkB [34])] 9)
          have ht0' := cell_below ht0 hbB
          have hf0' := frozen_below ht0 (hT.fzT 0) hbB
          have htr2 := cell_below htr hbB
          have hfR := frozen_below htr (hT.fzR 256) hbB
          obtain ⟨W3, hW3⟩ : ∃ W3, W3 = (((wr.alloc (.cells #[.int .u8 34] 5)).alloc (.cells #[.string (mkB [34])] 9)).setCell ⟨TT, 0, none⟩ (.string (mkB [34]))).setCell ⟨RR, 256, none⟩ (.slice (some ⟨TT, 0, none⟩) 1 4) := ⟨_, rfl⟩
          obtain ⟨X, cap, W4, hX, hcv2, hb4, hc4⟩ := convStr [38, 113, 117, 111, 116, 59] W3
          obtain ⟨hm1, hm2⟩ := hT.mid 34 34 (by omega) _ hv _ _ W3 W4 hW3 hb4
          have hfin := Lib.hid (hT.step (by decide) 34 [38, 113, 117, 111, 116, 59] (by decide) _ _ cap W3 W4 hW3 hb4 hc4)
          rw [← hX] at hfin
          have hBR := hT.BR
          have hB3 : Below w.heap.size w W3 := by rw [hW3]; exact (((hbW'.out.trans (hbB.mono hbW'.out.size))).setCell hT.BT _).setCell hT.BR _
          have hB4 := Lib.hid ((hB3.trans (hb4.mono hB3.size)).setCell (p := ⟨RR, 34, none⟩) hBR (.slice (some ⟨X, 0, none⟩) 6 cap))
          rw [hW3] at hcv2
          have hcv2 : (convert 9 28 (.string ⟨#[38, 113, 117, 111, 116, 59]⟩)).run Tryz.prog ((((wr.alloc (.cells #[.int .u8 34] 5)).alloc (.cells #[.string (mkB [34])] 9)).setCell ⟨TT, 0, none⟩ (.string (mkB [34]))).setCell ⟨RR, 256, none⟩ (.slice (some ⟨TT, 0, none⟩) 1 4)) = .ok (.slice (some ⟨X, 0, none⟩) 6 cap) W4 := hcv2
          have hT' := Lib.hid hT; clear hT
          clear hbA hbB ht0 hW3 hX hb4 hc4 hB3 hBR hvo
          go_wp2
          case roundEnd => exact ⟨⟨hB4.out, [quot], hfin.out, (.inr (.inl ⟨rfl, rfl⟩))⟩, by simp [intOf]⟩
        · have c6 := cell_below (hcells.out 4 _ rfl) hbW
          have c7 := cell_below (hcells.out 5 _ rfl) hbW
          obtain ⟨v, hv, hvo⟩ := hT.reps 62 (by omega)
          have hvn : v = .slice none 0 0 := hvo
          subst hvn
          have hbW' := Lib.hid hbW; clear hbW
          have hix : ∀ W, (Instr.index 9 (.string ⟨#[62]⟩) (.int .i64 0)).run Tryz.prog W = .ok (.int .u8 62) W := fun W => rfl
          have heq0 : ∀ W, (binOp .eql 28 (.slice none 0 0) (.slice none 0 0)).run Tryz.prog W = .ok (.bool true) W := eql_nil
          have hcv : (convert 28 9 (.slice (some ⟨wr.heap.size, 0, none⟩) 1 1)).run Tryz.prog (wr.alloc (.cells #[.int .u8 62] 5)) = .ok (.string (mkB [62])) (wr.alloc (.cells #[.int .u8 62] 5)) := conv1 wr 62
          have htr := hT.tr
          obtain ⟨t0, ht0⟩ := Option.isSome_iff_exists.1 (hT.room 1 (by omega))
          have hbA := (Below.refl _ wr).alloc (Nat.le_refl _) (.cells #[.int .u8 62] 5)
          have hbB := hbA.alloc hbA.size (.cells #[.string (mkB [62])] 9)
          have ht0' := cell_below ht0 hbB
          have hf0' := frozen_below ht0 (hT.fzT 1) hbB
          have htr2 := cell_below htr hbB
          have hfR := frozen_below htr (hT.fzR 256) hbB
          obtain ⟨W3, hW3⟩ : ∃ W3, W3 = (((wr.alloc (.cells #[.int .u8 62] 5)).alloc (.cells #[.string (mkB [62])] 9)).setCell ⟨TT, 1, none⟩ (.string (mkB [62]))).setCell ⟨RR, 256, none⟩ (.slice (some ⟨TT, 0, none⟩) 2 4) := ⟨_, rfl⟩
          obtain ⟨X, cap, W4, hX, hcv2, hb4, hc4⟩ := convStr [38, 103, 116, 59] W3
          obtain ⟨hm1, hm2⟩ := hT.mid 62 62 (by omega) _ hv _ _ W3 W4 hW3 hb4
          have hfin := Lib.hid (hT.step (by decide) 62 [38, 103, 116, 59] (by decide) _ _ cap W3 W4 hW3 hb4 hc4)
          rw [← hX] at hfin
          have hBR := hT.BR
          have hB3 : Below w.heap.size w W3 := by rw [hW3]; exact (((hbW'.out.trans (hbB.mono hbW'.out.size))).setCell hT.BT _).setCell hT.BR _
          have hB4 := Lib.hid ((hB3.trans (hb4.mono hB3.size)).setCell (p := ⟨RR, 62, none⟩) hBR (.slice (some ⟨X, 0, none⟩) 4 cap))
          rw [hW3] at hcv2
          have hcv2 : (convert 9 28 (.string ⟨#[38, 103, 116, 59]⟩)).run Tryz.prog ((((wr.alloc (.cells #[.int .u8 62] 5)).alloc (.cells #[.string (mkB [62])] 9)).setCell ⟨TT, 1, none⟩ (.string (mkB [62]))).setCell ⟨RR, 256, none⟩ (.slice (some ⟨TT, 0, none⟩) 2 4)) = .ok (.slice (some ⟨X, 0, none⟩) 4 cap) W4 := hcv2
          have hT' := Lib.hid hT; clear hT
          clear hbA hbB ht0 hW3 hX hb4 hc4 hB3 hBR hvo
          go_wp2
          case roundEnd => exact ⟨⟨hB4.out, [quot, gt], hfin.out, (.inr (.inr (.inl ⟨rfl, rfl⟩)))⟩, by simp [intOf]⟩
        · have c6 := cell_below (hcells.out 2 _ rfl) hbW
          have c7 := cell_below (hcells.out 3 _ rfl) hbW
          obtain ⟨v, hv, hvo⟩ := hT.reps 60 (by omega)
          have hvn : v = .slice none 0 0 := hvo
          subst hvn
          have hbW' := Lib.hid hbW; clear hbW
          have hix : ∀ W, (Instr.index 9 (.string ⟨#[60]⟩) (.int .i64 0)).run Tryz.prog W = .ok (.int .u8 60) W := fun W => rfl
          have heq0 : ∀ W, (binOp .eql 28 (.slice none 0 0) (.slice none 0 0)).run Tryz.prog W = .ok (.bool true) W := eql_nil
          have hcv : (convert 28 9 (.slice (some ⟨wr.heap.size, 0, none⟩) 1 1)).run Tryz.prog (wr.alloc (.cells #[.int .u8 60] 5)) = .ok (.string (mkB [60])) (wr.alloc (.cells #[.int .u8 60] 5)) := conv1 wr 60
          have htr := hT.tr
          obtain ⟨t0, ht0⟩ := Option.isSome_iff_exists.1 (hT.room 2 (by omega))
          have hbA := (Below.refl _ wr).alloc (Nat.le_refl _) (.cells #[.int .u8 60] 5)
          have hbB := hbA.alloc hbA.size (.cells #[.string (mkB [60])] 9)
          have ht0' := cell_below ht0 hbB
          have hf0' := frozen_below ht0 (hT.fzT 2) hbB
          have htr2 := cell_below htr hbB
          have hfR := frozen_below htr (hT.fzR 256) hbB
          obtain ⟨W3, hW3⟩ : ∃ W3, W3 = (((wr.alloc (.cells #[.int .u8 60] 5)).alloc (.cells #[.string (mkB [60])] 9)).setCell ⟨TT, 2, none⟩ (.string (mkB [60]))).setCell ⟨RR, 256, none⟩ (.slice (some ⟨TT, 0, none⟩) 3 4) := ⟨_, rfl⟩
          obtain ⟨X, cap, W4, hX, hcv2, hb4, hc4⟩ := convStr [38, 108, 116, 59] W3
          obtain ⟨hm1, hm2⟩ := hT.mid 60 60 (by omega) _ hv _ _ W3 W4 hW3 hb4
          have hfin := Lib.hid (hT.step (by decide) 60 [38, 108, 116, 59] (by decide) _ _ cap W3 W4 hW3 hb4 hc4)
          rw [← hX] at hfin
          have hBR := hT.BR
          have hB3 : Below w.heap.size w W3 := by rw [hW3]; exact (((hbW'.out.trans (hbB.mono hbW'.out.size))).setCell hT.BT _).setCell hT.BR _
          have hB4 := Lib.hid ((hB3.trans (hb4.mono hB3.size)).setCell (p := ⟨RR, 60, none⟩) hBR (.slice (some ⟨X, 0, none⟩) 4 cap))
          rw [hW3] at hcv2
          have hcv2 : (convert 9 28 (.string ⟨#[38, 108, 116, 59]⟩)).run Tryz.prog ((((wr.alloc (.cells #[.int .u8 60] 5)).alloc (.cells #[.string (mkB [60])] 9)).setCell ⟨TT, 2, none⟩ (.string (mkB [60]))).setCell ⟨RR, 256, none⟩ (.slice (some ⟨TT, 0, none⟩) 3 4)) = .ok (.slice (some ⟨X, 0, none⟩) 4 cap) W4 := hcv2
          have hT' := Lib.hid hT; clear hT
          clear hbA hbB ht0 hW3 hX hb4 hc4 hB3 hBR hvo
          go_wp2
          case roundEnd => exact ⟨⟨hB4.out, [quot, gt, lt], hfin.out, (.inr (.inr (.inr (.inl ⟨rfl, rfl⟩))))⟩, by simp [intOf]⟩
        · have c6 := cell_below (hcells.out 0 _ rfl) hbW
          have c7 := cell_below (hcells.out 1 _ rfl) hbW
          obtain ⟨v, hv, hvo⟩ := hT.reps 38 (by omega)
          have hvn : v = .slice none 0 0 := hvo
          subst hvn
          have hbW' := Lib.hid hbW; clear hbW
          have hix : ∀ W, (Instr.index 9 (.string ⟨#[38]⟩) (.int .i64 0)).run Tryz.prog W = .ok (.int .u8 38) W := fun W => rfl
          have heq0 : ∀ W, (binOp .eql 28 (.slice none 0 0) (.slice none 0 0)).run Tryz.prog W = .ok (.bool true) W := eql_nil
          have hcv : (convert 28 9 (.slice (some ⟨wr.heap.size, 0, none⟩) 1 1)).run Tryz.prog (wr.alloc (.cells #[.int .u8 38] 5)) = .ok (.string (mkB [38])) (wr.alloc (.cells #[.int .u8 38] 5)) := conv1 wr 38
          have htr := hT.tr
          obtain ⟨t0, ht0⟩ := Option.isSome_iff_exists.1 (hT.room 3 (by omega))
          have hbA := (Below.refl _ wr).alloc (Nat.le_refl _) (.cells #[.int .u8 38] 5)
          have hbB := hbA.alloc hbA.size (.cells #[.string (mkB [38])] 9)
          have ht0' := cell_below ht0 hbB
          have hf0' := frozen_below ht0 (hT.fzT 3) hbB
          have htr2 := cell_below htr hbB
          have hfR := frozen_below htr (hT.fzR 256) hbB
          obtain ⟨W3, hW3⟩ : ∃ W3, W3 = (((wr.alloc (.cells #[.int .u8 38] 5)).alloc (.cells #[.string (mkB [38])] 9)).setCell ⟨TT, 3, none⟩ (.string (mkB [38]))).setCell ⟨RR, 256, none⟩ (.slice (some ⟨TT, 0, none⟩) 4 4) := ⟨_, rfl⟩
          obtain ⟨X, cap, W4, hX, hcv2, hb4, hc4⟩ := convStr [38, 97, 109, 112, 59] W3
          obtain ⟨hm1, hm2⟩ := hT.mid 38 38 (by omega) _ hv _ _ W3 W4 hW3 hb4
          have hfin := Lib.hid (hT.step (by decide) 38 [38, 97, 109, 112, 59] (by decide) _ _ cap W3 W4 hW3 hb4 hc4)
          rw [← hX] at hfin
          have hBR := hT.BR
          have hB3 : Below w.heap.size w W3 := by rw [hW3]; exact (((hbW'.out.trans (hbB.mono hbW'.out.size))).setCell hT.BT _).setCell hT.BR _
          have hB4 := Lib.hid ((hB3.trans (hb4.mono hB3.size)).setCell (p := ⟨RR, 38, none⟩) hBR (.slice (some ⟨X, 0, none⟩) 5 cap))
          rw [hW3] at hcv2
          have hcv2 : (convert 9 28 (.string ⟨#[38, 97, 109, 112, 59]⟩)).run Tryz.prog ((((wr.alloc (.cells #[.int .u8 38] 5)).alloc (.cells #[.string (mkB [38])] 9)).setCell ⟨TT, 3, none⟩ (.string (mkB [38]))).setCell ⟨RR, 256, none⟩ (.slice (some ⟨TT, 0, none⟩) 4 4)) = .ok (.slice (some ⟨X, 0, none⟩) 5 cap) W4 := hcv2
          have hT' := Lib.hid hT; clear hT
          clear hbA hbB ht0 hW3 hX hb4 hc4 hB3 hBR hvo
          go_wp2
          case roundEnd => exact ⟨⟨hB4.out, [quot, gt, lt, amp], hfin.out, (.inr (.inr (.inr (.inr ⟨rfl, rfl⟩))))⟩, by simp [intOf]⟩
        · have hT' := Lib.hid hT; clear hT
          have hbW' := Lib.hid hbW; clear hbW
          go_wp2
          go_ret
          exact ⟨RR, TT, rfl, hT'.out, hbW'.out⟩
end Go.Proofs.YthdlibgiejpjeaaGreatDoor.Given

/- strings.Replacer: the first use. -/
namespace Go.Proofs.YthdlibgiejpjeaaGreatDoor.Given
open Go.RowKit Go.Proofs.YthdlibgiejpjeaaGreatDoor Go.Proofs.YthdlibgiejpjeaaGreatDoorW.PrintWords Go.Proofs.YthdlibgiejpjeaaGreatDoor.Spec

theorem RepT.kept {B R T : Nat} {L : List (UInt8 × List UInt8)} {W W' : World} (h : RepT B R T L W) (hk : ∀ X j u, B ≤ X → W.cell? ⟨X, j, none⟩ = some u → W'.cell? ⟨X, j, none⟩ = some u)
    (hf : ∀ X j, B ≤ X → W.frozen? ⟨X, j, none⟩ = false → (W.cell? ⟨X, 0, none⟩).isSome = true → W'.frozen? ⟨X, j, none⟩ = false) : RepT B R T L W' := by
  refine ⟨h.BR, h.BT, h.RT, hk _ _ _ h.BR h.tr, fun j hj => hk _ _ _ h.BT (h.names j hj), ?_, ?_, ?_, ?_⟩
  · intro j hj
    obtain ⟨u, hu⟩ := Option.isSome_iff_exists.1 (h.room j hj)
    rw [hk _ _ _ h.BT hu]; rfl
  · intro o
    obtain ⟨v, hv, _⟩ := h.reps 0 (by omega)
    exact hf _ _ h.BR (h.fzR o) (by rw [hv]; rfl)
  · intro o; exact hf _ _ h.BT (h.fzT o) (h.room 0 (by omega))
  · intro c hc
    obtain ⟨v, hv, hr⟩ := h.reps c hc
    refine ⟨v, hk _ _ _ h.BR hv, ?_⟩
    cases ho : look L c with
    | none => rw [ho] at hr; exact hr
    | some bs =>
      rw [ho] at hr
      obtain ⟨X, cap, h1, h2, h3, h4, h5⟩ := hr
      exact ⟨X, cap, h1, h2, h3, h4, fun j hj => hk _ _ _ h2 (h5 j hj)⟩
theorem RepT.setCell {B R T : Nat} {L : List (UInt8 × List UInt8)} {W : World} (h : RepT B R T L W) {p o : Nat} (hp : p < B) (v : Value) : RepT B R T L (W.setCell ⟨p, o, none⟩ v) :=
  h.kept (fun X j u hX hu => by rw [World.cell?_setCell_other _ _ _ _ (ne_addr (.inl (by omega)))]; exact hu) (fun X j hX hu _ => by rw [World.frozen?_setCell]; exact hu)
theorem RepT.drew {B R T : Nat} {L : List (UInt8 × List UInt8)} {W : World} (h : RepT B R T L W) : RepT B R T L W.drew :=
  h.kept (fun X j u hX hu => by rw [World.cell?_drew]; exact hu) (fun X j hX hu _ => by rw [World.frozen?_drew]; exact hu)
theorem RepT.below {B R T : Nat} {L : List (UInt8 × List UInt8)} {W W' : World} (h : RepT B R T L W) (hb : Below W.heap.size W W') : RepT B R T L W' :=
  h.kept (fun X j u hX hu => cell_below hu hb) (fun X j hX hu hs => by obtain ⟨v, hv⟩ := Option.isSome_iff_exists.1 hs; rw [hb.frozen (show X < W.heap.size from lt_of_cell hv)]; exact hu)

theorem load0 (a : Addr) (w : World) (h : w.cell? a = some (.int .u32 0)) : Calls Tryz.prog 134 #[.pointer (some a)] w fun e w' => e = .returned (.bool false) ∧ w' = w := by
  have hl := run_call_load (P := Tryz.prog) Tryz.func160 (by kernel_rfl) (by kernel_rfl) (by kernel_rfl) .u32 (by kernel_rfl) (w := w) (a := a) (x := 0) h
  go_enter Tryz.func134, Tryz.ntmps134
  go_wp2
  go_ret
  exact ⟨rfl, rfl⟩
abbrev all4 : List (UInt8 × List UInt8) := [quot, gt, lt, amp]

set_option maxHeartbeats 4000000 in
set_option maxRecDepth 1000000 in
theorem buildOnce (p A c : Nat) (w : World) (ho : w.cell? ⟨p, 4, none⟩ = some (.slice (some ⟨A, 0, none⟩) 8 c)) (hc : ∀ j u, pairs[j]? = some u → w.cell? ⟨A, j, none⟩ = some u)
    (h3 : w.cell? ⟨p, 3, none⟩ = some .nilIface) (hf : ∀ o, w.frozen? ⟨p, o, none⟩ = false) :
    Calls Tryz.prog 91 #[.pointer (some ⟨p, 0, none⟩)] w fun e w' => e = .returned (.tuple #[]) ∧ ∃ R T W2, RepT w.heap.size R T all4 W2 ∧ Below w.heap.size w W2 ∧ w' = (W2.setCell ⟨p, 3, none⟩ (.iface 171 (.pointer (some ⟨R, 0, none⟩)))).setCell ⟨p, 4, none⟩ (.slice none 0 0) := by
  have hb := build p A c w ho hc
  have hb' := Lib.hid hb; clear hb hc
  go_enter Tryz.func91, Tryz.ntmps91
  go_wp2_with fail
  refine hb'.out.mono ?_
  rintro e w1 ⟨R, T, rfl, hT, hb1⟩
  have h3' := cell_below h3 hb1
  have ho' := cell_below ho hb1
  have hf3 := frozen_below h3 (hf 3) hb1
  have hf4 := frozen_below ho (hf 4) hb1
  have ho2 := (World.cell?_setCell_other w1 ⟨p, 3, none⟩ ⟨p, 4, none⟩ (.iface 171 (.pointer (some ⟨R, 0, none⟩))) (by simp)).trans ho'
  have hT' := Lib.hid hT; clear hT
  have hb1' := Lib.hid hb1; clear hb1
  clear hf h3 ho
  go_wp2_with fail
  go_end0
  exact ⟨rfl, R, T, w1, hT'.out, hb1'.out, rfl⟩

set_option maxHeartbeats 4000000 in
set_option maxRecDepth 1000000 in
/-- (*sync.Once).doSlow of a new Replacer's buildOnce. -/
theorem doSlow (B p A c : Nat) (w : World) (h : NewRep B p A c pairs w) (hpw : p < w.heap.size) :
    Calls Tryz.prog 135 #[.pointer (some ⟨p, 0, none⟩), .func (.func 91) #[.pointer (some ⟨p, 0, none⟩)] #[]] w fun e w' => e = .returned (.tuple #[]) ∧ ∃ R T W2, RepT w.heap.size R T all4 W2 ∧ Below w.heap.size (w.setCell ⟨p, 1, none⟩ (.int .i32 1)) W2 ∧
      w' = ((((W2.setCell ⟨p, 3, none⟩ (.iface 171 (.pointer (some ⟨R, 0, none⟩)))).setCell ⟨p, 4, none⟩ (.slice none 0 0)).drew.setCell ⟨p, 0, none⟩ (.int .u32 1)).setCell ⟨p, 1, none⟩ (.int .i32 0)) := by
  have h0 := h.done
  have h1 := h.mu
  have f0 := h.fz 0
  have f1 := h.fz 1
  have hl := Lib.hid (load0 ⟨p, 0, none⟩ (w.setCell ⟨p, 1, none⟩ (.int .i32 1)) ((World.cell?_setCell_other w ⟨p, 1, none⟩ ⟨p, 0, none⟩ (.int .i32 1) (by simp)).trans h0))
  have hnot : ∀ (x : Bool) (w : World), (Op.unary .not (.bool x)).run Tryz.prog w = .ok (.bool (!x)) w := fun _ _ => rfl
  have hApart : A ≠ p := h.ne
  have hbo := buildOnce p A c (w.setCell ⟨p, 1, none⟩ (.int .i32 1)) ((World.cell?_setCell_other _ _ _ _ (by simp)).trans h.oldnew) (fun j u hj => (World.cell?_setCell_other _ _ _ _ (ne_addr (.inl (Ne.symm h.ne)))).trans (h.cells j u hj)) ((World.cell?_setCell_other _ _ _ _ (by simp)).trans h.r) (fun o => by rw [World.frozen?_setCell]; exact h.fz o)
  have hbo' := Lib.hid hbo; clear hbo
  have h' := Lib.hid h; clear h
  go_enter_defers Tryz.func135, Tryz.ntmps135
  go_wp2_with (go_at_call 161; refine (lock_free ⟨p, 1, none⟩ _ (by go_simp) (by go_simp)).mono ?_; rintro e w' ⟨rfl, rfl⟩)
  refine hl.out.mono ?_
  rintro e w1 ⟨rfl, rfl⟩
  go_wp2_with fail
  refine hbo'.out.mono ?_
  rintro e w1 ⟨rfl, R, T, W2, hT, hb, rfl⟩
  have hsz : (w.setCell ⟨p, 1, none⟩ (.int .i32 1)).heap.size = w.heap.size := by simp [World.setCell]
  have q0 : W2.cell? ⟨p, 0, none⟩ = some (.int .u32 0) := cell_below ((World.cell?_setCell_other _ _ _ _ (by simp)).trans h0) hb
  have q1 : W2.cell? ⟨p, 1, none⟩ = some (.int .i32 1) := cell_below (World.cell?_setCell_same _ _ _ h1) hb
  have z0 : W2.frozen? ⟨p, 0, none⟩ = false := by rw [hb.frozen (show p < _ by rw [hsz]; exact hpw), World.frozen?_setCell]; exact f0
  have z1 : W2.frozen? ⟨p, 1, none⟩ = false := by rw [hb.frozen (show p < _ by rw [hsz]; exact hpw), World.frozen?_setCell]; exact f1
  rw [hsz] at hT hb
  have hT' := Lib.hid hT; clear hT
  have hb' := Lib.hid hb; clear hb
  go_wp2_with fail
  refine leaves_cons (f := 163) (args := #[.pointer (some ⟨p, 0, none⟩), .bool true]) (by simp) (by simp [go_sem]) ?_
  refine (store_deferred ⟨p, 0, none⟩ (.int .u32 0) .returning _ ?_ (by simp [z0])).mono ?_
  · exact (World.cell?_setCell_other _ _ _ _ (by simp)).trans ((World.cell?_setCell_other _ _ _ _ (by simp)).trans q0)
  rintro e u' w'' ⟨rfl, rfl, rfl⟩
  refine leaves_cons (f := 162) (args := #[.pointer (some ⟨p, 1, none⟩)]) (by simp [settle]) (by simp [go_sem]) ?_
  refine (unlock_deferred ⟨p, 1, none⟩ _ _ ?_ (by simp [z1])).mono ?_
  · refine (World.cell?_setCell_other _ _ _ _ (by simp)).trans ?_
    rw [World.cell?_drew]
    exact (World.cell?_setCell_other _ _ _ _ (by simp)).trans ((World.cell?_setCell_other _ _ _ _ (by simp)).trans q1)
  rintro e u' w'' ⟨rfl, rfl, rfl⟩
  simp [Leaves, settle, results, Tryz.results135]
  exact ⟨R, T, W2, hT'.out, hb'.out, rfl⟩

set_option maxHeartbeats 4000000 in
set_option maxRecDepth 1000000 in
theorem doOnce (B p A c : Nat) (w : World) (h : NewRep B p A c pairs w) (hBw : B ≤ w.heap.size) :
    Calls Tryz.prog 90 #[.pointer (some ⟨p, 0, none⟩), .func (.func 91) #[.pointer (some ⟨p, 0, none⟩)] #[]] w fun e w' => e = .returned (.tuple #[]) ∧ ∃ R T, RepT w.heap.size R T all4 w' ∧ Below B w w' ∧
      w'.cell? ⟨p, 3, none⟩ = some (.iface 171 (.pointer (some ⟨R, 0, none⟩))) := by
  have hpw : p < w.heap.size := lt_of_cell h.done
  have hl := Lib.hid (load0 ⟨p, 0, none⟩ w h.done)
  have hs := Lib.hid (doSlow B p A c w h hpw)
  have h' := Lib.hid h; clear h
  go_enter Tryz.func90, Tryz.ntmps90
  go_wp2_with fail
  refine hl.out.mono ?_
  rintro e w1 ⟨rfl, hww⟩
  have hww := hww.symm
  subst hww
  go_wp2_with fail
  refine hs.out.mono ?_
  rintro e w1 ⟨rfl, R, T, W2, hT, hb, hw1⟩
  have hT' := Lib.hid hT; clear hT
  have hb' := Lib.hid hb; clear hb
  have hw1' := Lib.hid hw1; clear hw1
  go_wp2_with fail
  go_end0
  have hh := h'.out
  refine ⟨rfl, R, T, ?_, ?_, ?_⟩
  · rw [hw1'.out]; exact ((((hT'.out.setCell hpw _).setCell hpw _).drew).setCell hpw _).setCell hpw _
  · have k1 : Below B w (w.setCell ⟨p, 1, none⟩ (.int .i32 1)) := (Below.refl B w).setCell hh.pB _
    have k2 : Below B w W2 := k1.trans (hb'.out.mono hBw)
    rw [hw1'.out]
    exact (((((k2.setCell (p := ⟨p, 3, none⟩) hh.pB _).setCell (p := ⟨p, 4, none⟩) hh.pB _).drew).setCell (p := ⟨p, 0, none⟩) hh.pB _).setCell (p := ⟨p, 1, none⟩) hh.pB _)
  · have hsz : (w.setCell ⟨p, 1, none⟩ (.int .i32 1)).heap.size = w.heap.size := by simp [World.setCell]
    have q3 : W2.cell? ⟨p, 3, none⟩ = some .nilIface := by
      rw [hb'.out.cell (show p < w.heap.size from hpw)]
      exact (World.cell?_setCell_other _ _ _ _ (by simp)).trans hh.r
    rw [hw1'.out, World.cell?_setCell_other _ _ _ _ (by simp), World.cell?_setCell_other _ _ _ _ (by simp), World.cell?_drew, World.cell?_setCell_other _ _ _ _ (by simp)]
    exact World.cell?_setCell_same _ _ _ q3
end Go.Proofs.YthdlibgiejpjeaaGreatDoor.Given

/- strings.byteStringReplacer.Replace of the four pairs. -/
namespace Go.Proofs.YthdlibgiejpjeaaGreatDoor.Spec
open Go
theorem html_nil : html [] = [] := rfl
theorem html_cons (c : UInt8) (r : List UInt8) : html (c :: r) = htmlC c ++ html r := rfl
theorem html_append (a b : List UInt8) : html (a ++ b) = html a ++ html b := by unfold html; rw [List.flatMap_append]
theorem html_take_succ (l : List UInt8) (k : Nat) (h : k < l.length) : html (l.take (k + 1)) = html (l.take k) ++ htmlC l[k] := by
  rw [List.take_succ_eq_append_getElem h, html_append]
  show html (l.take k) ++ html [l[k]] = _
  rw [html_cons, html_nil, List.append_nil]
theorem htmlC_len (c : UInt8) : (htmlC c).length = 1 + 5 * (if c = 34 then 1 else 0) + 3 * (if c = 62 then 1 else 0) + 3 * (if c = 60 then 1 else 0) + 4 * (if c = 38 then 1 else 0) := by
  unfold htmlC
  by_cases h1 : c = 38
  · subst h1; rfl
  · by_cases h2 : c = 60
    · subst h2; rfl
    · by_cases h3 : c = 62
      · subst h3; rfl
      · by_cases h4 : c = 34
        · subst h4; rfl
        · simp [h1, h2, h3, h4]
theorem html_len (l : List UInt8) : (html l).length = l.length + 5 * l.count 34 + 3 * l.count 62 + 3 * l.count 60 + 4 * l.count 38 := by
  induction l with
  | nil => rfl
  | cons c r ih =>
    rw [html_cons, List.length_append, ih, htmlC_len, List.length_cons]
    simp only [List.count_cons, beq_iff_eq]
    omega
theorem htmlC_bounds (c : UInt8) : 1 ≤ (htmlC c).length ∧ (htmlC c).length ≤ 6 := by
  rw [htmlC_len]
  by_cases h1 : c = 38
  · subst h1; decide
  · by_cases h2 : c = 60
    · subst h2; decide
    · by_cases h3 : c = 62
      · subst h3; decide
      · by_cases h4 : c = 34
        · subst h4; decide
        · simp [h1, h2, h3, h4]
theorem html_bounds (l : List UInt8) : l.length ≤ (html l).length ∧ (html l).length ≤ 6 * l.length := by
  induction l with
  | nil => exact ⟨Nat.le_refl _, Nat.le_refl _⟩
  | cons c r ih =>
    have := htmlC_bounds c
    rw [html_cons, List.length_append, List.length_cons]; omega
theorem html_same (l : List UInt8) (h : (html l).length = l.length) : html l = l := by
  induction l with
  | nil => rfl
  | cons c r ih =>
    have h1 := htmlC_bounds c
    have h2 := (html_bounds r).1
    rw [html_cons, List.length_append, List.length_cons] at h
    have h3 : (htmlC c).length = 1 := by omega
    rw [html_cons, ih (by omega)]
    have h4 : htmlC c = [c] := by
      unfold htmlC at h3 ⊢
      split at h3
      · cases h3
      · split at h3
        · cases h3
        · split at h3
          · cases h3
          · split at h3
            · cases h3
            · rename_i a b c d; simp [a, b, c, d]
    rw [h4]; rfl
end Go.Proofs.YthdlibgiejpjeaaGreatDoor.Spec
namespace Go.Proofs.YthdlibgiejpjeaaGreatDoor.Given
open Go.RowKit Go.Proofs.YthdlibgiejpjeaaGreatDoor Go.Proofs.YthdlibgiejpjeaaGreatDoorW.PrintWords Go.Proofs.YthdlibgiejpjeaaGreatDoor.Spec

theorem size_u8 : (Tryz.prog.info? 5).map (·.size) = some 1 := by kernel_rfl
theorem below_setCells {B b : Nat} {a : World} (hb : B ≤ b) : ∀ (vs : List Value) (o : Nat) {w : World}, Below B a w → Below B a (w.setCells b o vs)
  | [], _, _, h => h
  | v :: r, o, _, h => below_setCells hb r (o + 1) (h.setCell (p := ⟨b, o, none⟩) hb v)
/-- A buffer at Bf, of N bytes, whose first ones are these. -/
structure BufAt (Bf N : Nat) (done : List UInt8) (W : World) : Prop where
  cells : ∀ t (ht : t < done.length), W.cell? ⟨Bf, t, none⟩ = some (.int .u8 (done[t].toNat : Int))
  room : ∀ t, t < N → (W.cell? ⟨Bf, t, none⟩).isSome = true
  fz : ∀ t, W.frozen? ⟨Bf, t, none⟩ = false
theorem BufAt.copy {Bf N : Nat} {done : List UInt8} {W : World} (h : BufAt Bf N done W) (bs : List UInt8) (hN : done.length + bs.length ≤ N) :
    BufAt Bf N (done ++ bs) (W.setCells Bf done.length (bs.map fun b => .int .u8 (b.toNat : Int))) := by
  have hin : ∀ j (hj : j < bs.length), (W.setCells Bf done.length (bs.map fun b => .int .u8 (b.toNat : Int))).cell? ⟨Bf, done.length + j, none⟩ = some (.int .u8 (bs[j].toNat : Int)) := fun j hj => by
    have := World.cell?_setCells_in Bf (bs.map fun b => Value.int .u8 (b.toNat : Int)) done.length W (fun j hj => h.room _ (by rw [List.length_map] at hj; omega)) j (by rw [List.length_map]; exact hj)
    rw [this, List.getElem_map]
  have hout : ∀ t, (t < done.length ∨ done.length + bs.length ≤ t) → (W.setCells Bf done.length (bs.map fun b => .int .u8 (b.toNat : Int))).cell? ⟨Bf, t, none⟩ = W.cell? ⟨Bf, t, none⟩ := fun t ht =>
    World.cell?_setCells_out Bf _ _ _ _ (fun _ _ => by rw [List.length_map]; exact ht)
  refine ⟨?_, ?_, fun t => by rw [World.frozen?_setCells]; exact h.fz t⟩
  · intro t ht
    rw [List.length_append] at ht
    by_cases hd : t < done.length
    · rw [hout t (.inl hd), List.getElem_append_left hd]; exact h.cells t hd
    · have := hin (t - done.length) (by omega)
      rw [show done.length + (t - done.length) = t by omega] at this
      rw [this, List.getElem_append_right (by omega)]
  · intro t ht
    by_cases hd : t < done.length ∨ done.length + bs.length ≤ t
    · rw [hout t hd]; exact h.room t ht
    · have := hin (t - done.length) (by omega)
      rw [show done.length + (t - done.length) = t by omega] at this
      rw [this]; rfl
theorem BufAt.drew {Bf N : Nat} {done : List UInt8} {W : World} (h : BufAt Bf N done W) : BufAt Bf N done W.drew :=
  ⟨fun t ht => by rw [World.cell?_drew]; exact h.cells t ht, fun t ht => by rw [World.cell?_drew]; exact h.room t ht, fun t => by rw [World.frozen?_drew]; exact h.fz t⟩
theorem slice_from (Bf N j : Nat) (h : j < N) (W : World) : (Instr.slice 28 (.slice (some ⟨Bf, 0, none⟩) N N) (some (.int .i64 (j : Int))) none none).run Tryz.prog W = .ok (.slice (some ⟨Bf, j, none⟩) (N - j) (N - j)) W := by
  have he : Tryz.prog.elem 28 = 5 := by unfold Program.elem; rw [Tryz.underlying28]
  rw [run_slice_l W 28 (some ⟨Bf, 0, none⟩) N N (by rw [he]; exact Tryz.underlying28) .i64 (j : Int) (by omega) (by omega), he, Tryz.sizeOf5]
  simp only [Result.andThen, sliced, Int.toNat_natCast, Nat.mul_one, Option.map_some]
  rw [if_neg (by omega), Lib.add_plain, Nat.zero_add]
theorem copy_at (Bf N j X : Nat) (cap : Nat) (bs : List UInt8) (W : World) (hj : j + bs.length ≤ N) (hX : ∀ t, t < bs.length → W.cell? ⟨X, t, none⟩ = some (.int .u8 ((bs[t]!).toNat : Int))) (hb : ∀ t, t < N → (W.cell? ⟨Bf, t, none⟩).isSome = true) (hf : ∀ t, W.frozen? ⟨Bf, t, none⟩ = false) :
    (Builtin.copy_ #[28, 28] 3 #[.slice (some ⟨Bf, j, none⟩) (N - j) (N - j), .slice (some ⟨X, 0, none⟩) bs.length cap]).run Tryz.prog W = .ok (.int .i64 (bs.length : Int)) (W.setCells Bf j (bs.map fun b => .int .u8 (b.toNat : Int))) := by
  have h := run_copy_cells (P := Tryz.prog) W 28 28 3 5 Bf j (N - j) (N - j) ⟨X, 0, none⟩ bs.length cap (bs.map fun b => .int .u8 (b.toNat : Int)) Tryz.underlying28 size_u8 (by rw [List.length_map]; exact (Nat.min_eq_left (by omega)).symm)
    (fun t v ht => by
      rw [List.getElem?_map] at ht
      rw [Lib.add_plain, Nat.zero_add]
      cases hq : bs[t]? with
      | none => rw [hq] at ht; cases ht
      | some b =>
        rw [hq] at ht
        have hlt : t < bs.length := (List.getElem?_eq_some_iff.1 hq).1
        rw [hX t hlt, ← Option.some.inj ht]
        simp [List.getElem!_eq_getElem?_getD, hq]) (fun t ht => hb _ (by rw [List.length_map] at ht; omega)) (fun t _ => hf _) (fun v hv => by
      obtain ⟨b, _, rfl⟩ := List.mem_map.1 hv; rfl)
  rw [List.length_map] at h
  exact h
theorem look_html : ∀ c : Fin 256, look all4 c.val = if c.val = 38 ∨ c.val = 60 ∨ c.val = 62 ∨ c.val = 34 then some (htmlC c.val.toUInt8) else none := by decide +kernel
theorem htmlC_other : ∀ c : Fin 256, ¬ (c.val = 38 ∨ c.val = 60 ∨ c.val = 62 ∨ c.val = 34) → htmlC c.val.toUInt8 = [c.val.toUInt8] := by decide +kernel
theorem count1 (l : List UInt8) (c : UInt8) (w : World) (hG : GW w) : Calls Tryz.prog 65 #[.string (mkB l), .string (mkB [c])] w fun e w' => e = .returned (.int .i64 (l.count c : Nat)) ∧ w' = w :=
  Tryz.strings_Count_one (mkB l) c w

set_option maxHeartbeats 8000000 in
set_option maxRecDepth 1000000 in
theorem bsReplace (B R T : Nat) (l : List UInt8) (W : World) (hG : GW W) (hT : RepT B R T all4 W) (hs : l.length ≤ 17592186044416) :
    Calls Tryz.prog 243 #[.pointer (some ⟨R, 0, none⟩), .string (mkB l)] W fun e w' => e = .returned (.string (mkB (html l))) ∧ Below W.heap.size W w' := by
  have hlen := html_len l
  have hbd := html_bounds l
  have hsame := html_same l
  have htr := hT.tr
  have hLs := mkB_size l
  by_cases h32 : 32 ≤ l.length
  · generalize hL : mkB l = LB at *
    have hL' := Lib.hid hL; clear hL
    have hT' := Lib.hid hT; clear hT
    have hlen' := Lib.hid hlen; clear hlen
    have hsame' := Lib.hid hsame; clear hsame
    have hbd' := Lib.hid hbd; clear hbd
    have hd32 : decide (32 ≤ (l.length : Int)) = true := decide_eq_true (by omega)
    go_enter Tryz.func243, Tryz.ntmps243
    have hq := List.count_le_length (a := (34 : UInt8)) (l := l)
    have hg := List.count_le_length (a := (62 : UInt8)) (l := l)
    have ht := List.count_le_length (a := (60 : UInt8)) (l := l)
    have hm := List.count_le_length (a := (38 : UInt8)) (l := l)
    have k0 := fun w hw => count1 l 34 w hw
    have k1 := fun w hw => count1 l 62 w hw
    have k2 := fun w hw => count1 l 60 w hw
    have k3 := fun w hw => count1 l 38 w hw
    rw [hL'.out] at k0 k1 k2 k3
    have k0' := Lib.hid k0; clear k0
    have k1' := Lib.hid k1; clear k1
    have k2' := Lib.hid k2; clear k2
    have k3' := Lib.hid k3; clear k3
    generalize l.count 34 = q at *
    generalize l.count 62 = g at *
    generalize l.count 60 = t at *
    generalize l.count 38 = m at *
    go_wp2
    go_loopw [5, 6, 32] (fun ns an i wr => Below W.heap.size W wr ∧ ((i = .int .i64 0 ∧ ns = .int .i64 ((l.length : Nat) : Int) ∧ an = .bool (decide (0 < 0))) ∨ (i = .int .i64 1 ∧ ns = .int .i64 ((l.length + 5 * q : Nat) : Int) ∧ an = .bool (decide (0 < q))) ∨ (i = .int .i64 2 ∧ ns = .int .i64 ((l.length + 5 * q + 3 * g : Nat) : Int) ∧ an = .bool (decide (0 < q + g))) ∨ (i = .int .i64 3 ∧ ns = .int .i64 ((l.length + 5 * q + 3 * g + 3 * t : Nat) : Int) ∧ an = .bool (decide (0 < q + g + t))) ∨ (i = .int .i64 4 ∧ ns = .int .i64 ((l.length + 5 * q + 3 * g + 3 * t + 4 * m : Nat) : Int) ∧ an = .bool (decide (0 < q + g + t + m))))) (fun _ _ i _ => 5 - (intOf i).toNat)
    case atStart => exact ⟨Below.refl _ W, .inl ⟨rfl, rfl, rfl⟩⟩
    case round =>
      obtain ⟨hbw, hst⟩ := hrel
      have hTw := hT'.out.below hbw
      have hGw := hG.below hbw
      rcases hst with ⟨rfl, rfl, rfl⟩ | ⟨rfl, rfl, rfl⟩ | ⟨rfl, rfl, rfl⟩ | ⟨rfl, rfl, rfl⟩ | ⟨rfl, rfl, rfl⟩
      · have hnm : wr.cell? ⟨T, 0, none⟩ = some (.string (mkB [34])) := hTw.names 0 (by decide)
        obtain ⟨v, hv, X, cap, hve, _, _, _, hX⟩ := hTw.reps 34 (by omega)
        have hve : v = .slice (some ⟨X, 0, none⟩) 6 cap := hve
        subst hve
        have hix : ∀ w, (Instr.index 9 (.string (mkB [34])) (.int .i64 0)).run Tryz.prog w = .ok (.int .u8 34) w := fun w => rfl
        have hKk := Lib.hid (k0'.out wr hGw)
        have hbw' := Lib.hid hbw; clear hbw
        have hTw' := Lib.hid hTw; clear hTw
        have hGw' := Lib.hid hGw; clear hGw
        clear hX
        have hdr : wr.drew.cell? ⟨R, 34, none⟩ = some (.slice (some ⟨X, 0, none⟩) 6 cap) := by rw [World.cell?_drew]; exact hv
        by_cases h0 : q = 0
        · have h0i : ((q : Nat) : Int) = 0 := by omega
          have h0' := Lib.hid h0; clear h0
          generalize mkB [34] = XB at *
          go_wp2_with fail
          refine hKk.out.mono ?_
          rintro e w1 ⟨rfl, hww⟩
          have hww := hww.symm
          subst hww
          go_wp2_with fail
          refine ⟨⟨hbw'.out, (.inr (.inl ⟨rfl, ?_, ?_⟩))⟩, by simp [intOf]⟩
          · exact congrArg (Value.int .i64) (by have := h0'.out; omega)
          · exact congrArg Value.bool (by have := h0'.out; subst this; simp)
        · have h0i : ¬ ((q : Nat) : Int) = 0 := by omega
          generalize mkB [34] = XB at *
          have hNS : ((l.length : Nat) : Int) ≤ 4611686018427387904 := by omega
          obtain ⟨NS, hNSe⟩ : ∃ NS : Int, NS = ((l.length : Nat) : Int) := ⟨_, rfl⟩
          rw [← hNSe] at hNS ⊢
          have hNSe' := Lib.hid hNSe; clear hNSe
          go_wp2_with fail
          refine hKk.out.mono ?_
          rintro e w1 ⟨rfl, hww⟩
          have hww := hww.symm
          subst hww
          go_wp2_with fail
          go_region
          go_wp2_with fail
          refine ⟨⟨hbw'.out.drew, (.inr (.inl ⟨rfl, ?_, ?_⟩))⟩, by simp [intOf]⟩
          · have h9 := hNSe'.out
            rw [IntWalk.wrap64_in _ (by omega)]
            exact congrArg (Value.int .i64) (by omega)
          · exact congrArg Value.bool (by rw [decide_eq_true (by omega)])
      · have hnm : wr.cell? ⟨T, 1, none⟩ = some (.string (mkB [62])) := hTw.names 1 (by decide)
        obtain ⟨v, hv, X, cap, hve, _, _, _, hX⟩ := hTw.reps 62 (by omega)
        have hve : v = .slice (some ⟨X, 0, none⟩) 4 cap := hve
        subst hve
        have hix : ∀ w, (Instr.index 9 (.string (mkB [62])) (.int .i64 0)).run Tryz.prog w = .ok (.int .u8 62) w := fun w => rfl
        have hKk := Lib.hid (k1'.out wr hGw)
        have hbw' := Lib.hid hbw; clear hbw
        have hTw' := Lib.hid hTw; clear hTw
        have hGw' := Lib.hid hGw; clear hGw
        clear hX
        have hdr : wr.drew.cell? ⟨R, 62, none⟩ = some (.slice (some ⟨X, 0, none⟩) 4 cap) := by rw [World.cell?_drew]; exact hv
        by_cases h0 : g = 0
        · have h0i : ((g : Nat) : Int) = 0 := by omega
          have h0' := Lib.hid h0; clear h0
          generalize mkB [62] = XB at *
          go_wp2_with fail
          refine hKk.out.mono ?_
          rintro e w1 ⟨rfl, hww⟩
          have hww := hww.symm
          subst hww
          go_wp2_with fail
          refine ⟨⟨hbw'.out, (.inr (.inr (.inl ⟨rfl, ?_, ?_⟩)))⟩, by simp [intOf]⟩
          · exact congrArg (Value.int .i64) (by have := h0'.out; omega)
          · exact congrArg Value.bool (by have := h0'.out; subst this; simp)
        · have h0i : ¬ ((g : Nat) : Int) = 0 := by omega
          generalize mkB [62] = XB at *
          have hNS : ((l.length + 5 * q : Nat) : Int) ≤ 4611686018427387904 := by omega
          obtain ⟨NS, hNSe⟩ : ∃ NS : Int, NS = ((l.length + 5 * q : Nat) : Int) := ⟨_, rfl⟩
          rw [← hNSe] at hNS ⊢
          have hNSe' := Lib.hid hNSe; clear hNSe
          go_wp2_with fail
          refine hKk.out.mono ?_
          rintro e w1 ⟨rfl, hww⟩
          have hww := hww.symm
          subst hww
          go_wp2_with fail
          go_region
          go_wp2_with fail
          refine ⟨⟨hbw'.out.drew, (.inr (.inr (.inl ⟨rfl, ?_, ?_⟩)))⟩, by simp [intOf]⟩
          · have h9 := hNSe'.out
            rw [IntWalk.wrap64_in _ (by omega)]
            exact congrArg (Value.int .i64) (by omega)
          · exact congrArg Value.bool (by rw [decide_eq_true (by omega)])
      · have hnm : wr.cell? ⟨T, 2, none⟩ = some (.string (mkB [60])) := hTw.names 2 (by decide)
        obtain ⟨v, hv, X, cap, hve, _, _, _, hX⟩ := hTw.reps 60 (by omega)
        have hve : v = .slice (some ⟨X, 0, none⟩) 4 cap := hve
        subst hve
        have hix : ∀ w, (Instr.index 9 (.string (mkB [60])) (.int .i64 0)).run Tryz.prog w = .ok (.int .u8 60) w := fun w => rfl
        have hKk := Lib.hid (k2'.out wr hGw)
        have hbw' := Lib.hid hbw; clear hbw
        have hTw' := Lib.hid hTw; clear hTw
        have hGw' := Lib.hid hGw; clear hGw
        clear hX
        have hdr : wr.drew.cell? ⟨R, 60, none⟩ = some (.slice (some ⟨X, 0, none⟩) 4 cap) := by rw [World.cell?_drew]; exact hv
        by_cases h0 : t = 0
        · have h0i : ((t : Nat) : Int) = 0 := by omega
          have h0' := Lib.hid h0; clear h0
          generalize mkB [60] = XB at *
          go_wp2_with fail
          refine hKk.out.mono ?_
          rintro e w1 ⟨rfl, hww⟩
          have hww := hww.symm
          subst hww
          go_wp2_with fail
          refine ⟨⟨hbw'.out, (.inr (.inr (.inr (.inl ⟨rfl, ?_, ?_⟩))))⟩, by simp [intOf]⟩
          · exact congrArg (Value.int .i64) (by have := h0'.out; omega)
          · exact congrArg Value.bool (by have := h0'.out; subst this; simp)
        · have h0i : ¬ ((t : Nat) : Int) = 0 := by omega
          generalize mkB [60] = XB at *
          have hNS : ((l.length + 5 * q + 3 * g : Nat) : Int) ≤ 4611686018427387904 := by omega
          obtain ⟨NS, hNSe⟩ : ∃ NS : Int, NS = ((l.length + 5 * q + 3 * g : Nat) : Int) := ⟨_, rfl⟩
          rw [← hNSe] at hNS ⊢
          have hNSe' := Lib.hid hNSe; clear hNSe
          go_wp2_with fail
          refine hKk.out.mono ?_
          rintro e w1 ⟨rfl, hww⟩
          have hww := hww.symm
          subst hww
          go_wp2_with fail
          go_region
          go_wp2_with fail
          refine ⟨⟨hbw'.out.drew, (.inr (.inr (.inr (.inl ⟨rfl, ?_, ?_⟩))))⟩, by simp [intOf]⟩
          · have h9 := hNSe'.out
            rw [IntWalk.wrap64_in _ (by omega)]
            exact congrArg (Value.int .i64) (by omega)
          · exact congrArg Value.bool (by rw [decide_eq_true (by omega)])
      · have hnm : wr.cell? ⟨T, 3, none⟩ = some (.string (mkB [38])) := hTw.names 3 (by decide)
        obtain ⟨v, hv, X, cap, hve, _, _, _, hX⟩ := hTw.reps 38 (by omega)
        have hve : v = .slice (some ⟨X, 0, none⟩) 5 cap := hve
        subst hve
        have hix : ∀ w, (Instr.index 9 (.string (mkB [38])) (.int .i64 0)).run Tryz.prog w = .ok (.int .u8 38) w := fun w => rfl
        have hKk := Lib.hid (k3'.out wr hGw)
        have hbw' := Lib.hid hbw; clear hbw
        have hTw' := Lib.hid hTw; clear hTw
        have hGw' := Lib.hid hGw; clear hGw
        clear hX
        have hdr : wr.drew.cell? ⟨R, 38, none⟩ = some (.slice (some ⟨X, 0, none⟩) 5 cap) := by rw [World.cell?_drew]; exact hv
        by_cases h0 : m = 0
        · have h0i : ((m : Nat) : Int) = 0 := by omega
          have h0' := Lib.hid h0; clear h0
          generalize mkB [38] = XB at *
          go_wp2_with fail
          refine hKk.out.mono ?_
          rintro e w1 ⟨rfl, hww⟩
          have hww := hww.symm
          subst hww
          go_wp2_with fail
          refine ⟨⟨hbw'.out, (.inr (.inr (.inr (.inr ⟨rfl, ?_, ?_⟩))))⟩, by simp [intOf]⟩
          · exact congrArg (Value.int .i64) (by have := h0'.out; omega)
          · exact congrArg Value.bool (by have := h0'.out; subst this; simp)
        · have h0i : ¬ ((m : Nat) : Int) = 0 := by omega
          generalize mkB [38] = XB at *
          have hNS : ((l.length + 5 * q + 3 * g + 3 * t : Nat) : Int) ≤ 4611686018427387904 := by omega
          obtain ⟨NS, hNSe⟩ : ∃ NS : Int, NS = ((l.length + 5 * q + 3 * g + 3 * t : Nat) : Int) := ⟨_, rfl⟩
          rw [← hNSe] at hNS ⊢
          have hNSe' := Lib.hid hNSe; clear hNSe
          go_wp2_with fail
          refine hKk.out.mono ?_
          rintro e w1 ⟨rfl, hww⟩
          have hww := hww.symm
          subst hww
          go_wp2_with fail
          go_region
          go_wp2_with fail
          refine ⟨⟨hbw'.out.drew, (.inr (.inr (.inr (.inr ⟨rfl, ?_, ?_⟩))))⟩, by simp [intOf]⟩
          · have h9 := hNSe'.out
            rw [IntWalk.wrap64_in _ (by omega)]
            exact congrArg (Value.int .i64) (by omega)
          · exact congrArg Value.bool (by rw [decide_eq_true (by omega)])
      · have e1 : l.length + 5 * q + 3 * g + 3 * t + 4 * m = (html l).length := by have := hlen'.out; omega
        have e2 : decide (0 < q + g + t + m) = decide (l.length < (html l).length) := by
          have := hlen'.out
          by_cases hz : 0 < q + g + t + m
          · rw [decide_eq_true hz, decide_eq_true (by omega)]
          · rw [decide_eq_false hz, decide_eq_false (by omega)]
        rw [e1, e2]
        have hbw' := Lib.hid hbw; clear hbw
        clear e1 e2 hTw hGw hq hg ht hm
        by_cases hch : l.length < (html l).length
        · obtain ⟨i, hi, hz, hsi, hby⟩ : ∃ i, Tryz.prog.info? 5 = some i ∧ i.zero = some (.int .u8 0) ∧ i.size = 1 ∧ i.bytes = 1 := by
            have := info_u8
            cases h : Tryz.prog.info? 5 with
            | none => rw [h] at this; cases this
            | some i => rw [h] at this; injection this with this; injection this with a b; injection b with b c; exact ⟨i, rfl, a, b, c⟩
          have hNb : (html l).length ≤ 105553116266496 := by have := hbd'.out.2; omega
          have hmk := run_make_row (P := Tryz.prog) 28 5 i (.int .u8 0) Tryz.underlying28 hi hz hsi rfl .i64 .i64 (html l).length (by rw [hby]; omega) (by omega) wr
          clear hi hz hsi hby
          generalize hN : (html l).length = N at *
          have hN' := Lib.hid hN; clear hN
          go_wp2
          have hb0 := hbw'.out.alloc hbw'.out.size (.cells (madeCells #[.int .u8 0] N) 5)
          have hBf : W.heap.size ≤ wr.heap.size := hbw'.out.size
          have hbuf : BufAt wr.heap.size N [] (wr.alloc (.cells (madeCells #[.int .u8 0] N) 5)) := ⟨fun t ht => absurd ht (by simp), fun t ht => by rw [World.cell?_alloc_new, Array.getElem?_eq_getElem (by rw [size_madeCells]; exact ht)]; rfl, fun t => World.frozen?_alloc_new _ _ _ _⟩
          obtain ⟨Bf, hBfe⟩ : ∃ Bf, wr.heap.size = Bf := ⟨_, rfl⟩
          rw [hBfe] at hbuf hBf
          rw [hBfe]
          have hb0' := Lib.hid hb0; clear hb0
          have hbuf' := Lib.hid hbuf; clear hbuf
          clear hBfe hmk
          go_loopw [13, 14] (fun j i W2 => ∃ k : Nat, i = .int .i64 (k : Int) ∧ k ≤ l.length ∧ j = .int .i64 ((html (l.take k)).length : Int) ∧ BufAt Bf N (html (l.take k)) W2 ∧ Below W.heap.size W W2) (fun _ i _ => l.length - (intOf i).toNat)
          case atStart => exact ⟨0, rfl, Nat.zero_le _, by simp [html_nil], hbuf'.out, hb0'.out⟩
          case round =>
            obtain ⟨k, rfl, hkl, rfl, hbf, hbw2⟩ := hrel
            by_cases hk : k < l.length
            · obtain ⟨c, hc⟩ : ∃ c, l[k] = c := ⟨_, rfl⟩
              have hkz : k < LB.size := by rw [hLs]; exact hk
              have hci : LB[k]'hkz = c := by
                have : (mkB l)[k]'(by rw [mkB_size]; exact hk) = c := hc
                rw [← this]; congr 1; exact hL'.out.symm
              have hts := html_take_succ l k hk
              rw [hc] at hts
              have hNk : (html (l.take (k + 1))).length ≤ N := by
                have h1 : html l = html (l.take (k + 1)) ++ html (l.drop (k + 1)) := by rw [← html_append, List.take_append_drop]
                have h2 := hN'.out
                rw [h1, List.length_append] at h2; omega
              rw [hts, List.length_append] at hNk
              obtain ⟨v, hv, hr⟩ := (hT'.out.below hbw2).reps c.toNat c.toNat_lt
              have hc256 : (c.toNat : Int) < 256 := by have := c.toNat_lt; omega
              have hlk := look_html ⟨c.toNat, c.toNat_lt⟩
              have hot := htmlC_other ⟨c.toNat, c.toNat_lt⟩
              rw [show (⟨c.toNat, c.toNat_lt⟩ : Fin 256).val = c.toNat from rfl, show c.toNat.toUInt8 = c by simp] at hlk hot
              have hcl := htmlC_bounds c
              by_cases hsp : c.toNat = 38 ∨ c.toNat = 60 ∨ c.toNat = 62 ∨ c.toNat = 34
              · rw [if_pos hsp] at hlk
                rw [hlk] at hr
                obtain ⟨X, cap, hve, _, _, _, hX⟩ := hr
                have hneq : ∀ w n c, (binOp .neq 28 (.slice (some ⟨X, 0, none⟩) n c) (.slice none 0 0)).run Tryz.prog w = .ok (.bool true) w := fun w n c => Go.run_neq_slice_nil w 28 5 (some ⟨X, 0, none⟩) n c Tryz.underlying28
                have hsl := slice_from Bf N (html (l.take k)).length (by omega)
                have hcpd := copy_at Bf N (html (l.take k)).length X cap (htmlC c) wr.drew (by omega) (fun t ht => by rw [World.cell?_drew]; exact hX t ht) (fun t ht => by rw [World.cell?_drew]; exact hbf.room t ht) (fun t => by rw [World.frozen?_drew]; exact hbf.fz t)
                have hfin := hbf.drew.copy (htmlC c) hNk
                rw [← hts] at hfin
                have hbel := below_setCells hBf ((htmlC c).map fun b => .int .u8 (b.toNat : Int)) (html (l.take k)).length hbw2.drew
                have hlen2 : (html (l.take (k + 1))).length = (html (l.take k)).length + (htmlC c).length := by rw [hts, List.length_append]
                have hfin' := Lib.hid hfin; clear hfin
                have hbel' := Lib.hid hbel; clear hbel
                have hlen2' := Lib.hid hlen2; clear hlen2
                generalize (htmlC c).map (fun b => Value.int .u8 (b.toNat : Int)) = VS at *
                generalize (htmlC c).length = m at *
                generalize (html (l.take k)).length = j at *
                subst hve
                have hbf' := Lib.hid hbf; clear hbf
                have hbw2' := Lib.hid hbw2; clear hbw2
                clear hX hlk hot hts hc hsp
                go_wp2
                go_region
                go_wp2
                refine ⟨⟨k + 1, by go_num, by omega, by rw [hlen2'.out]; go_num, hfin'.out, hbel'.out⟩, by simp [intOf]; omega⟩
              · rw [if_neg hsp] at hlk
                rw [hlk] at hr
                have hvn : v = .slice none 0 0 := hr
                subst hvn
                have hneq : ∀ w, (binOp .neq 28 (.slice none 0 0) (.slice none 0 0)).run Tryz.prog w = .ok (.bool false) w := fun w => Go.run_neq_slice_nil w 28 5 none 0 0 Tryz.underlying28
                rw [hot hsp] at hts hNk
                have hfin := hbf.copy [c] hNk
                rw [← hts] at hfin
                have hbel := below_setCells hBf ([c].map fun b => .int .u8 (b.toNat : Int)) (html (l.take k)).length hbw2
                have hlen2 : (html (l.take (k + 1))).length = (html (l.take k)).length + 1 := by rw [hts, List.length_append]; rfl
                have hfin' := Lib.hid hfin; clear hfin
                have hbel' := Lib.hid hbel; clear hbel
                have hlen2' := Lib.hid hlen2; clear hlen2
                have hjN : (html (l.take k)).length < N := by simp only [List.length_singleton] at hNk; omega
                obtain ⟨v0, hv0⟩ := Option.isSome_iff_exists.1 (hbf.room _ hjN)
                have hf0 := hbf.fz (html (l.take k)).length
                generalize (html (l.take k)).length = j at *
                have hbf' := Lib.hid hbf; clear hbf
                have hbw2' := Lib.hid hbw2; clear hbw2
                clear hlk hot hts hc hsp hr
                go_wp2
                refine ⟨⟨k + 1, by go_num, by omega, by rw [hlen2'.out]; go_num, hfin'.out, hbel'.out⟩, by simp [intOf]; omega⟩
            · have hke : k = l.length := by omega
              have hall2 : l.take k = l := by rw [hke, List.take_length]
              rw [hall2] at hbf ⊢
              have hcv := run_convert_bytes_back (P := Tryz.prog) wr 28 9 5 ⟨Bf, 0, none⟩ N (html l) Tryz.underlying28 Tryz.underlying5 Tryz.underlying9 (fun j hj => by rw [Lib.add_plain, Nat.zero_add]; exact hbf.cells j hj)
              rw [hN'.out] at hcv
              have hcv : (convert 28 9 (.slice (some ⟨Bf, 0, none⟩) N N)).run Tryz.prog wr = .ok (.string (mkB (html l))) wr := hcv
              rw [hke, hN'.out]
              have hbf' := Lib.hid hbf; clear hbf
              have hbw2' := Lib.hid hbw2; clear hbw2
              clear hke hall2 hk hkl
              go_wp2
              go_ret
              exact ⟨rfl, hbw2'.out⟩
        · have hsm : html l = l := hsame'.out (by have := hbd'.out.1; omega)
          have hsm' := Lib.hid hsm; clear hsm
          generalize (html l).length = N at *
          go_wp2
          go_ret
          refine ⟨?_, hbw'.out⟩
          rw [hsm'.out, hL'.out]; rfl
  · generalize hL : mkB l = LB at *
    have hL' := Lib.hid hL; clear hL
    have hT' := Lib.hid hT; clear hT
    have hlen' := Lib.hid hlen; clear hlen
    have hsame' := Lib.hid hsame; clear hsame
    have hbd' := Lib.hid hbd; clear hbd
    go_enter Tryz.func243, Tryz.ntmps243
    go_wp2
    go_loopw [5, 6, 10] (fun ns an i wr => ∃ k : Nat, i = .int .i64 (k : Int) ∧ k ≤ l.length ∧ ns = .int .i64 (((html (l.take k)).length + (l.length - k) : Nat) : Int) ∧ an = .bool (decide (k < (html (l.take k)).length)) ∧ Below W.heap.size W wr) (fun _ _ i _ => l.length - (intOf i).toNat)
    case atStart => exact ⟨0, rfl, Nat.zero_le _, by simp [html_nil], by simp [html_nil], Below.refl _ W⟩
    case round =>
      obtain ⟨k, rfl, hkl, rfl, rfl, hbw⟩ := hrel
      by_cases hk : k < l.length
      · obtain ⟨c, hc⟩ : ∃ c, l[k] = c := ⟨_, rfl⟩
        have hkz : k < LB.size := by rw [hLs]; exact hk
        have hci : LB[k]'hkz = c := by
          have : (mkB l)[k]'(by rw [mkB_size]; exact hk) = c := hc
          rw [← this]; congr 1; exact hL'.out.symm
        have hts := html_take_succ l k hk
        rw [hc] at hts
        have hbk := html_bounds (l.take k)
        have htk : (l.take k).length = k := by rw [List.length_take]; omega
        rw [htk] at hbk
        obtain ⟨v, hv, hr⟩ := (hT'.out.below hbw).reps c.toNat c.toNat_lt
        have hc256 : (c.toNat : Int) < 256 := by have := c.toNat_lt; omega
        have hlk := look_html ⟨c.toNat, c.toNat_lt⟩
        have hot := htmlC_other ⟨c.toNat, c.toNat_lt⟩
        rw [show (⟨c.toNat, c.toNat_lt⟩ : Fin 256).val = c.toNat from rfl, show c.toNat.toUInt8 = c by simp] at hlk hot
        by_cases hsp : c.toNat = 38 ∨ c.toNat = 60 ∨ c.toNat = 62 ∨ c.toNat = 34
        · rw [if_pos hsp] at hlk
          rw [hlk] at hr
          obtain ⟨X, cap, hve, _, _, _, hX⟩ := hr
          obtain ⟨h1, h6⟩ := htmlC_bounds c
          have h2 : 2 ≤ (htmlC c).length := by
            rw [htmlC_len]
            rcases hsp with h | h | h | h
            · have : c = 38 := UInt8.toNat_inj.1 h
              subst this; decide
            · have : c = 60 := UInt8.toNat_inj.1 h
              subst this; decide
            · have : c = 62 := UInt8.toNat_inj.1 h
              subst this; decide
            · have : c = 34 := UInt8.toNat_inj.1 h
              subst this; decide
          have hneq : ∀ w n c, (binOp .neq 28 (.slice (some ⟨X, 0, none⟩) n c) (.slice none 0 0)).run Tryz.prog w = .ok (.bool true) w := fun w n c => Go.run_neq_slice_nil w 28 5 (some ⟨X, 0, none⟩) n c Tryz.underlying28
          have hnew : (html (l.take (k + 1))).length = (html (l.take k)).length + (htmlC c).length := by rw [hts, List.length_append]
          generalize (htmlC c).length = m at *
          subst hve
          have hbw' := Lib.hid hbw; clear hbw
          have hnew' := Lib.hid hnew; clear hnew
          clear hts hc hot hX hsp hlk htk
          generalize hN : (html (l.take k)).length = N at *
          have hb1 : ((N + (l.length - k) : Nat) : Int) ≤ 9223372036854775807 - 10 := by omega
          obtain ⟨ns, hns⟩ : ∃ ns : Int, ns = ((N + (l.length - k) : Nat) : Int) := ⟨_, rfl⟩
          rw [← hns] at hb1 ⊢
          have hns' := Lib.hid hns; clear hns
          go_wp2
          refine ⟨⟨k + 1, by go_num, by omega, ?_, ?_, hbw'.out⟩, by simp [intOf]; omega⟩
          · have h9 := hns'.out
            rw [hnew'.out, IntWalk.wrap64_in _ (by omega)]; exact congrArg (Value.int .i64) (by omega)
          · rw [hnew'.out, decide_eq_true (by omega)]
        · rw [if_neg hsp] at hlk
          rw [hlk] at hr
          have hvn : v = .slice none 0 0 := hr
          subst hvn
          have hneq : ∀ w, (binOp .neq 28 (.slice none 0 0) (.slice none 0 0)).run Tryz.prog w = .ok (.bool false) w := fun w => Go.run_neq_slice_nil w 28 5 none 0 0 Tryz.underlying28
          have hnew : (html (l.take (k + 1))).length = (html (l.take k)).length + 1 := by rw [hts, hot hsp]; simp
          have hbw' := Lib.hid hbw; clear hbw
          have hnew' := Lib.hid hnew; clear hnew
          clear hts hc hot hr hsp hlk htk
          generalize hN : (html (l.take k)).length = N at *
          have hcast : ((N + (l.length - k) : Nat) : Int) = ((N + 1 + (l.length - (k + 1)) : Nat) : Int) := by omega
          have hcast' := Lib.hid hcast; clear hcast
          generalize ((N + (l.length - k) : Nat) : Int) = ns at *
          go_wp2
          refine ⟨⟨k + 1, by go_num, by omega, ?_, ?_, hbw'.out⟩, by simp [intOf]; omega⟩
          · rw [hnew'.out, ← hcast'.out]
          · rw [hnew'.out]; simp
      · have hke : k = l.length := by omega
        have hall : l.take k = l := by rw [hke, List.take_length]
        rw [hall, hke, Nat.sub_self, Nat.add_zero]
        clear hke hk hkl
        have hbw' := Lib.hid hbw; clear hbw
        by_cases hch : l.length < (html l).length
        · obtain ⟨i, hi, hz, hsi, hby⟩ : ∃ i, Tryz.prog.info? 5 = some i ∧ i.zero = some (.int .u8 0) ∧ i.size = 1 ∧ i.bytes = 1 := by
            have := info_u8
            cases h : Tryz.prog.info? 5 with
            | none => rw [h] at this; cases this
            | some i => rw [h] at this; injection this with this; injection this with a b; injection b with b c; exact ⟨i, rfl, a, b, c⟩
          have hNb : (html l).length ≤ 105553116266496 := by have := hbd'.out.2; omega
          have hmk := run_make_row (P := Tryz.prog) 28 5 i (.int .u8 0) Tryz.underlying28 hi hz hsi rfl .i64 .i64 (html l).length (by rw [hby]; omega) (by omega) wr
          clear hi hz hsi hby
          generalize hN : (html l).length = N at *
          have hN' := Lib.hid hN; clear hN
          go_wp2
          have hb0 := hbw'.out.alloc hbw'.out.size (.cells (madeCells #[.int .u8 0] N) 5)
          have hBf : W.heap.size ≤ wr.heap.size := hbw'.out.size
          have hbuf : BufAt wr.heap.size N [] (wr.alloc (.cells (madeCells #[.int .u8 0] N) 5)) := ⟨fun t ht => absurd ht (by simp), fun t ht => by rw [World.cell?_alloc_new, Array.getElem?_eq_getElem (by rw [size_madeCells]; exact ht)]; rfl, fun t => World.frozen?_alloc_new _ _ _ _⟩
          obtain ⟨Bf, hBfe⟩ : ∃ Bf, wr.heap.size = Bf := ⟨_, rfl⟩
          rw [hBfe] at hbuf hBf
          rw [hBfe]
          have hb0' := Lib.hid hb0; clear hb0
          have hbuf' := Lib.hid hbuf; clear hbuf
          clear hBfe hmk
          go_loopw [13, 14] (fun j i W2 => ∃ k : Nat, i = .int .i64 (k : Int) ∧ k ≤ l.length ∧ j = .int .i64 ((html (l.take k)).length : Int) ∧ BufAt Bf N (html (l.take k)) W2 ∧ Below W.heap.size W W2) (fun _ i _ => l.length - (intOf i).toNat)
          case atStart => exact ⟨0, rfl, Nat.zero_le _, by simp [html_nil], hbuf'.out, hb0'.out⟩
          case round =>
            obtain ⟨k, rfl, hkl, rfl, hbf, hbw2⟩ := hrel
            by_cases hk : k < l.length
            · obtain ⟨c, hc⟩ : ∃ c, l[k] = c := ⟨_, rfl⟩
              have hkz : k < LB.size := by rw [hLs]; exact hk
              have hci : LB[k]'hkz = c := by
                have : (mkB l)[k]'(by rw [mkB_size]; exact hk) = c := hc
                rw [← this]; congr 1; exact hL'.out.symm
              have hts := html_take_succ l k hk
              rw [hc] at hts
              have hNk : (html (l.take (k + 1))).length ≤ N := by
                have h1 : html l = html (l.take (k + 1)) ++ html (l.drop (k + 1)) := by rw [← html_append, List.take_append_drop]
                have h2 := hN'.out
                rw [h1, List.length_append] at h2; omega
              rw [hts, List.length_append] at hNk
              obtain ⟨v, hv, hr⟩ := (hT'.out.below hbw2).reps c.toNat c.toNat_lt
              have hc256 : (c.toNat : Int) < 256 := by have := c.toNat_lt; omega
              have hlk := look_html ⟨c.toNat, c.toNat_lt⟩
              have hot := htmlC_other ⟨c.toNat, c.toNat_lt⟩
              rw [show (⟨c.toNat, c.toNat_lt⟩ : Fin 256).val = c.toNat from rfl, show c.toNat.toUInt8 = c by simp] at hlk hot
              have hcl := htmlC_bounds c
              by_cases hsp : c.toNat = 38 ∨ c.toNat = 60 ∨ c.toNat = 62 ∨ c.toNat = 34
              · rw [if_pos hsp] at hlk
                rw [hlk] at hr
                obtain ⟨X, cap, hve, _, _, _, hX⟩ := hr
                have hneq : ∀ w n c, (binOp .neq 28 (.slice (some ⟨X, 0, none⟩) n c) (.slice none 0 0)).run Tryz.prog w = .ok (.bool true) w := fun w n c => Go.run_neq_slice_nil w 28 5 (some ⟨X, 0, none⟩) n c Tryz.underlying28
                have hsl := slice_from Bf N (html (l.take k)).length (by omega)
                have hcpd := copy_at Bf N (html (l.take k)).length X cap (htmlC c) wr.drew (by omega) (fun t ht => by rw [World.cell?_drew]; exact hX t ht) (fun t ht => by rw [World.cell?_drew]; exact hbf.room t ht) (fun t => by rw [World.frozen?_drew]; exact hbf.fz t)
                have hfin := hbf.drew.copy (htmlC c) hNk
                rw [← hts] at hfin
                have hbel := below_setCells hBf ((htmlC c).map fun b => .int .u8 (b.toNat : Int)) (html (l.take k)).length hbw2.drew
                have hlen2 : (html (l.take (k + 1))).length = (html (l.take k)).length + (htmlC c).length := by rw [hts, List.length_append]
                have hfin' := Lib.hid hfin; clear hfin
                have hbel' := Lib.hid hbel; clear hbel
                have hlen2' := Lib.hid hlen2; clear hlen2
                generalize (htmlC c).map (fun b => Value.int .u8 (b.toNat : Int)) = VS at *
                generalize (htmlC c).length = m at *
                generalize (html (l.take k)).length = j at *
                subst hve
                have hbf' := Lib.hid hbf; clear hbf
                have hbw2' := Lib.hid hbw2; clear hbw2
                clear hX hlk hot hts hc hsp
                go_wp2
                go_region
                go_wp2
                refine ⟨⟨k + 1, by go_num, by omega, by rw [hlen2'.out]; go_num, hfin'.out, hbel'.out⟩, by simp [intOf]; omega⟩
              · rw [if_neg hsp] at hlk
                rw [hlk] at hr
                have hvn : v = .slice none 0 0 := hr
                subst hvn
                have hneq : ∀ w, (binOp .neq 28 (.slice none 0 0) (.slice none 0 0)).run Tryz.prog w = .ok (.bool false) w := fun w => Go.run_neq_slice_nil w 28 5 none 0 0 Tryz.underlying28
                rw [hot hsp] at hts hNk
                have hfin := hbf.copy [c] hNk
                rw [← hts] at hfin
                have hbel := below_setCells hBf ([c].map fun b => .int .u8 (b.toNat : Int)) (html (l.take k)).length hbw2
                have hlen2 : (html (l.take (k + 1))).length = (html (l.take k)).length + 1 := by rw [hts, List.length_append]; rfl
                have hfin' := Lib.hid hfin; clear hfin
                have hbel' := Lib.hid hbel; clear hbel
                have hlen2' := Lib.hid hlen2; clear hlen2
                have hjN : (html (l.take k)).length < N := by simp only [List.length_singleton] at hNk; omega
                obtain ⟨v0, hv0⟩ := Option.isSome_iff_exists.1 (hbf.room _ hjN)
                have hf0 := hbf.fz (html (l.take k)).length
                generalize (html (l.take k)).length = j at *
                have hbf' := Lib.hid hbf; clear hbf
                have hbw2' := Lib.hid hbw2; clear hbw2
                clear hlk hot hts hc hsp hr
                go_wp2
                refine ⟨⟨k + 1, by go_num, by omega, by rw [hlen2'.out]; go_num, hfin'.out, hbel'.out⟩, by simp [intOf]; omega⟩
            · have hke : k = l.length := by omega
              have hall2 : l.take k = l := by rw [hke, List.take_length]
              rw [hall2] at hbf ⊢
              have hcv := run_convert_bytes_back (P := Tryz.prog) wr 28 9 5 ⟨Bf, 0, none⟩ N (html l) Tryz.underlying28 Tryz.underlying5 Tryz.underlying9 (fun j hj => by rw [Lib.add_plain, Nat.zero_add]; exact hbf.cells j hj)
              rw [hN'.out] at hcv
              have hcv : (convert 28 9 (.slice (some ⟨Bf, 0, none⟩) N N)).run Tryz.prog wr = .ok (.string (mkB (html l))) wr := hcv
              rw [hke, hN'.out]
              have hbf' := Lib.hid hbf; clear hbf
              have hbw2' := Lib.hid hbw2; clear hbw2
              clear hke hall2 hk hkl
              go_wp2
              go_ret
              exact ⟨rfl, hbw2'.out⟩
        · have hsm : html l = l := hsame'.out (by have := hbd'.out.1; omega)
          have hsm' := Lib.hid hsm; clear hsm
          generalize (html l).length = N at *
          go_wp2
          go_ret
          refine ⟨?_, hbw'.out⟩
          rw [hsm'.out, hL'.out]; rfl
end Go.Proofs.YthdlibgiejpjeaaGreatDoor.Given

/- The contract of escape.HTML. -/
namespace Go.Proofs.YthdlibgiejpjeaaGreatDoor.Given
open Go.RowKit Go.Proofs.YthdlibgiejpjeaaGreatDoor Go.Proofs.YthdlibgiejpjeaaGreatDoorW.PrintWords Go.Proofs.YthdlibgiejpjeaaGreatDoor.Spec

set_option maxHeartbeats 4000000 in
set_option maxRecDepth 1000000 in
theorem replReplace (B p A c : Nat) (l : List UInt8) (w : World) (hG : GW w) (h : NewRep B p A c pairs w) (hBw : B ≤ w.heap.size) (hs : l.length ≤ 17592186044416) (w0 : World) (hw0 : B = w0.heap.size) (hG0 : GW w0) (hb0 : Below B w0 w) :
    Calls Tryz.prog 51 #[.pointer (some ⟨p, 0, none⟩), .string (mkB l)] w fun e w' => e = .returned (.string (mkB (html l))) ∧ Below B w w' := by
  have hmf : ∀ (fn : Fn) (first cap : Array Value) (w : World), (Instr.makeFunc fn first cap).run Tryz.prog w = .ok (.func fn first cap) w := fun _ _ _ _ => rfl
  have hd := Lib.hid (doOnce B p A c w h hBw)
  have hrep := Lib.hid (fun (w1 : World) (hb1 : Below B w w1) (R T : Nat) (hT : RepT w.heap.size R T all4 w1) => bsReplace w.heap.size R T l w1 (hG0.below (by subst hw0; exact hb0.trans hb1)) hT hs)
  obtain ⟨LB, hL⟩ : ∃ LB, mkB l = LB := ⟨_, rfl⟩
  rw [hL] at hrep ⊢
  clear hL
  have h' := Lib.hid h; clear h
  clear hG hG0 hb0 hw0
  go_enter Tryz.func51, Tryz.ntmps51
  go_wp2_with fail
  refine hd.out.mono ?_
  rintro e w1 ⟨rfl, R, T, hT, hb1, h3⟩
  have hr := Lib.hid (hrep.out w1 hb1 R T hT)
  have hb1' := Lib.hid hb1; clear hb1 
  clear hT
  go_wp2_with fail
  refine hr.out.mono ?_
  rintro e w2 ⟨rfl, hb2⟩
  go_wp2_with fail
  go_ret
  exact ⟨rfl, hb1'.out.trans (hb2.mono (Nat.le_trans hBw hb1'.out.size))⟩

set_option maxHeartbeats 4000000 in
set_option maxRecDepth 1000000 in
theorem html_calls (l : List UInt8) (w : World) (hG : GW w) (hs : l.length ≤ 17592186044416) :
    Calls Tryz.prog 21 #[.string (mkB l)] w fun e w' => e = .returned (.string (mkB (html l))) ∧ Below w.heap.size w w' := by
  have hba := (Below.refl _ w).alloc (Nat.le_refl _) (.cells #[.string ⟨#[38]⟩, .string ⟨#[38, 97, 109, 112, 59]⟩, .string ⟨#[60]⟩, .string ⟨#[38, 108, 116, 59]⟩, .string ⟨#[62]⟩, .string ⟨#[38, 103, 116, 59]⟩, .string ⟨#[34]⟩, .string ⟨#[38, 113, 117, 111, 116, 59]⟩] 9)
  have hn := Lib.hid (newReplacer w.heap.size pairs rfl (w.alloc (.cells #[.string ⟨#[38]⟩, .string ⟨#[38, 97, 109, 112, 59]⟩, .string ⟨#[60]⟩, .string ⟨#[38, 108, 116, 59]⟩, .string ⟨#[62]⟩, .string ⟨#[38, 103, 116, 59]⟩, .string ⟨#[34]⟩, .string ⟨#[38, 113, 117, 111, 116, 59]⟩] 9)) (fun j u hj => by rw [World.cell?_alloc_new]; simpa [pairs] using hj) (by decide))
  have hr := Lib.hid (fun (w1 : World) (B p A c : Nat) (h : NewRep B p A c pairs w1) (hBe : B = (w.alloc (.cells #[.string ⟨#[38]⟩, .string ⟨#[38, 97, 109, 112, 59]⟩, .string ⟨#[60]⟩, .string ⟨#[38, 108, 116, 59]⟩, .string ⟨#[62]⟩, .string ⟨#[38, 103, 116, 59]⟩, .string ⟨#[34]⟩, .string ⟨#[38, 113, 117, 111, 116, 59]⟩] 9)).heap.size) (hb : Below B (w.alloc (.cells #[.string ⟨#[38]⟩, .string ⟨#[38, 97, 109, 112, 59]⟩, .string ⟨#[60]⟩, .string ⟨#[38, 108, 116, 59]⟩, .string ⟨#[62]⟩, .string ⟨#[38, 103, 116, 59]⟩, .string ⟨#[34]⟩, .string ⟨#[38, 113, 117, 111, 116, 59]⟩] 9)) w1) =>
    replReplace B p A c l w1 ((hG.below hba).below (by rw [← hBe]; exact hb)) h (by rw [hBe]; rw [hBe] at hb; exact hb.size) hs _ hBe (hG.below hba) hb)
  obtain ⟨LB, hL⟩ : ∃ LB, mkB l = LB := ⟨_, rfl⟩
  rw [hL] at hr ⊢
  clear hL hG
  have hba' := Lib.hid hba; clear hba
  go_enter Tryz.func21, Tryz.ntmps21
  go_wp2_with fail
  refine hn.out.mono ?_
  rintro e w1 ⟨p, A, c, rfl, hN, hb1⟩
  have hr2 := Lib.hid (hr.out w1 _ p A c hN rfl hb1)
  have hb1' := Lib.hid hb1; clear hb1
  clear hN
  go_wp2_with fail
  refine hr2.out.mono ?_
  rintro e w2 ⟨rfl, hb2⟩
  go_wp2_with fail
  go_ret
  exact ⟨rfl, (hba'.out.trans (hb1'.out.mono hba'.out.size)).trans (hb2.mono hba'.out.size)⟩

theorem escape_HTML.calls (a0 : ByteArray) (r : ByteArray) (w : World) (hG : GW w) (h : escape_HTML.f a0 = some r) :
    Calls Tryz.prog 21 #[.string a0] w fun e w' => e = .returned (.string r) ∧ Below w.heap.size w w' := by
  unfold escape_HTML.f at h
  split at h
  · rename_i hs
    injection h with h
    subst h
    exact html_calls a0.data.toList w hG hs
  · cases h
end Go.Proofs.YthdlibgiejpjeaaGreatDoor.Given

