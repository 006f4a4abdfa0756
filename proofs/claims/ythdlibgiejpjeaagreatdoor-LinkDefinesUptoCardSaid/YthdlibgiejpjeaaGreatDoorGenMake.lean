import Derived.Test.YthdlibgiejpjeaaGreatDoorOnceM
import Derived.Test.YthdlibgiejpjeaaGreatDoorFoldPure
import Derived.Laws.Rows
import Derived.Deep.RegionWith
/- strings.NewReplacer of four strings, and strings.trieNode.add as the generic replacer of runes.Fold asks it. -/
set_option linter.unusedVariables false
set_option linter.unusedSimpArgs false
namespace Go.Proofs.YthdlibgiejpjeaaGreatDoor.Gen
open Go Go.RowKit Go.Proofs.YthdlibgiejpjeaaGreatDoor Go.Proofs.YthdlibgiejpjeaaGreatDoorW.PrintWords Go.Proofs.YthdlibgiejpjeaaGreatDoor.Spec Go.Proofs.YthdlibgiejpjeaaGreatDoor.Given

/-- A new strings.Replacer at p, whose four strings lie at A. -/
structure NewRep4 (B p A c : Nat) (ss : List Value) (w : World) : Prop where
  pB : B ≤ p
  AB : B ≤ A
  ne : A ≠ p
  done : w.cell? ⟨p, 0, none⟩ = some (.int .u32 0)
  mu : w.cell? ⟨p, 1, none⟩ = some (.int .i32 0)
  sema : w.cell? ⟨p, 2, none⟩ = some (.int .u32 0)
  r : w.cell? ⟨p, 3, none⟩ = some .nilIface
  oldnew : w.cell? ⟨p, 4, none⟩ = some (.slice (some ⟨A, 0, none⟩) 4 c)
  fz : ∀ o, w.frozen? ⟨p, o, none⟩ = false
  cells : ∀ j u, ss[j]? = some u → w.cell? ⟨A, j, none⟩ = some u

set_option maxHeartbeats 4000000 in
set_option maxRecDepth 1000000 in
theorem newReplacer4 (b : Nat) (ss : List Value) (h8 : ss.length = 4) (w : World) (hc : ∀ j u, ss[j]? = some u → w.cell? ⟨b, j, none⟩ = some u) (h1 : ∀ u ∈ ss, u.oneCell' = true) :
    Calls Tryz.prog 50 #[.slice (some ⟨b, 0, none⟩) 4 4] w fun e w' => ∃ p A c, e = .returned (.pointer (some ⟨p, 0, none⟩)) ∧ NewRep4 w.heap.size p A c ss w' ∧ Below w.heap.size w w' := by
  obtain ⟨i, hi, hz, hs, hb⟩ : ∃ i, Tryz.prog.info? 9 = some i ∧ i.zero = some (.string ⟨#[]⟩) ∧ i.size = 1 ∧ i.bytes = 16 := by
    have := info_str
    cases h : Tryz.prog.info? 9 with
    | none => rw [h] at this; cases this
    | some i => rw [h] at this; injection this with this; injection this with a b; injection b with b c; exact ⟨i, rfl, a, b, c⟩
  go_enter Tryz.func50, Tryz.ntmps50
  go_wp2_with (at_builtin; go_must (refine wpList_append_grows _ rfl _ _ _ rfl 9 i _ 1 16 Tryz.underlying42 hi hz hs hb rfl (by omega) none 0 0 [] rfl (fun _ => ⟨rfl, rfl⟩) rfl (fun _ h => by cases h) ⟨b, 0, none⟩ 4 4 ss rfl (by rw [h8]) (fun j u h => by rw [Lib.add_plain, Nat.zero_add]; exact hc j u h) h1 (by omega) (by unfold maxLen; omega) (by omega) ?_; intro v' w1 hrow hgr; obtain ⟨g, cap, rfl⟩ := ownsRow_succ (k := 3) hrow))
  go_ret
  have hlt := hrow.lt g rfl
  refine ⟨w1.heap.size, g, cap, rfl, ⟨?_, hlt.1, ?_, ?_, ?_, ?_, ?_, ?_, ?_, ?_⟩, ?_⟩
  · omega
  · omega
  · rw [World.cell?_alloc_new]; rfl
  · rw [World.cell?_alloc_new]; rfl
  · rw [World.cell?_alloc_new]; rfl
  · rw [World.cell?_alloc_new]; rfl
  · rw [World.cell?_alloc_new]; rfl
  · intro o; exact World.frozen?_alloc_new _ _ _ _
  · intro j u hj
    rw [World.cell?_alloc_lt _ _ _ (show (⟨g, j, none⟩ : Addr).block < w1.heap.size from hlt.2)]
    have hjl : j < 4 := by rw [← h8]; exact (List.getElem?_eq_some_iff.1 hj).1
    exact (hrow.cellAt j (by omega)).trans (by simpa using hj)
  · exact (Below.grown (Below.refl _ w) hgr (Nat.le_refl _) (fun k h => by cases h)).alloc (by omega) _

/-! the nodes of the trie -/
set_option maxHeartbeats 4000000 in
set_option maxRecDepth 1000000 in
theorem add_end (X : Nat) (val : ByteArray) (prio : Int) (r : Addr) (w : World) (h0 : w.cell? ⟨X, 0, none⟩ = some (.string ⟨#[]⟩)) (h1 : w.cell? ⟨X, 1, none⟩ = some (.int .i64 0)) (hf : ∀ o, w.frozen? ⟨X, o, none⟩ = false) :
    Calls Tryz.prog 190 #[.pointer (some ⟨X, 0, none⟩), .string ⟨#[]⟩, .string val, .int .i64 prio, .pointer (some r)] w fun e w' => e = .returned (.tuple #[]) ∧ w' = (w.setCell ⟨X, 0, none⟩ (.string val)).setCell ⟨X, 1, none⟩ (.int .i64 prio) := by
  have f0 := hf 0
  have f1 := hf 1
  have h1' : (w.setCell ⟨X, 0, none⟩ (.string val)).cell? ⟨X, 1, none⟩ = some (.int .i64 0) := (World.cell?_setCell_other _ _ _ _ (by simp)).trans h1
  have he : (⟨#[]⟩ : ByteArray).toList.isEmpty = true := by rw [Lib.toList_data]; rfl
  clear hf
  go_enter Tryz.func190, Tryz.ntmps190
  go_wp2_with fail
  first | go_end0 | (simp only [Exit.inBlock, Exit.then]; refine bodyPost_ret (results_none rfl _ _ _) rfl ?_) | refine bodyPost_ret (results_none rfl _ _ _) rfl ?_
  exact ⟨rfl, rfl⟩
end Go.Proofs.YthdlibgiejpjeaaGreatDoor.Gen

/- strings.makeGenericReplacer of runes.Fold's four strings: the nodes of its trie. -/
set_option linter.unusedVariables false
set_option linter.unusedSimpArgs false
namespace Go.Proofs.YthdlibgiejpjeaaGreatDoor.Gen
open Go Go.RowKit Go.Proofs.YthdlibgiejpjeaaGreatDoor Go.Proofs.YthdlibgiejpjeaaGreatDoorW.PrintWords Go.Proofs.YthdlibgiejpjeaaGreatDoor.Spec Go.Proofs.YthdlibgiejpjeaaGreatDoor.Given

def node0 : Obj := .cells #[.string ⟨#[]⟩, .int .i64 0, .string ⟨#[]⟩, .pointer none, .slice none 0 0] 198

/-- The world behind 'add' of a key that is not empty at a fresh node. -/
def addW (X : Nat) (key val : ByteArray) (prio : Int) (w : World) : World :=
  ((((w.setCell ⟨X, 2, none⟩ (.string key)).setCell ⟨X, 3, none⟩ (.pointer (some ⟨w.heap.size, 0, none⟩))).alloc node0).setCell ⟨w.heap.size, 0, none⟩ (.string val)).setCell ⟨w.heap.size, 1, none⟩ (.int .i64 prio)

set_option maxHeartbeats 4000000 in
set_option maxRecDepth 1000000 in
theorem add_key (X : Nat) (key val : ByteArray) (hk : key.toList.isEmpty = false) (prio : Int) (r : Addr) (w : World) (h2 : w.cell? ⟨X, 2, none⟩ = some (.string ⟨#[]⟩)) (h3 : w.cell? ⟨X, 3, none⟩ = some (.pointer none))
    (h4 : w.cell? ⟨X, 4, none⟩ = some (.slice none 0 0)) (hf : ∀ o, w.frozen? ⟨X, o, none⟩ = false) :
    Calls Tryz.prog 190 #[.pointer (some ⟨X, 0, none⟩), .string key, .string val, .int .i64 prio, .pointer (some r)] w fun e w' => e = .returned (.tuple #[]) ∧ w' = addW X key val prio w := by
  have f2 := hf 2
  have f3 := hf 3
  have hX : X < w.heap.size := lt_of_cell h2
  obtain ⟨w1, hw1⟩ : ∃ w1, (w.setCell ⟨X, 2, none⟩ (.string key)).setCell ⟨X, 3, none⟩ (.pointer (some ⟨w.heap.size, 0, none⟩)) = w1 := ⟨_, rfl⟩
  have hsz : w1.heap.size = w.heap.size := by rw [← hw1]; simp [World.setCell]
  have he : (⟨#[]⟩ : ByteArray).toList.isEmpty = true := by rw [Lib.toList_data]; rfl
  have hin : ∀ o, (w1.alloc node0).cell? ⟨w.heap.size, o, none⟩ = #[Value.string ⟨#[]⟩, .int .i64 0, .string ⟨#[]⟩, .pointer none, .slice none 0 0][o]? := fun o => by
    have := World.cell?_alloc_new w1 #[Value.string ⟨#[]⟩, .int .i64 0, .string ⟨#[]⟩, .pointer none, .slice none 0 0] 198 o
    rw [hsz] at this; exact this
  have hc := add_end w.heap.size val prio r (w1.alloc node0) (hin 0) (hin 1)
    (fun o => by
      have := World.frozen?_alloc_new w1 #[Value.string ⟨#[]⟩, .int .i64 0, .string ⟨#[]⟩, .pointer none, .slice none 0 0] 198 o
      rw [hsz] at this; exact this)
  have hc' := Lib.hid hc; clear hc hin
  rw [← hw1] at hc'
  have hneq : ∀ w, (binOp .neq 196 (.slice none 0 0) (.slice none 0 0)).run Tryz.prog w = .ok (.bool false) w := fun w => Go.run_neq_slice_nil w 196 195 none 0 0 Tryz.underlying196
  clear hf hw1 hsz
  go_enter Tryz.func190, Tryz.ntmps190
  go_wp2_with fail
  refine hc'.out.mono ?_
  rintro e w2 ⟨rfl, rfl⟩
  go_wp2_with fail
  first | go_end0 | (simp only [Exit.inBlock, Exit.then]; refine bodyPost_ret (results_none rfl _ _ _) rfl ?_) | refine bodyPost_ret (results_none rfl _ _ _) rfl ?_
  exact ⟨rfl, rfl⟩

/-- The world behind 'add' of a key at the root, whose table lies at T. -/
def rootW (T m : Nat) (key val : ByteArray) (prio : Int) (w : World) : World :=
  addW w.heap.size key val prio ((w.setCell ⟨T, m, none⟩ (.pointer (some ⟨w.heap.size, 0, none⟩))).alloc node0).drew.drew
set_option maxHeartbeats 4000000 in
set_option maxRecDepth 1000000 in
theorem add_root (R T m c : Nat) (key key1 val : ByteArray) (hk : key.toList.isEmpty = false) (hk1 : key1.toList.isEmpty = false) (prio : Int) (w : World) (hm : m < 5) (hc : c < 256)
    (hix : ∀ w, (Instr.index 9 (.string key) (.int .i64 0)).run Tryz.prog w = .ok (.int .u8 (c : Int)) w)
    (hsl : ∀ w, (Instr.slice 9 (.string key) (some (.int .i64 1)) none none).run Tryz.prog w = .ok (.string key1) w)
    (h2 : w.cell? ⟨R, 2, none⟩ = some (.string ⟨#[]⟩)) (h4 : w.cell? ⟨R, 4, none⟩ = some (.slice (some ⟨T, 0, none⟩) 5 5)) (hmap : w.cell? ⟨R, 6 + c, none⟩ = some (.int .u8 (m : Int)))
    (ht : w.cell? ⟨T, m, none⟩ = some (.pointer none)) (hf : w.frozen? ⟨T, m, none⟩ = false) (hRT : R ≠ T) :
    Calls Tryz.prog 190 #[.pointer (some ⟨R, 0, none⟩), .string key, .string val, .int .i64 prio, .pointer (some ⟨R, 0, none⟩)] w fun e w' => e = .returned (.tuple #[]) ∧ w' = rootW T m key1 val prio w := by
  have hX : T < w.heap.size := lt_of_cell ht
  have hR : R < w.heap.size := lt_of_cell h2
  obtain ⟨w1, hw1⟩ : ∃ w1, w.setCell ⟨T, m, none⟩ (.pointer (some ⟨w.heap.size, 0, none⟩)) = w1 := ⟨_, rfl⟩
  have hsz : w1.heap.size = w.heap.size := by rw [← hw1]; simp [World.setCell]
  have hin : ∀ o, (w1.alloc node0).cell? ⟨w.heap.size, o, none⟩ = #[Value.string ⟨#[]⟩, .int .i64 0, .string ⟨#[]⟩, .pointer none, .slice none 0 0][o]? := fun o => by
    have := World.cell?_alloc_new w1 #[Value.string ⟨#[]⟩, .int .i64 0, .string ⟨#[]⟩, .pointer none, .slice none 0 0] 198 o
    rw [hsz] at this; exact this
  have hca : Calls Tryz.prog 190 #[.pointer (some ⟨w.heap.size, 0, none⟩), .string key1, .string val, .int .i64 prio, .pointer (some ⟨R, 0, none⟩)] (w1.alloc node0).drew.drew fun e w' => e = .returned (.tuple #[]) ∧ w' = addW w.heap.size key1 val prio (w1.alloc node0).drew.drew :=
    add_key w.heap.size key1 val hk1 prio ⟨R, 0, none⟩ (w1.alloc node0).drew.drew (by rw [World.cell?_drew, World.cell?_drew]; exact hin 2) (by rw [World.cell?_drew, World.cell?_drew]; exact hin 3) (by rw [World.cell?_drew, World.cell?_drew]; exact hin 4)
    (fun o => by
      have := World.frozen?_alloc_new w1 #[Value.string ⟨#[]⟩, .int .i64 0, .string ⟨#[]⟩, .pointer none, .slice none 0 0] 198 o
      rw [World.frozen?_drew, World.frozen?_drew, ← hsz]; exact this)
  have hc' := Lib.hid hca; clear hca hin
  rw [← hw1] at hc'
  have hneq : ∀ w, (binOp .neq 196 (.slice (some ⟨T, 0, none⟩) 5 5) (.slice none 0 0)).run Tryz.prog w = .ok (.bool true) w := fun w => Go.run_neq_slice_nil w 196 195 (some ⟨T, 0, none⟩) 5 5 Tryz.underlying196
  clear hw1 hsz
  go_enter Tryz.func190, Tryz.ntmps190
  go_wp2_with fail
  go_region
  go_wp2_with fail
  go_region_with (go_at_call 190; refine hc'.out.mono ?_; rintro e w' ⟨rfl, rfl⟩)
  go_wp2_with fail
  first | go_end0 | (simp only [Exit.inBlock, Exit.then]; refine bodyPost_ret (results_none rfl _ _ _) rfl ?_) | refine bodyPost_ret (results_none rfl _ _ _) rfl ?_
  exact ⟨rfl, rfl⟩
end Go.Proofs.YthdlibgiejpjeaaGreatDoor.Gen

/- An array of 256 bytes, read as a whole out of the middle of a block, and its elements. -/
set_option linter.unusedVariables false
set_option linter.unusedSimpArgs false
namespace Go.Proofs.YthdlibgiejpjeaaGreatDoor.Gen
open Go Go.RowKit Go.Proofs.YthdlibgiejpjeaaGreatDoor

theorem run_loadVar_at {P : Program} (w : World) (a0 : Addr) (ty : TypeId) (cs : List Value) (hc : ∀ j v, cs[j]? = some v → w.cell? (a0.add j) = some v) (d : TypeDesc)
    (hu : P.underlying ty = some d) (hd : (match d with | .struct _ | .array _ _ => true | _ => false) = true) (hi : (P.info? ty).map (·.size) = some cs.length) :
    (loadVar ty a0).run P w = .ok (.agg cs.toArray) w := by
  have hl : (loadCells a0 cs.length).run P w = .ok cs.toArray w := run_loadCells_list (P := P) w a0 cs hc
  cases hq : P.info? ty with
  | none => simp [hq] at hi
  | some i =>
    have hs : i.size = cs.length := by simpa [hq] using hi
    have hagg : (isAgg ty).run P w = .ok true w := by
      unfold isAgg
      rw [Sem.run_bind, run_underlying hu w]
      cases d <;> simp_all
    simp [loadVar, Sem.run_bind, hagg, sizeOf, typeInfo, hq, hs, hl]
theorem wp_load_at {P : Program} {o : Oper} {a : Act} {w : World} {K : Act → World → Prop} {Q : Exit → Act → World → Prop} (ty : TypeId) (x : Operand) (ho : o.op = .load ty x)
    (a0 : Addr) (hx : a.eval x = .pointer (some a0)) (cs : List Value) (hc : ∀ j v, cs[j]? = some v → w.cell? (a0.add j) = some v) (d : TypeDesc)
    (hu : P.underlying ty = some d) (hd : (match d with | .struct _ | .array _ _ => true | _ => false) = true) (hi : (P.info? ty).map (·.size) = some cs.length)
    (h : K (a.put o.dst (.agg cs.toArray)) w) : o.wp P a w K Q := by
  unfold Oper.wp execOp
  simp only [ho, hx, Instr.loadAt, Instr.sureAddr, Sem.run_bind, Sem.run_pure, Result.andThen_ok, run_loadVar_at w a0 ty cs hc d hu hd hi]
  exact h
theorem wpList_load_at {P : Program} {ops : Array Oper} {rest : List Oper} {o : Oper} {a : Act} {w : World} {Q : Exit → Act → World → Prop} (hgd : o.guard = none) (ty : TypeId) (x : Operand) (ho : o.op = .load ty x)
    (a0 : Addr) (hx : a.eval x = .pointer (some a0)) (cs : List Value) (hc : ∀ j v, cs[j]? = some v → w.cell? (a0.add j) = some v) (d : TypeDesc)
    (hu : P.underlying ty = some d) (hd : (match d with | .struct _ | .array _ _ => true | _ => false) = true) (hi : (P.info? ty).map (·.size) = some cs.length)
    (h : wpList P ops Q rest (a.put o.dst (.agg cs.toArray)) w) : wpList P ops Q (o :: rest) a w :=
  wpList_plain hgd fun _ hK => wp_load_at ty x ho a0 hx cs hc d hu hd hi (hK _ _ h)
theorem index_at (cs : List Value) (hl : cs.length = 256) (n : Nat) (hn : n < 256) (v : Value) (hv : cs[n]? = some v) (w : World) : (Instr.index 165 (.agg cs.toArray) (.int .i64 (n : Int))).run Tryz.prog w = .ok v w := by
  have h1 : (0 : Int) ≤ (n : Int) ∧ (n : Int) < ((256 : Nat) : Int) := by omega
  have hagg : (isAgg 5).run Tryz.prog w = .ok false w := by
    unfold isAgg
    rw [Sem.run_bind, run_underlying Tryz.underlying5 w]
    rfl
  have hs : ∀ w, (sizeOf 5).run Tryz.prog w = .ok 1 w := fun w => by
    have := Tryz.sizeOf5 (w := w); exact this
  simp [Instr.index, run_underlying Tryz.underlying165, asIntOf, h1, go_sem, part, hagg, hs, hv]
  intro h; omega
end Go.Proofs.YthdlibgiejpjeaaGreatDoor.Gen

/- strings.makeGenericReplacer of runes.Fold's four strings. -/
set_option linter.unusedVariables false
set_option linter.unusedSimpArgs false
namespace Go.Proofs.YthdlibgiejpjeaaGreatDoor.Gen
open Go Go.RowKit Go.Proofs.YthdlibgiejpjeaaGreatDoor Go.Proofs.YthdlibgiejpjeaaGreatDoorW.PrintWords Go.Proofs.YthdlibgiejpjeaaGreatDoor.Spec Go.Proofs.YthdlibgiejpjeaaGreatDoor.Given

theorem zeroG : Tryz.zeroCells200 = #[.string ⟨#[]⟩, .int .i64 0, .string ⟨#[]⟩, .pointer none, .slice none 0 0, .int .i64 0] ++ Array.replicate 256 (.int .u8 0) := by kernel_rfl
def pairs4 : List Value := [.string ⟨#[195, 159]⟩, .string ⟨#[115, 115]⟩, .string ⟨#[225, 186, 158]⟩, .string ⟨#[115, 115]⟩]
/-- A generic replacer at R under way: its table of bytes is f, its size ts. -/
structure MapT (w0 : World) (R : Nat) (f : Nat → Nat) (ts : Nat) (W : World) : Prop where
  le : w0.heap.size ≤ R
  v0 : W.cell? ⟨R, 0, none⟩ = some (.string ⟨#[]⟩)
  v1 : W.cell? ⟨R, 1, none⟩ = some (.int .i64 0)
  v2 : W.cell? ⟨R, 2, none⟩ = some (.string ⟨#[]⟩)
  v3 : W.cell? ⟨R, 3, none⟩ = some (.pointer none)
  v4 : W.cell? ⟨R, 4, none⟩ = some (.slice none 0 0)
  v5 : W.cell? ⟨R, 5, none⟩ = some (.int .i64 (ts : Int))
  map : ∀ c, c < 256 → W.cell? ⟨R, 6 + c, none⟩ = some (.int .u8 (f c : Int))
  fz : ∀ o, W.frozen? ⟨R, o, none⟩ = false
  bel : Below w0.heap.size w0 W
theorem MapT.drew {w0 R f ts W} (h : MapT w0 R f ts W) : MapT w0 R f ts W.drew :=
  ⟨h.le, by rw [World.cell?_drew]; exact h.v0, by rw [World.cell?_drew]; exact h.v1, by rw [World.cell?_drew]; exact h.v2, by rw [World.cell?_drew]; exact h.v3, by rw [World.cell?_drew]; exact h.v4, by rw [World.cell?_drew]; exact h.v5,
    fun c hc => by rw [World.cell?_drew]; exact h.map c hc, fun o => by rw [World.frozen?_drew]; exact h.fz o, h.bel.drew⟩
theorem MapT.set {w0 R f ts W} (h : MapT w0 R f ts W) (c v : Nat) (hc : c < 256) : MapT w0 R (fun d => if d = c then v else f d) ts (W.setCell ⟨R, 6 + c, none⟩ (.int .u8 (v : Int))) := by
  have other : ∀ o u, o ≠ 6 + c → W.cell? ⟨R, o, none⟩ = some u → (W.setCell ⟨R, 6 + c, none⟩ (.int .u8 (v : Int))).cell? ⟨R, o, none⟩ = some u := fun o u ho hu =>
    (World.cell?_setCell_other _ _ _ _ (ne_addr (.inr (Ne.symm ho)))).trans hu
  refine ⟨h.le, other _ _ (by omega) h.v0, other _ _ (by omega) h.v1, other _ _ (by omega) h.v2, other _ _ (by omega) h.v3, other _ _ (by omega) h.v4, other _ _ (by omega) h.v5, ?_, fun o => by rw [World.frozen?_setCell]; exact h.fz o, h.bel.setCell h.le _⟩
  intro d hd
  by_cases e : d = c
  · subst e; rw [if_pos rfl]; exact World.cell?_setCell_same _ _ _ (h.map d hd)
  · rw [if_neg e]; exact other _ _ (by omega) (h.map d hd)
theorem MapT.size {w0 R f ts W} (h : MapT w0 R f ts W) (v : Nat) : MapT w0 R f v (W.setCell ⟨R, 5, none⟩ (.int .i64 (v : Int))) := by
  have other : ∀ o u, o ≠ 5 → W.cell? ⟨R, o, none⟩ = some u → (W.setCell ⟨R, 5, none⟩ (.int .i64 (v : Int))).cell? ⟨R, o, none⟩ = some u := fun o u ho hu =>
    (World.cell?_setCell_other _ _ _ _ (ne_addr (.inr (Ne.symm ho)))).trans hu
  refine ⟨h.le, other _ _ (by omega) h.v0, other _ _ (by omega) h.v1, other _ _ (by omega) h.v2, other _ _ (by omega) h.v3, other _ _ (by omega) h.v4, World.cell?_setCell_same _ _ _ h.v5, fun c hc => other _ _ (by omega) (h.map c hc), fun o => by rw [World.frozen?_setCell]; exact h.fz o, h.bel.setCell h.le _⟩
theorem MapT.congr {w0 R f g ts W} (h : MapT w0 R f ts W) (e : ∀ c, c < 256 → f c = g c) : MapT w0 R g ts W :=
  ⟨h.le, h.v0, h.v1, h.v2, h.v3, h.v4, h.v5, fun c hc => by rw [← e c hc]; exact h.map c hc, h.fz, h.bel⟩
set_option maxRecDepth 1000000 in
theorem MapT.new (w : World) : MapT w w.heap.size (fun _ => 0) 0 (w.alloc (.cells Tryz.zeroCells200 200)) := by
  have hcell : ∀ o, (w.alloc (.cells Tryz.zeroCells200 200)).cell? ⟨w.heap.size, o, none⟩ = (#[Value.string ⟨#[]⟩, .int .i64 0, .string ⟨#[]⟩, .pointer none, .slice none 0 0, .int .i64 0] ++ Array.replicate 256 (Value.int .u8 0))[o]? := fun o => by
    rw [World.cell?_alloc_new, zeroG]
  have hl : ∀ o, o < 6 → (w.alloc (.cells Tryz.zeroCells200 200)).cell? ⟨w.heap.size, o, none⟩ = #[Value.string ⟨#[]⟩, .int .i64 0, .string ⟨#[]⟩, .pointer none, .slice none 0 0, .int .i64 0][o]? := fun o ho => by
    rw [hcell o, Array.getElem?_append_left (by simpa using ho)]
  refine ⟨Nat.le_refl _, hl 0 (by omega), hl 1 (by omega), hl 2 (by omega), hl 3 (by omega), hl 4 (by omega), hl 5 (by omega), fun c hc => ?_, fun o => World.frozen?_alloc_new _ _ _ _, (Below.refl _ w).alloc (Nat.le_refl _) _⟩
  rw [hcell (6 + c), Array.getElem?_append_right (by simp)]
  show (Array.replicate 256 (Value.int .u8 0))[6 + c - 6]? = _
  rw [Array.getElem?_replicate, if_pos (by omega)]; rfl
/-- The bytes of a list are marked. -/
def mk (L : List UInt8) (c : Nat) : Nat := if L.any (fun b => b.toNat == c) then 1 else 0
theorem mk_snoc (L : List UInt8) (b : UInt8) (c : Nat) : (if c = b.toNat then 1 else mk L c) = mk (L ++ [b]) c := by
  unfold mk
  rw [List.any_append]
  by_cases h : c = b.toNat
  · simp [h]
  · have : (b.toNat == c) = false := beq_eq_false_iff_ne.2 (Ne.symm h)
    simp [this, h]
abbrev LL : List UInt8 := [195, 159, 225, 186, 158]
def mkL (c : Nat) : Nat := mk LL c
def cnt : Nat → Nat
  | 0 => 0
  | n + 1 => cnt n + mkL n
theorem cnt_le : ∀ n : Fin 257, cnt n.val ≤ 5 := by decide +kernel
theorem cnt_all : cnt 256 = 5 := by decide +kernel
theorem mkL_le (c : Nat) : mkL c ≤ 1 := by unfold mkL mk; split <;> omega
def arrOf (f : Nat → Nat) : List Value := (List.range 256).map (fun c => .int .u8 (f c : Int))
theorem arrOf_len (f : Nat → Nat) : (arrOf f).length = 256 := by unfold arrOf; simp
theorem arrOf_at (f : Nat → Nat) (n : Nat) (h : n < 256) : (arrOf f)[n]? = some (.int .u8 (f n : Int)) := by unfold arrOf; simp [h]
theorem arr_index (f : Nat → Nat) (n : Nat) (hn : n < 256) (w : World) : (Instr.index 165 (.agg (arrOf f).toArray) (.int .i64 (n : Int))).run Tryz.prog w = .ok (.int .u8 (f n : Int)) w :=
  index_at _ (arrOf_len f) n hn _ (arrOf_at f n hn) w
theorem MapT.cells {w0 R f ts W} (h : MapT w0 R f ts W) : ∀ (j : Nat) (v : Value), (arrOf f)[j]? = some v → W.cell? ((⟨R, 6, none⟩ : Addr).add j) = some v := fun j v hv => by
  have hj : j < 256 := by rw [← arrOf_len f]; exact (List.getElem?_eq_some_iff.1 hv).1
  rw [arrOf_at f j hj] at hv
  rw [Lib.add_plain, ← Option.some.inj hv]
  exact h.map j hj
def fin (c : Nat) : Nat := if mkL c = 0 then 5 else cnt c
def gg (n c : Nat) : Nat := if c < n then fin c else mkL c
theorem gg_step (n : Nat) (v : Nat) (hv : v = fin n) (c : Nat) : (if c = n then v else gg n c) = gg (n + 1) c := by
  unfold gg
  by_cases e : c = n
  · rw [if_pos e, if_pos (by omega), hv, e]
  · rw [if_neg e]
    by_cases h : c < n
    · rw [if_pos h, if_pos (by omega)]
    · rw [if_neg h, if_neg (by omega)]
theorem info256 : (Tryz.prog.info? 165).map (·.size) = some 256 := by kernel_rfl
theorem info_node : (Tryz.prog.info? 195).map (fun i => (i.zero, i.size, i.bytes)) = some (some (.pointer none), 1, 8) := by kernel_rfl
def tab0 : Obj := .cells #[.pointer none, .pointer none, .pointer none, .pointer none, .pointer none] 195
theorem makeTab (W : World) : (Instr.makeSlice 196 (.int .i64 5) (.int .i64 5)).run Tryz.prog W = .ok (.slice (some ⟨W.heap.size, 0, none⟩) 5 5) (W.alloc tab0) := by
  obtain ⟨i, hi, hz, hs, hb⟩ : ∃ i, Tryz.prog.info? 195 = some i ∧ i.zero = some (.pointer none) ∧ i.size = 1 ∧ i.bytes = 8 := by
    have := info_node
    cases h : Tryz.prog.info? 195 with
    | none => rw [h] at this; cases this
    | some i => rw [h] at this; injection this with this; injection this with a b; injection b with b c; exact ⟨i, rfl, a, b, c⟩
  have := run_makeSlice (P := Tryz.prog) W 196 195 i (.pointer none) Tryz.underlying196 hi hz .i64 .i64 5 5 (by omega) (by omega) (by rw [hs]; decide) (by rw [hb]; omega) (by omega)
  rw [hs, show madeCells (Value.pointer none).cells ((5 : Int).toNat * 1) = #[.pointer none, .pointer none, .pointer none, .pointer none, .pointer none] by kernel_rfl] at this
  exact this
/-- The root's table at T. -/
structure TabT (w0 : World) (R T : Nat) (u3 u4 : Value) (W : World) : Prop where
  le : w0.heap.size ≤ R
  leT : w0.heap.size ≤ T
  RT : R ≠ T
  v1 : W.cell? ⟨R, 1, none⟩ = some (.int .i64 0)
  v2 : W.cell? ⟨R, 2, none⟩ = some (.string ⟨#[]⟩)
  v4 : W.cell? ⟨R, 4, none⟩ = some (.slice (some ⟨T, 0, none⟩) 5 5)
  v5 : W.cell? ⟨R, 5, none⟩ = some (.int .i64 5)
  map : ∀ c, c < 256 → W.cell? ⟨R, 6 + c, none⟩ = some (.int .u8 (fin c : Int))
  t0 : W.cell? ⟨T, 0, none⟩ = some (.pointer none)
  t1 : W.cell? ⟨T, 1, none⟩ = some (.pointer none)
  t2 : W.cell? ⟨T, 2, none⟩ = some (.pointer none)
  t3 : W.cell? ⟨T, 3, none⟩ = some u3
  t4 : W.cell? ⟨T, 4, none⟩ = some u4
  fzT : ∀ o, W.frozen? ⟨T, o, none⟩ = false
  bel : Below w0.heap.size w0 W
/-- A node of the trie with a rest of a key, and the node behind it. -/
structure NodeT (w0 : World) (N M : Nat) (T : Nat) (key : ByteArray) (prio : Int) (W : World) : Prop where
  le : w0.heap.size ≤ N
  leM : w0.heap.size ≤ M
  ne : N ≠ T
  neM : M ≠ T
  n1 : W.cell? ⟨N, 1, none⟩ = some (.int .i64 0)
  n2 : W.cell? ⟨N, 2, none⟩ = some (.string key)
  n3 : W.cell? ⟨N, 3, none⟩ = some (.pointer (some ⟨M, 0, none⟩))
  n4 : W.cell? ⟨N, 4, none⟩ = some (.slice none 0 0)
  m0 : W.cell? ⟨M, 0, none⟩ = some (.string ⟨#[115, 115]⟩)
  m1 : W.cell? ⟨M, 1, none⟩ = some (.int .i64 prio)
  m2 : W.cell? ⟨M, 2, none⟩ = some (.string ⟨#[]⟩)
  m4 : W.cell? ⟨M, 4, none⟩ = some (.slice none 0 0)
theorem TabT.drew {w0 R T u3 u4 W} (h : TabT w0 R T u3 u4 W) : TabT w0 R T u3 u4 W.drew := by
  refine ⟨h.le, h.leT, h.RT, ?_, ?_, ?_, ?_, fun c hc => ?_, ?_, ?_, ?_, ?_, ?_, fun o => ?_, h.bel.drew⟩
  all_goals first | rw [World.cell?_drew] | rw [World.frozen?_drew]
  all_goals first | exact h.v1 | exact h.v2 | exact h.v4 | exact h.v5 | exact h.map c hc | exact h.t0 | exact h.t1 | exact h.t2 | exact h.t3 | exact h.t4 | exact h.fzT o
theorem NodeT.drew {w0 N M T key prio W} (h : NodeT w0 N M T key prio W) : NodeT w0 N M T key prio W.drew := by
  refine ⟨h.le, h.leM, h.ne, h.neM, ?_, ?_, ?_, ?_, ?_, ?_, ?_, ?_⟩
  all_goals rw [World.cell?_drew]
  all_goals first | exact h.n1 | exact h.n2 | exact h.n3 | exact h.n4 | exact h.m0 | exact h.m1 | exact h.m2 | exact h.m4
theorem w1_size (T m : Nat) (w : World) : ((w.setCell ⟨T, m, none⟩ (.pointer (some ⟨w.heap.size, 0, none⟩))).alloc node0).drew.drew.heap.size = w.heap.size + 1 := by
  simp [World.setCell, World.drew]
theorem rootW_old (T m : Nat) (key val : ByteArray) (prio : Int) (w : World) (X j : Nat) (u : Value) (hX : X < w.heap.size) (hne : X ≠ T ∨ j ≠ m) (h : w.cell? ⟨X, j, none⟩ = some u) : (rootW T m key val prio w).cell? ⟨X, j, none⟩ = some u := by
  unfold rootW addW
  rw [w1_size]
  have h1 : ((w.setCell ⟨T, m, none⟩ (.pointer (some ⟨w.heap.size, 0, none⟩))).alloc node0).drew.drew.cell? ⟨X, j, none⟩ = some u := by
    rw [World.cell?_drew, World.cell?_drew, World.cell?_alloc_lt _ _ _ (by simpa [World.setCell] using hX), World.cell?_setCell_other _ _ _ _ (ne_addr (by rcases hne with h | h; exact .inl (Ne.symm h); exact .inr (Ne.symm h)))]
    exact h
  have hs := w1_size T m w
  generalize ((w.setCell ⟨T, m, none⟩ (.pointer (some ⟨w.heap.size, 0, none⟩))).alloc node0).drew.drew = W1 at *
  rw [World.cell?_setCell_other _ _ _ _ (ne_addr (.inl (by omega))), World.cell?_setCell_other _ _ _ _ (ne_addr (.inl (by omega))), World.cell?_alloc_lt _ _ _ (by simp [World.setCell]; omega), World.cell?_setCell_other _ _ _ _ (ne_addr (.inl (by omega))), World.cell?_setCell_other _ _ _ _ (ne_addr (.inl (by omega)))]
  exact h1
theorem rootW_frozen (T m : Nat) (key val : ByteArray) (prio : Int) (w : World) (X j : Nat) (hX : X < w.heap.size) : (rootW T m key val prio w).frozen? ⟨X, j, none⟩ = w.frozen? ⟨X, j, none⟩ := by
  unfold rootW addW
  rw [w1_size]
  have h1 : ((w.setCell ⟨T, m, none⟩ (.pointer (some ⟨w.heap.size, 0, none⟩))).alloc node0).drew.drew.frozen? ⟨X, j, none⟩ = w.frozen? ⟨X, j, none⟩ := by
    rw [World.frozen?_drew, World.frozen?_drew, ((Below.refl _ (w.setCell ⟨T, m, none⟩ (.pointer (some ⟨w.heap.size, 0, none⟩)))).alloc (Nat.le_refl _) node0).frozen (by simpa [World.setCell] using hX), World.frozen?_setCell]
  have hs := w1_size T m w
  generalize ((w.setCell ⟨T, m, none⟩ (.pointer (some ⟨w.heap.size, 0, none⟩))).alloc node0).drew.drew = W1 at *
  obtain ⟨W2, hW2⟩ : ∃ W2, (W1.setCell ⟨w.heap.size, 2, none⟩ (.string key)).setCell ⟨w.heap.size, 3, none⟩ (.pointer (some ⟨w.heap.size + 1, 0, none⟩)) = W2 := ⟨_, rfl⟩
  have hs2 : W2.heap.size = w.heap.size + 1 := by rw [← hW2]; simpa [World.setCell] using hs
  rw [World.frozen?_setCell, World.frozen?_setCell, hW2, ((Below.refl _ W2).alloc (Nat.le_refl _) node0).frozen (by show X < _; omega), ← hW2, World.frozen?_setCell, World.frozen?_setCell]
  exact h1
theorem rootW_new (T m : Nat) (key : ByteArray) (prio : Int) (w w0 : World) (hT : T < w.heap.size) (hle : w0.heap.size ≤ w.heap.size) : NodeT w0 w.heap.size (w.heap.size + 1) T key prio (rootW T m key ⟨#[115, 115]⟩ prio w) := by
  unfold rootW addW
  rw [w1_size]
  have hs := w1_size T m w
  have hin : ∀ o, ((w.setCell ⟨T, m, none⟩ (.pointer (some ⟨w.heap.size, 0, none⟩))).alloc node0).drew.drew.cell? ⟨w.heap.size, o, none⟩ = #[Value.string ⟨#[]⟩, .int .i64 0, .string ⟨#[]⟩, .pointer none, .slice none 0 0][o]? := fun o => by
    rw [World.cell?_drew, World.cell?_drew]
    have := World.cell?_alloc_new (w.setCell ⟨T, m, none⟩ (.pointer (some ⟨w.heap.size, 0, none⟩))) #[Value.string ⟨#[]⟩, .int .i64 0, .string ⟨#[]⟩, .pointer none, .slice none 0 0] 198 o
    rw [show (w.setCell ⟨T, m, none⟩ (.pointer (some ⟨w.heap.size, 0, none⟩))).heap.size = w.heap.size by simp [World.setCell]] at this
    exact this
  generalize ((w.setCell ⟨T, m, none⟩ (.pointer (some ⟨w.heap.size, 0, none⟩))).alloc node0).drew.drew = W1 at *
  obtain ⟨W2, hW2⟩ : ∃ W2, (W1.setCell ⟨w.heap.size, 2, none⟩ (.string key)).setCell ⟨w.heap.size, 3, none⟩ (.pointer (some ⟨w.heap.size + 1, 0, none⟩)) = W2 := ⟨_, rfl⟩
  have hs2 : W2.heap.size = w.heap.size + 1 := by rw [← hW2]; simpa [World.setCell] using hs
  have q1 : W2.cell? ⟨w.heap.size, 1, none⟩ = some (.int .i64 0) := by
    rw [← hW2, World.cell?_setCell_other _ _ _ _ (by simp), World.cell?_setCell_other _ _ _ _ (by simp)]; exact hin 1
  have q2 : W2.cell? ⟨w.heap.size, 2, none⟩ = some (.string key) := by
    rw [← hW2, World.cell?_setCell_other _ _ _ _ (by simp)]; exact World.cell?_setCell_same _ _ _ (hin 2)
  have q3 : W2.cell? ⟨w.heap.size, 3, none⟩ = some (.pointer (some ⟨w.heap.size + 1, 0, none⟩)) := by
    rw [← hW2]; exact World.cell?_setCell_same _ _ _ ((World.cell?_setCell_other _ _ _ _ (by simp)).trans (hin 3))
  have q4 : W2.cell? ⟨w.heap.size, 4, none⟩ = some (.slice none 0 0) := by
    rw [← hW2, World.cell?_setCell_other _ _ _ _ (by simp), World.cell?_setCell_other _ _ _ _ (by simp)]; exact hin 4
  rw [hW2]
  have hin2 : ∀ o, (W2.alloc node0).cell? ⟨w.heap.size + 1, o, none⟩ = #[Value.string ⟨#[]⟩, .int .i64 0, .string ⟨#[]⟩, .pointer none, .slice none 0 0][o]? := fun o => by
    have := World.cell?_alloc_new W2 #[Value.string ⟨#[]⟩, .int .i64 0, .string ⟨#[]⟩, .pointer none, .slice none 0 0] 198 o
    rw [hs2] at this; exact this
  have old : ∀ o u, W2.cell? ⟨w.heap.size, o, none⟩ = some u → (((W2.alloc node0).setCell ⟨w.heap.size + 1, 0, none⟩ (.string ⟨#[115, 115]⟩)).setCell ⟨w.heap.size + 1, 1, none⟩ (.int .i64 prio)).cell? ⟨w.heap.size, o, none⟩ = some u := fun o u hu => by
    rw [World.cell?_setCell_other _ _ _ _ (ne_addr (.inl (by omega))), World.cell?_setCell_other _ _ _ _ (ne_addr (.inl (by omega))), World.cell?_alloc_lt _ _ _ (by show w.heap.size < _; omega)]
    exact hu
  refine ⟨by omega, by omega, by omega, by omega, old _ _ q1, old _ _ q2, old _ _ q3, old _ _ q4, ?_, ?_, ?_, ?_⟩
  · rw [World.cell?_setCell_other _ _ _ _ (by simp)]; exact World.cell?_setCell_same _ _ _ (hin2 0)
  · exact World.cell?_setCell_same _ _ _ ((World.cell?_setCell_other _ _ _ _ (by simp)).trans (hin2 1))
  · rw [World.cell?_setCell_other _ _ _ _ (by simp), World.cell?_setCell_other _ _ _ _ (by simp)]; exact hin2 2
  · rw [World.cell?_setCell_other _ _ _ _ (by simp), World.cell?_setCell_other _ _ _ _ (by simp)]; exact hin2 4
end Go.Proofs.YthdlibgiejpjeaaGreatDoor.Gen

/- strings.makeGenericReplacer of runes.Fold's four strings: the walk. -/
set_option linter.unusedVariables false
set_option linter.unusedSimpArgs false
namespace Go.Proofs.YthdlibgiejpjeaaGreatDoor.Gen
open Go Go.RowKit Go.Proofs.YthdlibgiejpjeaaGreatDoor Go.Proofs.YthdlibgiejpjeaaGreatDoorW.PrintWords Go.Proofs.YthdlibgiejpjeaaGreatDoor.Spec Go.Proofs.YthdlibgiejpjeaaGreatDoor.Given
theorem MapT.tab {w0 : World} {R : Nat} {W : World} (h : MapT w0 R fin 5 W) (hle : w0.heap.size ≤ W.heap.size) : TabT w0 R W.heap.size (.pointer none) (.pointer none) ((W.setCell ⟨R, 4, none⟩ (.slice (some ⟨W.heap.size, 0, none⟩) 5 5)).alloc tab0) := by
  have hR : R < W.heap.size := lt_of_cell h.v0
  obtain ⟨W1, hW1⟩ : ∃ W1, W.setCell ⟨R, 4, none⟩ (.slice (some ⟨W.heap.size, 0, none⟩) 5 5) = W1 := ⟨_, rfl⟩
  have hs : W1.heap.size = W.heap.size := by rw [← hW1]; simp [World.setCell]
  rw [hW1]
  have up : ∀ o u, W1.cell? ⟨R, o, none⟩ = some u → (W1.alloc tab0).cell? ⟨R, o, none⟩ = some u := fun o u hu => by
    rw [World.cell?_alloc_lt _ _ _ (by show R < _; omega)]; exact hu
  have old : ∀ o u, o ≠ 4 → W.cell? ⟨R, o, none⟩ = some u → (W1.alloc tab0).cell? ⟨R, o, none⟩ = some u := fun o u ho hu => by
    refine up o u ?_
    rw [← hW1, World.cell?_setCell_other _ _ _ _ (ne_addr (.inr (Ne.symm ho)))]; exact hu
  have hin : ∀ o, (W1.alloc tab0).cell? ⟨W.heap.size, o, none⟩ = #[Value.pointer none, .pointer none, .pointer none, .pointer none, .pointer none][o]? := fun o => by
    have := World.cell?_alloc_new W1 #[Value.pointer none, .pointer none, .pointer none, .pointer none, .pointer none] 195 o
    rw [hs] at this; exact this
  refine ⟨h.le, hle, by omega, old _ _ (by omega) h.v1, old _ _ (by omega) h.v2, up _ _ ?_, old _ _ (by omega) h.v5, fun c hc => old _ _ (by omega) (h.map c hc), hin 0, hin 1, hin 2, hin 3, hin 4, fun o => ?_, ?_⟩
  · rw [← hW1]; exact World.cell?_setCell_same _ _ _ h.v4
  · have := World.frozen?_alloc_new W1 #[Value.pointer none, .pointer none, .pointer none, .pointer none, .pointer none] 195 o
    rw [hs] at this; exact this
  · rw [← hW1]; exact (h.bel.setCell (p := ⟨R, 4, none⟩) h.le _).alloc (by simpa [World.setCell] using hle) _
theorem rootW_below (w0 : World) (T m : Nat) (key val : ByteArray) (prio : Int) (w : World) (hT : w0.heap.size ≤ T) (hle : w0.heap.size ≤ w.heap.size) (h : Below w0.heap.size w0 w) : Below w0.heap.size w0 (rootW T m key val prio w) := by
  unfold rootW addW
  rw [w1_size]
  have hs := w1_size T m w
  have h1 : Below w0.heap.size w0 ((w.setCell ⟨T, m, none⟩ (.pointer (some ⟨w.heap.size, 0, none⟩))).alloc node0).drew.drew :=
    ((h.setCell (p := ⟨T, m, none⟩) hT _).alloc (by simpa [World.setCell] using hle) _).drew.drew
  generalize ((w.setCell ⟨T, m, none⟩ (.pointer (some ⟨w.heap.size, 0, none⟩))).alloc node0).drew.drew = W1 at *
  exact ((((h1.setCell (p := ⟨w.heap.size, 2, none⟩) hle _).setCell (p := ⟨w.heap.size, 3, none⟩) hle _).alloc (by simp [World.setCell]; omega) _).setCell (p := ⟨w.heap.size + 1, 0, none⟩) (by show _ ≤ w.heap.size + 1; omega) _).setCell (p := ⟨w.heap.size + 1, 1, none⟩) (by show _ ≤ w.heap.size + 1; omega) _
theorem rootW_cell (T m : Nat) (key val : ByteArray) (prio : Int) (w : World) (u : Value) (h : w.cell? ⟨T, m, none⟩ = some u) : (rootW T m key val prio w).cell? ⟨T, m, none⟩ = some (.pointer (some ⟨w.heap.size, 0, none⟩)) := by
  have hT : T < w.heap.size := lt_of_cell h
  unfold rootW addW
  rw [w1_size]
  have h1 : ((w.setCell ⟨T, m, none⟩ (.pointer (some ⟨w.heap.size, 0, none⟩))).alloc node0).drew.drew.cell? ⟨T, m, none⟩ = some (.pointer (some ⟨w.heap.size, 0, none⟩)) := by
    rw [World.cell?_drew, World.cell?_drew, World.cell?_alloc_lt _ _ _ (by simpa [World.setCell] using hT)]
    exact World.cell?_setCell_same _ _ _ h
  have hs := w1_size T m w
  generalize ((w.setCell ⟨T, m, none⟩ (.pointer (some ⟨w.heap.size, 0, none⟩))).alloc node0).drew.drew = W1 at *
  rw [World.cell?_setCell_other _ _ _ _ (ne_addr (.inl (by omega))), World.cell?_setCell_other _ _ _ _ (ne_addr (.inl (by omega))), World.cell?_alloc_lt _ _ _ (by simp [World.setCell]; omega), World.cell?_setCell_other _ _ _ _ (ne_addr (.inl (by omega))), World.cell?_setCell_other _ _ _ _ (ne_addr (.inl (by omega)))]
  exact h1
theorem TabT.add3 {w0 : World} {R T : Nat} {u4 : Value} {w : World} (h : TabT w0 R T (.pointer none) u4 w) (key : ByteArray) (prio : Int) :
    TabT w0 R T (.pointer (some ⟨w.heap.size, 0, none⟩)) u4 (rootW T 3 key ⟨#[115, 115]⟩ prio w) := by
  have hR : R < w.heap.size := lt_of_cell h.v1
  have hT : T < w.heap.size := lt_of_cell h.t0
  have o1 : ∀ o u, w.cell? ⟨R, o, none⟩ = some u → (rootW T 3 key ⟨#[115, 115]⟩ prio w).cell? ⟨R, o, none⟩ = some u := fun o u hu => rootW_old T 3 key _ prio w R o u hR (.inl h.RT) hu
  have o2 : ∀ o u, o ≠ 3 → w.cell? ⟨T, o, none⟩ = some u → (rootW T 3 key ⟨#[115, 115]⟩ prio w).cell? ⟨T, o, none⟩ = some u := fun o u ho hu => rootW_old T 3 key _ prio w T o u hT (.inr ho) hu
  exact ⟨h.le, h.leT, h.RT, o1 _ _ h.v1, o1 _ _ h.v2, o1 _ _ h.v4, o1 _ _ h.v5, fun c hc => o1 _ _ (h.map c hc), o2 _ _ (by omega) h.t0, o2 _ _ (by omega) h.t1, o2 _ _ (by omega) h.t2, rootW_cell T 3 key _ prio w _ h.t3, o2 _ _ (by omega) h.t4,
    fun o => by rw [rootW_frozen T 3 key _ prio w T o hT]; exact h.fzT o, rootW_below w0 T 3 key _ prio w h.leT h.bel.size h.bel⟩
theorem TabT.add4 {w0 : World} {R T : Nat} {u3 : Value} {w : World} (h : TabT w0 R T u3 (.pointer none) w) (key : ByteArray) (prio : Int) :
    TabT w0 R T u3 (.pointer (some ⟨w.heap.size, 0, none⟩)) (rootW T 4 key ⟨#[115, 115]⟩ prio w) := by
  have hR : R < w.heap.size := lt_of_cell h.v1
  have hT : T < w.heap.size := lt_of_cell h.t0
  have o1 : ∀ o u, w.cell? ⟨R, o, none⟩ = some u → (rootW T 4 key ⟨#[115, 115]⟩ prio w).cell? ⟨R, o, none⟩ = some u := fun o u hu => rootW_old T 4 key _ prio w R o u hR (.inl h.RT) hu
  have o2 : ∀ o u, o ≠ 4 → w.cell? ⟨T, o, none⟩ = some u → (rootW T 4 key ⟨#[115, 115]⟩ prio w).cell? ⟨T, o, none⟩ = some u := fun o u ho hu => rootW_old T 4 key _ prio w T o u hT (.inr ho) hu
  exact ⟨h.le, h.leT, h.RT, o1 _ _ h.v1, o1 _ _ h.v2, o1 _ _ h.v4, o1 _ _ h.v5, fun c hc => o1 _ _ (h.map c hc), o2 _ _ (by omega) h.t0, o2 _ _ (by omega) h.t1, o2 _ _ (by omega) h.t2, o2 _ _ (by omega) h.t3, rootW_cell T 4 key _ prio w _ h.t4,
    fun o => by rw [rootW_frozen T 4 key _ prio w T o hT]; exact h.fzT o, rootW_below w0 T 4 key _ prio w h.leT h.bel.size h.bel⟩
theorem NodeT.keep {w0 : World} {N M T : Nat} {key : ByteArray} {prio : Int} {w w' : World} (h : NodeT w0 N M T key prio w) (hk : ∀ X j u, X < w.heap.size → X ≠ T → w.cell? ⟨X, j, none⟩ = some u → w'.cell? ⟨X, j, none⟩ = some u) : NodeT w0 N M T key prio w' := by
  have hN : N < w.heap.size := lt_of_cell h.n1
  have hM : M < w.heap.size := lt_of_cell h.m0
  exact ⟨h.le, h.leM, h.ne, h.neM, hk _ _ _ hN h.ne h.n1, hk _ _ _ hN h.ne h.n2, hk _ _ _ hN h.ne h.n3, hk _ _ _ hN h.ne h.n4, hk _ _ _ hM h.neM h.m0, hk _ _ _ hM h.neM h.m1, hk _ _ _ hM h.neM h.m2, hk _ _ _ hM h.neM h.m4⟩
/-- The whole trie. -/
def GenT (w0 : World) (R : Nat) (W : World) : Prop := ∃ T N M N' M', TabT w0 R T (.pointer (some ⟨N, 0, none⟩)) (.pointer (some ⟨N', 0, none⟩)) W ∧ NodeT w0 N M T ⟨#[159]⟩ 4 W ∧ NodeT w0 N' M' T ⟨#[186, 158]⟩ 2 W
theorem fin3 : fin 195 = 3 := by decide +kernel
theorem fin4 : fin 225 = 4 := by decide +kernel
set_option maxRecDepth 1000000 in
theorem root3 {w0 : World} {R T : Nat} {u4 : Value} {w : World} (h : TabT w0 R T (.pointer none) u4 w) :
    Calls Tryz.prog 190 #[.pointer (some ⟨R, 0, none⟩), .string ⟨#[195, 159]⟩, .string ⟨#[115, 115]⟩, .int .i64 4, .pointer (some ⟨R, 0, none⟩)] w fun e w' => e = .returned (.tuple #[]) ∧ w' = rootW T 3 ⟨#[159]⟩ ⟨#[115, 115]⟩ 4 w := by
  have hm := h.map 195 (by omega)
  rw [fin3] at hm
  exact add_root R T 3 195 ⟨#[195, 159]⟩ ⟨#[159]⟩ ⟨#[115, 115]⟩ (by rw [Lib.toList_data]; rfl) (by rw [Lib.toList_data]; rfl) 4 w (by omega) (by omega) (fun _ => rfl) (fun _ => rfl) h.v2 h.v4 hm h.t3 (h.fzT 3) h.RT
set_option maxRecDepth 1000000 in
theorem root4 {w0 : World} {R T : Nat} {u3 : Value} {w : World} (h : TabT w0 R T u3 (.pointer none) w) :
    Calls Tryz.prog 190 #[.pointer (some ⟨R, 0, none⟩), .string ⟨#[225, 186, 158]⟩, .string ⟨#[115, 115]⟩, .int .i64 2, .pointer (some ⟨R, 0, none⟩)] w fun e w' => e = .returned (.tuple #[]) ∧ w' = rootW T 4 ⟨#[186, 158]⟩ ⟨#[115, 115]⟩ 2 w := by
  have hm := h.map 225 (by omega)
  rw [fin4] at hm
  exact add_root R T 4 225 ⟨#[225, 186, 158]⟩ ⟨#[186, 158]⟩ ⟨#[115, 115]⟩ (by rw [Lib.toList_data]; rfl) (by rw [Lib.toList_data]; rfl) 2 w (by omega) (by omega) (fun _ => rfl) (fun _ => rfl) h.v2 h.v4 hm h.t4 (h.fzT 4) h.RT
set_option maxHeartbeats 8000000 in
set_option maxRecDepth 1000000 in
theorem makeGen (A c : Nat) (w : World) (hc : ∀ j u, pairs4[j]? = some u → w.cell? ⟨A, j, none⟩ = some u) :
    Calls Tryz.prog 165 #[.slice (some ⟨A, 0, none⟩) 4 c] w fun e w' => ∃ R, e = .returned (.pointer (some ⟨R, 0, none⟩)) ∧ GenT w R w' := by
  have hcells := Lib.hid hc; clear hc
  have hA : A < w.heap.size := lt_of_cell (hcells.out 0 _ rfl)
  go_enter Tryz.func165, Tryz.ntmps165
  go_wp2_with fail
  have h0 := Lib.hid (MapT.new w)
  have hRd : w.heap.size = w.heap.size := rfl
  generalize w.alloc (.cells Tryz.zeroCells200 200) = W0 at *
  go_loopw [4] (fun i wr => ((i = .int .i64 0 ∧ MapT w w.heap.size (mk []) 0 wr) ∨ (i = .int .i64 2 ∧ MapT w w.heap.size (mk [195, 159]) 0 wr) ∨ (i = .int .i64 4 ∧ MapT w w.heap.size (mk [195, 159, 225, 186, 158]) 0 wr))) (fun i _ => 5 - (intOf i).toNat)
  case atStart => exact .inl ⟨rfl, h0.out.congr fun c hc => rfl⟩
  case round =>
    rcases hrel with ⟨rfl, hM⟩ | ⟨rfl, hM⟩ | ⟨rfl, hM⟩
    · have c0 := cell_below (hcells.out 0 _ rfl) hM.bel
      have hM' := Lib.hid hM; clear hM
      have hix : ∀ w (j : Nat) b, [(195 : UInt8), 159][j]? = some b → (Instr.index 9 (.string ⟨#[195, 159]⟩) (.int .i64 (j : Int))).run Tryz.prog w = .ok (.int .u8 (b.toNat : Int)) w := by
        intro w j b hj
        match j, hj with
        | 0, hj => cases hj; rfl
        | 1, hj => cases hj; rfl
      go_wp2_with fail
      generalize hkl : ([195, 159] : List UInt8) = kl at hix
      have hkn : kl.length = 2 := by rw [← hkl]; rfl
      go_loopw [6] (fun j wi => ∃ n : Nat, n ≤ 2 ∧ j = .int .i64 (n : Int) ∧ MapT w w.heap.size (mk ([] ++ kl.take n)) 0 wi) (fun j _ => 3 - (intOf j).toNat)
      case atStart => exact ⟨0, by omega, rfl, hM'.out⟩
      case round =>
        obtain ⟨n, hn, rfl, hI⟩ := hrel
        rcases Nat.lt_or_ge n 2 with hlt | hge
        · have hex : ∃ b, kl[n]? = some b := ⟨_, List.getElem?_eq_getElem (by omega)⟩
          obtain ⟨b, hb⟩ := hex
          have hix2 := fun w => hix w n b hb
          clear hix
          have hcell := hI.map b.toNat b.toNat_lt
          have hfz := hI.fz (6 + b.toNat)
          have hbl : b.toNat < 256 := b.toNat_lt
          have hst := (hI.drew.set b.toNat 1 b.toNat_lt).congr (fun c hc => mk_snoc _ b c)
          rw [show [] ++ kl.take n ++ [b] = [] ++ kl.take (n + 1) by rw [List.take_add_one, hb]; rfl] at hst
          have hst' := Lib.hid hst; clear hst
          have hI' := Lib.hid hI; clear hI
          go_wp2_with fail
          go_region
          go_wp2_with fail
          exact ⟨⟨n + 1, by omega, by go_num, hst'.out⟩, by simp [intOf]; omega⟩
        · obtain rfl : n = 2 := by omega
          rw [show kl.take 2 = kl from List.take_of_length_le (by omega), ← hkl] at hI
          have hI' := Lib.hid hI; clear hI
          go_wp2_with fail
          exact ⟨.inr (.inl ⟨rfl, hI'.out⟩), by simp [intOf]⟩
    · have c0 := cell_below (hcells.out 2 _ rfl) hM.bel
      have hM' := Lib.hid hM; clear hM
      have hix : ∀ w (j : Nat) b, [(225 : UInt8), 186, 158][j]? = some b → (Instr.index 9 (.string ⟨#[225, 186, 158]⟩) (.int .i64 (j : Int))).run Tryz.prog w = .ok (.int .u8 (b.toNat : Int)) w := by
        intro w j b hj
        match j, hj with
        | 0, hj => cases hj; rfl
        | 1, hj => cases hj; rfl
        | 2, hj => cases hj; rfl
      go_wp2_with fail
      generalize hkl : ([225, 186, 158] : List UInt8) = kl at hix
      have hkn : kl.length = 3 := by rw [← hkl]; rfl
      go_loopw [6] (fun j wi => ∃ n : Nat, n ≤ 3 ∧ j = .int .i64 (n : Int) ∧ MapT w w.heap.size (mk ([195, 159] ++ kl.take n)) 0 wi) (fun j _ => 4 - (intOf j).toNat)
      case atStart => exact ⟨0, by omega, rfl, hM'.out⟩
      case round =>
        obtain ⟨n, hn, rfl, hI⟩ := hrel
        rcases Nat.lt_or_ge n 3 with hlt | hge
        · have hex : ∃ b, kl[n]? = some b := ⟨_, List.getElem?_eq_getElem (by omega)⟩
          obtain ⟨b, hb⟩ := hex
          have hix2 := fun w => hix w n b hb
          clear hix
          have hcell := hI.map b.toNat b.toNat_lt
          have hfz := hI.fz (6 + b.toNat)
          have hbl : b.toNat < 256 := b.toNat_lt
          have hst := (hI.drew.set b.toNat 1 b.toNat_lt).congr (fun c hc => mk_snoc _ b c)
          rw [show [195, 159] ++ kl.take n ++ [b] = [195, 159] ++ kl.take (n + 1) by rw [List.take_add_one, hb, List.append_assoc]; rfl] at hst
          have hst' := Lib.hid hst; clear hst
          have hI' := Lib.hid hI; clear hI
          go_wp2_with fail
          go_region
          go_wp2_with fail
          exact ⟨⟨n + 1, by omega, by go_num, hst'.out⟩, by simp [intOf]; omega⟩
        · obtain rfl : n = 3 := by omega
          rw [show kl.take 3 = kl from List.take_of_length_le (by omega), ← hkl] at hI
          have hI' := Lib.hid hI; clear hI
          go_wp2_with fail
          exact ⟨.inr (.inr ⟨rfl, hI'.out⟩), by simp [intOf]⟩
    · have hM' := Lib.hid hM; clear hM
      have hM2 : MapT w w.heap.size mkL 0 wr := hM'.out
      clear hM'
      have hM' := Lib.hid hM2; clear hM2
      have hcs := hM'.out.cells
      go_wp2_with (refine wpList_load_at rfl 165 _ rfl ⟨w.heap.size, 6, none⟩ rfl (arrOf mkL) hcs _ Tryz.underlying165 rfl (by rw [arrOf_len]; exact info256) ?_)
      clear hcs
      have hidx := arr_index mkL
      generalize (arrOf mkL).toArray = AG at *
      go_loopw [41] (fun i wi => ∃ n : Nat, n ≤ 256 ∧ i = .int .i64 (n : Int) ∧ MapT w w.heap.size mkL (cnt n) wi) (fun i _ => 257 - (intOf i).toNat)
      case atStart => exact ⟨0, by omega, rfl, hM'.out⟩
      case round =>
        obtain ⟨n, hn, rfl, hI⟩ := hrel
        rcases Nat.lt_or_ge n 256 with hlt | hge
        · have hix2 := hidx n hlt
          clear hidx
          have h5 := hI.v5
          have hfz := hI.fz 5
          have hm1 := mkL_le n
          have hc5 := cnt_le ⟨n, by omega⟩
          have hst := hI.size (cnt n + mkL n)
          have hst' := Lib.hid hst; clear hst
          have hI' := Lib.hid hI; clear hI
          have hcn : cnt (n + 1) = cnt n + mkL n := rfl
          have hcn' := Lib.hid hcn; clear hcn
          generalize mkL n = mm at *
          generalize hCn : cnt n = cn at *
          go_wp2_with fail
          refine ⟨⟨n + 1, by omega, by go_num, ?_⟩, by simp [intOf]; omega⟩
          rw [hcn'.out]
          exact hst'.out
        · obtain rfl : n = 256 := by omega
          rw [cnt_all] at hI
          have hI' := Lib.hid hI; clear hI
          have hcs := hI'.out.cells
          clear hidx
          go_wp2_with (refine wpList_load_at rfl 165 _ rfl ⟨w.heap.size, 6, none⟩ rfl (arrOf mkL) hcs _ Tryz.underlying165 rfl (by rw [arrOf_len]; exact info256) ?_)
          clear hcs
          have hidx := arr_index mkL
          generalize (arrOf mkL).toArray = AG2 at *
          go_loopw [9, 58] (fun ix i wi => ∃ n : Nat, n ≤ 256 ∧ i = .int .i64 (n : Int) ∧ ix = .int .u8 (cnt n : Int) ∧ MapT w w.heap.size (gg n) 5 wi) (fun _ i _ => 257 - (intOf i).toNat)
          case atStart => exact ⟨0, by omega, rfl, rfl, hI'.out.congr fun c hc => rfl⟩
          case round =>
            obtain ⟨n, hn, rfl, rfl, hJ⟩ := hrel
            rcases Nat.lt_or_ge n 256 with hlt | hge
            · have hix2 := hidx n hlt
              clear hidx
              have h5 := hJ.v5
              have hcell := hJ.map n hlt
              have hfz := hJ.fz (6 + n)
              have hm1 := mkL_le n
              have hc5 := cnt_le ⟨n, by omega⟩
              have hcn : cnt (n + 1) = cnt n + mkL n := rfl
              have hcn' := Lib.hid hcn; clear hcn
              by_cases h0 : mkL n = 0
              · have hst := (hJ.drew.set n 5 hlt).congr (fun c hc => gg_step n 5 (by unfold fin; rw [if_pos h0]) c)
                have hst' := Lib.hid hst; clear hst
                have hJ' := Lib.hid hJ; clear hJ
                rw [h0] at hix2 hcn'
                generalize hCn : cnt n = cn at *
                generalize gg n n = vv at *
                go_wp2_with fail
                go_region
                go_wp2_with fail
                refine ⟨⟨n + 1, by omega, by go_num, ?_, hst'.out⟩, by simp [intOf]; omega⟩
                rw [hcn'.out]; rfl
              · have h1 : mkL n = 1 := by omega
                have hst := (hJ.set n (cnt n) hlt).congr (fun c hc => gg_step n (cnt n) (by unfold fin; rw [if_neg h0]) c)
                have hst' := Lib.hid hst; clear hst
                have hJ' := Lib.hid hJ; clear hJ
                rw [h1] at hix2 hcn'
                clear h0
                generalize hCn : cnt n = cn at *
                generalize gg n n = vv at *
                go_wp2_with fail
                refine ⟨⟨n + 1, by omega, by go_num, ?_, hst'.out⟩, by simp [intOf]; omega⟩
                rw [hcn'.out]; rfl
            · have hJ2 : MapT w w.heap.size fin 5 wr := hJ.congr fun c hc => by unfold gg; rw [if_pos (by omega)]
              have hJ' := Lib.hid hJ2; clear hJ hJ2
              clear hidx
              have h4 := hJ'.out.v4
              have h5 := hJ'.out.v5
              have f4 := hJ'.out.fz 4
              have hmk := makeTab wr
              have hRl : w.heap.size < wr.heap.size := lt_of_cell h4
              have hTab := Lib.hid (hJ'.out.tab (Nat.le_of_lt hRl))
              go_wp2_with fail
              obtain ⟨T, hTd⟩ : ∃ T, wr.heap.size = T := ⟨_, rfl⟩
              rw [hTd] at hTab ⊢
              generalize (wr.setCell ⟨w.heap.size, 4, none⟩ (.slice (some ⟨T, 0, none⟩) 5 5)).alloc tab0 = W9 at *
              go_loopw [12] (fun i wi => (i = .int .i64 0 ∧ TabT w w.heap.size T (.pointer none) (.pointer none) wi) ∨ (∃ N M, i = .int .i64 2 ∧ TabT w w.heap.size T (.pointer (some ⟨N, 0, none⟩)) (.pointer none) wi ∧ NodeT w N M T ⟨#[159]⟩ 4 wi) ∨
                (i = .int .i64 4 ∧ GenT w w.heap.size wi)) (fun i _ => 5 - (intOf i).toNat)
              case atStart => exact .inl ⟨rfl, hTab.out⟩
              case round =>
                rcases hrel with ⟨rfl, hK⟩ | ⟨N, M, rfl, hK, hN⟩ | ⟨rfl, hK⟩
                · have c0 := cell_below (hcells.out 0 _ rfl) hK.bel
                  have c1 := cell_below (hcells.out 1 _ rfl) hK.bel
                  have hK' := Lib.hid hK; clear hK
                  go_wp2_with fail
                  go_region_with (go_at_call 190; refine (root3 hK'.out.drew).mono ?_; rintro e w' ⟨rfl, rfl⟩)
                  go_wp2_with fail
                  all_goals exact ⟨.inr (.inl ⟨_, _, rfl, hK'.out.drew.add3 _ _, rootW_new T 3 _ _ _ w (lt_of_cell hK'.out.drew.t0) hK'.out.drew.bel.size⟩), by simp [intOf]⟩
                · have c2 := cell_below (hcells.out 2 _ rfl) hK.bel
                  have c3 := cell_below (hcells.out 3 _ rfl) hK.bel
                  have hK' := Lib.hid hK; clear hK
                  have hN' := Lib.hid hN; clear hN
                  go_wp2_with fail
                  go_region_with (go_at_call 190; refine (root4 hK'.out.drew).mono ?_; rintro e w' ⟨rfl, rfl⟩)
                  go_wp2_with fail
                  all_goals exact ⟨.inr (.inr ⟨rfl, T, N, M, _, _, hK'.out.drew.add4 _ _, hN'.out.drew.keep (fun X j u hX hT hu => rootW_old T 4 _ _ _ _ X j u hX (.inl hT) hu), rootW_new T 4 _ _ _ w (lt_of_cell hK'.out.drew.t0) hK'.out.drew.bel.size⟩), by simp [intOf]⟩
                · have hK' := Lib.hid hK; clear hK
                  go_wp2_with fail
                  go_ret
                  exact ⟨_, rfl, hK'.out⟩
end Go.Proofs.YthdlibgiejpjeaaGreatDoor.Gen

