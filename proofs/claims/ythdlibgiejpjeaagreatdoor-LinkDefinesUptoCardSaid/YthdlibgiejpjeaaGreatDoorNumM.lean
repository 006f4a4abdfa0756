import Derived.Test.YthdlibgiejpjeaaGreatDoorGiven3
import Derived.Test.YthdlibgiejpjeaaGreatDoorGivM
import Derived.BigCall
import Derived.Outline
import Derived.KernelRfl
import Derived.MapKept
import Derived.Lib.ConvBytes
import Derived.Lib.AtoiErrMem
import Derived.Lib.Walk
import Derived.Laws.Strings3
import Derived.Laws.Closers25
import Derived.Laws.Closers25b
import Derived.BigGuard
set_option linter.unusedVariables false
set_option linter.unusedSimpArgs false
/- The contract of escape.cutLeft (the same text as leaf.cutLeft). -/
namespace Go.Proofs.YthdlibgiejpjeaaGreatDoor.Given
open Go.RowKit Go.Proofs.YthdlibgiejpjeaaGreatDoor Go.Proofs.YthdlibgiejpjeaaGreatDoorW.PrintWords Go.Proofs.YthdlibgiejpjeaaGreatDoor.Spec

set_option maxHeartbeats 4000000 in
set_option maxRecDepth 1000000 in
theorem cutLeft_escape (s set : ByteArray) (w : World) (ha : ascii set.data.toList = true) (hs : s.size < 4294967281) (hset : set.size < 4294967281) :
    Calls Tryz.prog 100 #[.string s, .string set] w fun e w' => e = .returned (.string ⟨(s.data.toList.dropWhile (set.data.toList.contains ·)).toArray⟩) ∧ Below w.heap.size w w' := by
  go_enter Tryz.func100, Tryz.ntmps100
  go_wp2
  go_loopw [] (fun wr => ∃ pos, pos ≤ s.size ∧ (∀ j (hj : j < s.size), j < pos → set.data.toList.contains s[j] = true) ∧ wr.heap[w.heap.size]? = some (.stringIter s pos) ∧ Below w.heap.size w wr) (fun wr => s.size - wr.iterPos w.heap.size)
  case atStart =>
    refine ⟨0, Nat.zero_le _, fun j hj h => absurd h (Nat.not_lt_zero j), ?_, (Below.refl _ w).alloc (Nat.le_refl _) _⟩
    simpa using World.iter_heap w s 0
  case round =>
    obtain ⟨pos, hps, hpre, hit, hbw⟩ := hrel
    have hsz : w.heap.size < wr.heap.size := (Array.getElem?_eq_some_iff.1 hit).1
    by_cases hp : pos < s.size
    · have hnx : ∀ ty, (Instr.next (.pointer (some ⟨w.heap.size, 0, none⟩)) true ty).run Tryz.prog wr = _ := fun ty => Lib.run_next_any_at wr w.heap.size s pos ty hit hp
      obtain ⟨hr1, hr2, hr3⟩ := runeIn_decode ha s pos hp
      have hit2 := Lib.iterAt_heap wr w.heap.size s pos (pos + (Utf8.decode s pos).2) hit
      have hbw2 := Lib.below_iterAt hbw (k := w.heap.size) (Nat.le_refl _) s (pos + (Utf8.decode s pos).2)
      have hd := decode_le s pos
      have hsz2 := Lib.iterAt_size wr w.heap.size s (pos + (Utf8.decode s pos).2)
      generalize hW1 : wr.iterAt w.heap.size s (pos + (Utf8.decode s pos).2) = W1 at *
      generalize hcc : (Utf8.decode s pos).1 = cc at *
      generalize hww : (Utf8.decode s pos).2 = ww at *
      clear hW1
      have hcc' := Lib.hid hcc; clear hcc
      have hww' := Lib.hid hww; clear hww
      have hr1' := Lib.hid hr1; clear hr1
      have hr2' := Lib.hid hr2; clear hr2
      have hpre' := Lib.hid hpre; clear hpre
      have hsz2' := Lib.hid hsz2; clear hsz2
      have hlt : w.heap.size < W1.heap.size := by rw [hsz2'.out]; exact hsz
      clear hsz2'
      go_wp2
      have hip := Lib.hid (show wr.iterPos w.heap.size = pos by simp [World.iterPos, hit])
      clear hnx hit hbw hsz
      go_loopw [7] (fun v wi => ∃ j, j ≤ set.size ∧ v = .bool (runeIn (set.data.toList.take j) cc) ∧ wi.heap[W1.heap.size]? = some (.stringIter set j) ∧ wi.heap[w.heap.size]? = some (.stringIter s (pos + ww)) ∧ Below w.heap.size w wi) (fun _ wi => set.size - wi.iterPos W1.heap.size)
      case atStart =>
        refine ⟨0, Nat.zero_le _, rfl, World.iter_heap W1 set 0, ?_, hbw2.alloc (Nat.le_of_lt hlt) _⟩
        rw [← hit2]; exact Lib.alloc_old W1 _ _ hlt
      case round =>
        obtain ⟨j, hj, rfl, hk, hk0, hbi⟩ := hrel
        by_cases hjs : j < set.size
        · have hnx2 : ∀ ty, (Instr.next (.pointer (some ⟨W1.heap.size, 0, none⟩)) true ty).run Tryz.prog wr = _ := fun ty => Lib.run_next_any_at wr W1.heap.size set j ty hk hjs
          have hlow : (set[j]'hjs).toNat < 128 := ascii_get ha (by rw [← Array.mem_def]; exact Array.getElem_mem _)
          rw [decode_ascii set j hjs hlow] at hnx2
          have hk2 := Lib.iterAt_heap wr W1.heap.size set j (j + 1) hk
          have hk02 := (Lib.iterAt_other wr W1.heap.size w.heap.size set (j + 1) (by omega)).trans hk0
          have hbi2 := Lib.below_iterAt hbi (k := W1.heap.size) (by omega) set (j + 1)
          have hsn := runeIn_snoc (set.data.toList.take j) set[j] cc
          have hsn' := Lib.hid hsn; clear hsn
          cases hb : runeIn (set.data.toList.take j) cc
          · have hb' := Lib.hid hb; clear hb
            go_wp2
            refine ⟨⟨j + 1, by omega, ?_, hk2, hk02, hbi2⟩, ?_⟩
            · rw [take_snoc set j hjs, hsn'.out, hb'.out, Bool.false_or]
              congr 1
              rw [Bool.eq_iff_iff]; simp only [beq_iff_eq]; omega
            · simp only [World.iterPos, hk2, hk]; omega
          · have hb' := Lib.hid hb; clear hb
            go_wp2
            refine ⟨⟨j + 1, by omega, ?_, hk2, hk02, hbi2⟩, ?_⟩
            · rw [take_snoc set j hjs, hsn'.out, hb'.out, Bool.true_or]
            · simp only [World.iterPos, hk2, hk]; omega
        · have hnx2 : ∀ ty, (Instr.next (.pointer (some ⟨W1.heap.size, 0, none⟩)) true ty).run Tryz.prog wr = _ := fun ty => Lib.run_next_end_at wr W1.heap.size set j ty hk hjs
          have hj' : j = set.size := by omega
          subst hj'
          rw [List.take_of_length_le (by simp), hr1'.out]
          cases hb : set.data.toList.contains (s[pos]'hp)
          · have hb' := Lib.hid hb; clear hb
            go_wp2
            go_ret
            refine ⟨?_, hbi⟩
            have he : s.data.toList.dropWhile (set.data.toList.contains ·) = s.data.toList.drop pos :=
              dropWhile_at _ _ pos (by simpa using hps) (fun j hj h => hpre'.out j (by simpa using hj) h) (fun h => hb'.out)
            rw [he, Lib.extract_eq s pos s.size, List.take_of_length_le (by simp)]; rfl
          · have hb' := Lib.hid hb; clear hb
            go_wp2
            have hw1 := hr2'.out hb'.out
            refine ⟨⟨pos + ww, by omega, ?_, hk0, hbi⟩, ?_⟩
            · intro j hj hlt'
              by_cases hjp : j < pos
              · exact hpre'.out j hj hjp
              · have : j = pos := by omega
                subst this; exact hb'.out
            · rw [hip.out]; simp only [World.iterPos, hk0]; omega
    · have hnx : ∀ ty, (Instr.next (.pointer (some ⟨w.heap.size, 0, none⟩)) true ty).run Tryz.prog wr = _ := fun ty => Lib.run_next_end_at wr w.heap.size s pos ty hit hp
      go_wp2
      go_ret
      have : pos = s.size := by omega
      subst this
      refine ⟨?_, hbw⟩
      rw [dropWhile_at s.data.toList set.data.toList s.size (by simp) (fun j hj h => hpre j (by simpa using hj) h) (fun h => absurd h (by simp))]
      simp
end Go.Proofs.YthdlibgiejpjeaaGreatDoor.Given

/- The contract of escape.named. -/
namespace Go.Proofs.YthdlibgiejpjeaaGreatDoor.Given
open Go.RowKit Go.Proofs.YthdlibgiejpjeaaGreatDoor Go.Proofs.YthdlibgiejpjeaaGreatDoorW.PrintWords Go.Proofs.YthdlibgiejpjeaaGreatDoor.Spec

def nmS (k : Nat) : ByteArray := ⟨((names.getD k ([], [])).1).toArray⟩
def nmC (k : Nat) : ByteArray := ⟨((names.getD k ([], [])).2).toArray⟩
/-- The array of the names, as a value. -/
def namesV : Value := .agg ((names.flatMap fun p => [Value.string ⟨p.1.toArray⟩, Value.string ⟨p.2.toArray⟩]).toArray)
set_option maxRecDepth 100000 in
theorem names_index : ∀ (k : Nat), k < 46 → ∀ w, (Instr.index 108 namesV (.int .i64 k)).run Tryz.prog w = .ok (.agg #[.string (nmS k), .string (nmC k)]) w
  | 0, _ => fun w => by kernel_rfl
  | 1, _ => fun w => by kernel_rfl
  | 2, _ => fun w => by kernel_rfl
  | 3, _ => fun w => by kernel_rfl
  | 4, _ => fun w => by kernel_rfl
  | 5, _ => fun w => by kernel_rfl
  | 6, _ => fun w => by kernel_rfl
  | 7, _ => fun w => by kernel_rfl
  | 8, _ => fun w => by kernel_rfl
  | 9, _ => fun w => by kernel_rfl
  | 10, _ => fun w => by kernel_rfl
  | 11, _ => fun w => by kernel_rfl
  | 12, _ => fun w => by kernel_rfl
  | 13, _ => fun w => by kernel_rfl
  | 14, _ => fun w => by kernel_rfl
  | 15, _ => fun w => by kernel_rfl
  | 16, _ => fun w => by kernel_rfl
  | 17, _ => fun w => by kernel_rfl
  | 18, _ => fun w => by kernel_rfl
  | 19, _ => fun w => by kernel_rfl
  | 20, _ => fun w => by kernel_rfl
  | 21, _ => fun w => by kernel_rfl
  | 22, _ => fun w => by kernel_rfl
  | 23, _ => fun w => by kernel_rfl
  | 24, _ => fun w => by kernel_rfl
  | 25, _ => fun w => by kernel_rfl
  | 26, _ => fun w => by kernel_rfl
  | 27, _ => fun w => by kernel_rfl
  | 28, _ => fun w => by kernel_rfl
  | 29, _ => fun w => by kernel_rfl
  | 30, _ => fun w => by kernel_rfl
  | 31, _ => fun w => by kernel_rfl
  | 32, _ => fun w => by kernel_rfl
  | 33, _ => fun w => by kernel_rfl
  | 34, _ => fun w => by kernel_rfl
  | 35, _ => fun w => by kernel_rfl
  | 36, _ => fun w => by kernel_rfl
  | 37, _ => fun w => by kernel_rfl
  | 38, _ => fun w => by kernel_rfl
  | 39, _ => fun w => by kernel_rfl
  | 40, _ => fun w => by kernel_rfl
  | 41, _ => fun w => by kernel_rfl
  | 42, _ => fun w => by kernel_rfl
  | 43, _ => fun w => by kernel_rfl
  | 44, _ => fun w => by kernel_rfl
  | 45, _ => fun w => by kernel_rfl
  | k + 46, h => absurd h (by omega)

def namesP : Array (Nat × Value) := #[(0, .agg #[.string ⟨#[97, 109, 112]⟩, .string ⟨#[38]⟩]), (1, .agg #[.string ⟨#[108, 116]⟩, .string ⟨#[60]⟩]), (2, .agg #[.string ⟨#[103, 116]⟩, .string ⟨#[62]⟩]), (3, .agg #[.string ⟨#[113, 117, 111, 116]⟩, .string ⟨#[34]⟩]), (4, .agg #[.string ⟨#[97, 112, 111, 115]⟩, .string ⟨#[39]⟩]), (5, .agg #[.string ⟨#[110, 98, 115, 112]⟩, .string ⟨#[194, 160]⟩]), (6, .agg #[.string ⟨#[99, 111, 112, 121]⟩, .string ⟨#[194, 169]⟩]), (7, .agg #[.string ⟨#[114, 101, 103]⟩, .string ⟨#[194, 174]⟩]), (8, .agg #[.string ⟨#[115, 101, 99, 116]⟩, .string ⟨#[194, 167]⟩]), (9, .agg #[.string ⟨#[112, 97, 114, 97]⟩, .string ⟨#[194, 182]⟩]), (10, .agg #[.string ⟨#[109, 105, 100, 100, 111, 116]⟩, .string ⟨#[194, 183]⟩]), (11, .agg #[.string ⟨#[102, 114, 97, 99, 49, 50]⟩, .string ⟨#[194, 189]⟩]), (12, .agg #[.string ⟨#[102, 114, 97, 99, 51, 52]⟩, .string ⟨#[194, 190]⟩]), (13, .agg #[.string ⟨#[116, 105, 109, 101, 115]⟩, .string ⟨#[195, 151]⟩]), (14, .agg #[.string ⟨#[100, 105, 118, 105, 100, 101]⟩, .string ⟨#[195, 183]⟩]), (15, .agg #[.string ⟨#[97, 117, 109, 108]⟩, .string ⟨#[195, 164]⟩]), (16, .agg #[.string ⟨#[65, 117, 109, 108]⟩, .string ⟨#[195, 132]⟩]), (17, .agg #[.string ⟨#[111, 117, 109, 108]⟩, .string ⟨#[195, 182]⟩]), (18, .agg #[.string ⟨#[79, 117, 109, 108]⟩, .string ⟨#[195, 150]⟩]), (19, .agg #[.string ⟨#[117, 117, 109, 108]⟩, .string ⟨#[195, 188]⟩]), (20, .agg #[.string ⟨#[85, 117, 109, 108]⟩, .string ⟨#[195, 156]⟩]), (21, .agg #[.string ⟨#[115, 122, 108, 105, 103]⟩, .string ⟨#[195, 159]⟩]), (22, .agg #[.string ⟨#[101, 97, 99, 117, 116, 101]⟩, .string ⟨#[195, 169]⟩]), (23, .agg #[.string ⟨#[101, 103, 114, 97, 118, 101]⟩, .string ⟨#[195, 168]⟩]), (24, .agg #[.string ⟨#[97, 103, 114, 97, 118, 101]⟩, .string ⟨#[195, 160]⟩]), (25, .agg #[.string ⟨#[99, 99, 101, 100, 105, 108]⟩, .string ⟨#[195, 167]⟩]), (26, .agg #[.string ⟨#[110, 116, 105, 108, 100, 101]⟩, .string ⟨#[195, 177]⟩]), (27, .agg #[.string ⟨#[65, 69, 108, 105, 103]⟩, .string ⟨#[195, 134]⟩]), (28, .agg #[.string ⟨#[97, 101, 108, 105, 103]⟩, .string ⟨#[195, 166]⟩]), (29, .agg #[.string ⟨#[68, 99, 97, 114, 111, 110]⟩, .string ⟨#[196, 142]⟩]), (30, .agg #[.string ⟨#[104, 101, 108, 108, 105, 112]⟩, .string ⟨#[226, 128, 166]⟩]), (31, .agg #[.string ⟨#[110, 100, 97, 115, 104]⟩, .string ⟨#[226, 128, 147]⟩]), (32, .agg #[.string ⟨#[109, 100, 97, 115, 104]⟩, .string ⟨#[226, 128, 148]⟩]), (33, .agg #[.string ⟨#[108, 115, 113, 117, 111]⟩, .string ⟨#[226, 128, 152]⟩]), (34, .agg #[.string ⟨#[114, 115, 113, 117, 111]⟩, .string ⟨#[226, 128, 153]⟩]), (35, .agg #[.string ⟨#[108, 100, 113, 117, 111]⟩, .string ⟨#[226, 128, 156]⟩]), (36, .agg #[.string ⟨#[114, 100, 113, 117, 111]⟩, .string ⟨#[226, 128, 157]⟩]), (37, .agg #[.string ⟨#[98, 117, 108, 108]⟩, .string ⟨#[226, 128, 162]⟩]), (38, .agg #[.string ⟨#[101, 117, 114, 111]⟩, .string ⟨#[226, 130, 172]⟩]), (39, .agg #[.string ⟨#[116, 114, 97, 100, 101]⟩, .string ⟨#[226, 132, 162]⟩]), (40, .agg #[.string ⟨#[108, 97, 114, 114]⟩, .string ⟨#[226, 134, 144]⟩]), (41, .agg #[.string ⟨#[114, 97, 114, 114]⟩, .string ⟨#[226, 134, 146]⟩]), (42, .agg #[.string ⟨#[72, 105, 108, 98, 101, 114, 116, 83, 112, 97, 99, 101]⟩, .string ⟨#[226, 132, 139]⟩]), (43, .agg #[.string ⟨#[68, 105, 102, 102, 101, 114, 101, 110, 116, 105, 97, 108, 68]⟩, .string ⟨#[226, 133, 134]⟩]), (44, .agg #[.string ⟨#[110, 103, 69]⟩, .string ⟨#[226, 137, 167, 204, 184]⟩]), (45, .agg #[.string ⟨#[110, 118, 108, 116]⟩, .string ⟨#[60, 226, 131, 146]⟩])]
set_option maxRecDepth 100000 in
theorem build_names (w : World) : (Instr.build 108 namesP).run Tryz.prog w = .ok namesV w := run_build w _ _ _ (by kernel_rfl)
theorem wpList_build_at {P : Program} {ops : Array Oper} {rest : List Oper} {o : Oper} {a : Act} {Q : Exit → Act → World → Prop} {w : World} (hgd : o.guard = none) (t : TypeId) (parts : Array (Nat × Operand))
    (ho : o.op = .build t parts) (pv : Array (Nat × Value)) (hpv : (parts.map fun (i, x) => (i, a.eval x)) = pv) (V : Value) (hV : ∀ w, (Instr.build t pv).run P w = .ok V w)
    (h : wpList P ops Q rest (a.put o.dst V) w) : wpList P ops Q (o :: rest) a w := by
  refine wpList_plain hgd fun K hK => ?_
  unfold Oper.wp execOp
  simp only [ho, Sem.run_bind]
  rw [hpv]
  simp only [hV, Result.andThen_ok]
  exact hK _ _ h

theorem namedIn_at : ∀ (ns : List (List UInt8 × List UInt8)) (l : List UInt8) (k : Nat), k < ns.length → (∀ j, j < k → (ns.getD j ([], [])).1 ≠ l) → (ns.getD k ([], [])).1 = l → namedIn l ns = (ns.getD k ([], [])).2
  | [], _, _, h, _, _ => absurd h (Nat.not_lt_zero _)
  | (a, b) :: r, l, 0, _, _, h2 => by have h2 : a = l := h2; simp [namedIn, h2]
  | (a, b) :: r, l, k + 1, h, h1, h2 => by
    have h0 : a ≠ l := h1 0 (by omega)
    have := namedIn_at r l k (by simpa using h) (fun j hj => h1 (j + 1) (by omega)) h2
    simp only [namedIn, if_neg h0]; exact this
theorem namedIn_none : ∀ (ns : List (List UInt8 × List UInt8)) (l : List UInt8), (∀ j, j < ns.length → (ns.getD j ([], [])).1 ≠ l) → namedIn l ns = []
  | [], _, _ => rfl
  | (a, b) :: r, l, h => by
    have h0 : a ≠ l := h 0 (by simp)
    have := namedIn_none r l (fun j hj => h (j + 1) (by simp; omega))
    simp only [namedIn, if_neg h0]; exact this

set_option maxHeartbeats 8000000 in
set_option maxRecDepth 1000000 in
theorem named_calls (s : ByteArray) (w : World) (hs : s.size < 4294967281) :
    Calls Tryz.prog 60 #[.string s] w fun e w' => e = .returned (.string ⟨(named s.data.toList).toArray⟩) ∧ Below w.heap.size w w' := by
  go_enter Tryz.func60, Tryz.ntmps60
  go_wp2_with (refine wpList_build_at rfl 108 _ rfl namesP ?e namesV build_names ?_; case e => (simp only [List.map_toArray, List.map_cons, List.map_nil, Act.eval, namesP]; rfl))

  go_loopw [52] (fun i wr => ∃ k : Nat, k ≤ 46 ∧ i = .int .i64 k ∧ (∀ j, j < k → nmS j ≠ s) ∧ Below w.heap.size w wr) (fun i _ => 46 - (intOf i).toNat)
  case atStart => exact ⟨0, Nat.zero_le _, rfl, fun j h => absurd h (Nat.not_lt_zero j), Below.refl _ _⟩
  case round =>
    obtain ⟨k, hk, rfl, hno, hbw⟩ := hrel
    by_cases hlt : k < 46
    · have hidx := names_index k hlt
      have hno' := Lib.hid hno; clear hno
      by_cases he : nmS k = s
      · have hfin := Lib.hid (show nmC k = (⟨(named s.data.toList).toArray⟩ : ByteArray) from by
          unfold nmC named
          rw [namedIn_at names s.data.toList k (by show k < 46; exact hlt) (fun j hj => fun e => hno'.out j hj (by unfold nmS; rw [e, Lib.mk_data])) (by rw [← he]; simp [nmS])])
        go_wp2
        go_ret
        refine ⟨?_, hbw.alloc hbw.size _⟩
        show Ending.returned (.string (nmC k)) = _
        rw [hfin.out]
      · have hne : ((nmS k).toList == s.toList) = false := by
          rw [beq_eq_false_iff_ne]
          intro h
          rw [Lib.toList_data, Lib.toList_data] at h
          exact he (by rw [← Lib.mk_data (nmS k), h, Lib.mk_data])
        have he' := Lib.hid he; clear he
        go_wp2
        refine ⟨⟨k + 1, by omega, by go_num, ?_, hbw.alloc hbw.size _⟩, by simp [intOf]; omega⟩
        intro j hj
        by_cases hjk : j < k
        · exact hno'.out j hjk
        · have : j = k := by omega
          subst this; exact he'.out
    · have : k = 46 := by omega
      subst this
      have hno' := Lib.hid hno; clear hno
      go_wp2
      go_ret
      refine ⟨?_, hbw⟩
      have hfin : named s.data.toList = [] := by
        unfold named
        exact namedIn_none names s.data.toList (fun j hj => fun e => hno'.out j hj (by unfold nmS; rw [e, Lib.mk_data]))
      rw [hfin]; rfl
end Go.Proofs.YthdlibgiejpjeaaGreatDoor.Given

/- The map literal of escape.number: made, filled with two entries, and asked. -/
namespace Go.Proofs.YthdlibgiejpjeaaGreatDoor.Given
open Go.RowKit Go.Proofs.YthdlibgiejpjeaaGreatDoor Go.Proofs.YthdlibgiejpjeaaGreatDoorW.PrintWords Go.Proofs.YthdlibgiejpjeaaGreatDoor.Spec

def set10 : ByteArray := ⟨#[48, 49, 50, 51, 52, 53, 54, 55, 56, 57]⟩
def set16 : ByteArray := ⟨#[48, 49, 50, 51, 52, 53, 54, 55, 56, 57, 97, 98, 99, 100, 101, 102, 65, 66, 67, 68, 69, 70]⟩
def E10 : MapEntry := ⟨.int .i64 10, .string set10, 0⟩
def E16 : MapEntry := ⟨.int .i64 16, .string set16, 1⟩

theorem heap_new (w : World) (o : Obj) : (w.alloc o).heap[w.heap.size]? = some o := by
  show (w.heap.push o)[w.heap.size]? = _
  simp
theorem ml_set (w : World) (o o' : Obj) : ({ (w.alloc o) with heap := (w.alloc o).heap.setIfInBounds w.heap.size o' } : World) = w.alloc o' := by
  show ({ w with heap := (w.heap.push o).setIfInBounds w.heap.size o' } : World) = { w with heap := w.heap.push o' }
  congr 1
  apply Array.ext_getElem?
  intro i
  simp only [Array.getElem?_setIfInBounds, Array.getElem?_push, Array.size_push]
  by_cases h : w.heap.size = i
  · subst h; simp
  · rw [if_neg h, if_neg (Ne.symm h), if_neg (Ne.symm h)]

theorem ml_make (w : World) : (Instr.makeMap 109 none).run Tryz.prog w = .ok (.map (some w.heap.size)) (w.alloc (.map #[] 0)) := rfl
theorem ml_ins1 (w : World) : (Instr.mapUpdate 109 (.map (some w.heap.size)) (.int .i64 10) (.string ⟨#[48, 49, 50, 51, 52, 53, 54, 55, 56, 57]⟩)).run Tryz.prog (w.alloc (.map #[] 0)) = .ok () (w.alloc (.map #[E10] 1)) := by
  have h := heap_new w (.map #[] 0)
  have hk : (Instr.checkKey false 10000 3 (.int .i64 10)).run Tryz.prog (w.alloc (.map #[] 0)) = .ok () (w.alloc (.map #[] 0)) := by kernel_rfl
  have hf : (Instr.findKey 3 (.int .i64 10) []).run Tryz.prog (w.alloc (.map #[] 0)) = .ok none (w.alloc (.map #[] 0)) := by kernel_rfl
  unfold Instr.mapUpdate
  simp only [Sem.run_bind, run_underlying Tryz.underlying109, Result.andThen_ok, MapKept.run_getObj_map h, hk, hf, MapKept.run_setObj_map _ h]
  rw [ml_set]
  rfl
theorem ml_ins2 (w : World) : (Instr.mapUpdate 109 (.map (some w.heap.size)) (.int .i64 16) (.string ⟨#[48, 49, 50, 51, 52, 53, 54, 55, 56, 57, 97, 98, 99, 100, 101, 102, 65, 66, 67, 68, 69, 70]⟩)).run Tryz.prog (w.alloc (.map #[E10] 1)) = .ok () (w.alloc (.map #[E10, E16] 2)) := by
  have h := heap_new w (.map #[E10] 1)
  have hk : (Instr.checkKey false 10000 3 (.int .i64 16)).run Tryz.prog (w.alloc (.map #[E10] 1)) = .ok () (w.alloc (.map #[E10] 1)) := by kernel_rfl
  have hf : (Instr.findKey 3 (.int .i64 16) [E10]).run Tryz.prog (w.alloc (.map #[E10] 1)) = .ok none (w.alloc (.map #[E10] 1)) := by kernel_rfl
  unfold Instr.mapUpdate
  simp only [Sem.run_bind, run_underlying Tryz.underlying109, Result.andThen_ok, MapKept.run_getObj_map h, hk, hf, MapKept.run_setObj_map _ h]
  rw [ml_set]
  rfl
theorem ml_look10 (w : World) : (Instr.lookup 109 (.map (some w.heap.size)) (.int .i64 10) false).run Tryz.prog (w.alloc (.map #[E10, E16] 2)) = .ok (.string set10) (w.alloc (.map #[E10, E16] 2)) := by
  have h := heap_new w (.map #[E10, E16] 2)
  have hk : (Instr.checkKey false 10000 3 (.int .i64 10)).run Tryz.prog (w.alloc (.map #[E10, E16] 2)) = .ok () (w.alloc (.map #[E10, E16] 2)) := by kernel_rfl
  have hf : (Instr.findKey 3 (.int .i64 10) [E10, E16]).run Tryz.prog (w.alloc (.map #[E10, E16] 2)) = .ok (some (0, .string set10)) (w.alloc (.map #[E10, E16] 2)) := by kernel_rfl
  unfold Instr.lookup
  simp only [Sem.run_bind, run_underlying Tryz.underlying109, Result.andThen_ok, MapKept.run_getObj_map h, Sem.run_pure]
  simp only [show (#[E10, E16] : Array MapEntry).isEmpty = false from rfl, hk, Result.andThen_ok, hf]
  rfl
theorem ml_look16 (w : World) : (Instr.lookup 109 (.map (some w.heap.size)) (.int .i64 16) false).run Tryz.prog (w.alloc (.map #[E10, E16] 2)) = .ok (.string set16) (w.alloc (.map #[E10, E16] 2)) := by
  have h := heap_new w (.map #[E10, E16] 2)
  have hk : (Instr.checkKey false 10000 3 (.int .i64 16)).run Tryz.prog (w.alloc (.map #[E10, E16] 2)) = .ok () (w.alloc (.map #[E10, E16] 2)) := by kernel_rfl
  have hf : (Instr.findKey 3 (.int .i64 16) [E10, E16]).run Tryz.prog (w.alloc (.map #[E10, E16] 2)) = .ok (some (1, .string set16)) (w.alloc (.map #[E10, E16] 2)) := by kernel_rfl
  unfold Instr.lookup
  simp only [Sem.run_bind, run_underlying Tryz.underlying109, Result.andThen_ok, MapKept.run_getObj_map h, Sem.run_pure]
  simp only [show (#[E10, E16] : Array MapEntry).isEmpty = false from rfl, hk, Result.andThen_ok, hf]
  rfl
end Go.Proofs.YthdlibgiejpjeaaGreatDoor.Given

/- strconv.ParseInt at the bases 10 and 16 and 64 bits, of one to seven digits: the number, and no error. -/
namespace Go.Proofs.YthdlibgiejpjeaaGreatDoor.Given
open Go.RowKit Go.Proofs.YthdlibgiejpjeaaGreatDoor Go.Proofs.YthdlibgiejpjeaaGreatDoorW.PrintWords Go.Proofs.YthdlibgiejpjeaaGreatDoor.Spec

theorem value_snoc (b : Nat) (l : List UInt8) (c : UInt8) : value b (l ++ [c]) = b * value b l + digit c := by simp [value]
theorem value_lt (b : Nat) (hb : 1 ≤ b) : ∀ (n : Nat) (l : List UInt8), l.length = n → (∀ c ∈ l, digit c < b) → value b l < b ^ n := by
  intro n
  induction n with
  | zero => intro l hl _; have : l = [] := List.length_eq_zero_iff.1 hl; subst this; simp [value]
  | succ n ih =>
    intro l hl h
    have hne : l ≠ [] := by intro e; subst e; simp at hl
    obtain ⟨i, c, rfl⟩ : ∃ i c, l = i ++ [c] := ⟨l.dropLast, l.getLast hne, (List.dropLast_concat_getLast hne).symm⟩
    have h1 := ih i (by simpa using hl) (fun x hx => h x (by simp [hx]))
    have h2 := h c (by simp)
    rw [value_snoc]
    have h3 : b * (value b i + 1) ≤ b * b ^ n := Nat.mul_le_mul_left b h1
    rw [Nat.pow_succ, Nat.mul_comm (b ^ n) b]
    rw [Nat.mul_add, Nat.mul_one] at h3
    omega
theorem or32_low (c : UInt8) : (97 ≤ c.toNat ∧ c.toNat ≤ 102) → bits .or .u8 (c.toNat : Int) 32 = (c.toNat : Int) := by
  revert c; refine all_u8 ?_; decide +kernel
theorem or32_up (c : UInt8) : (65 ≤ c.toNat ∧ c.toNat ≤ 70) → bits .or .u8 (c.toNat : Int) 32 = (c.toNat : Int) + 32 := by
  revert c; refine all_u8 ?_; decide +kernel
theorem digit_cases (c : UInt8) : digit c < 16 → (48 ≤ c.toNat ∧ c.toNat ≤ 57 ∧ digit c = c.toNat - 48) ∨ (97 ≤ c.toNat ∧ c.toNat ≤ 102 ∧ digit c = c.toNat - 87) ∨ (65 ≤ c.toNat ∧ c.toNat ≤ 70 ∧ digit c = c.toNat - 55) := by
  revert c; refine all_u8 ?_; decide +kernel
theorem digit10 (c : UInt8) : digit c < 10 → 48 ≤ c.toNat ∧ c.toNat ≤ 57 ∧ digit c = c.toNat - 48 := by
  revert c; refine all_u8 ?_; decide +kernel

set_option maxHeartbeats 32000000 in
set_option maxRecDepth 100000 in
theorem parseUint_10 (t : ByteArray) (hne : t.size ≠ 0) (h7 : t.size ≤ 7) (hd : ∀ c ∈ t.data.toList, digit c < 10) (w : World) :
    Calls Tryz.prog 178 #[.string t, .int .i64 10, .int .i64 64] w fun e w' => e = .returned (.tuple #[.int .u64 (value 10 t.data.toList : Nat), .nilIface]) ∧ Below w.heap.size w w' := by
  have hemp : t.toList.isEmpty = false := by
    rw [← decide_eq_emptyBytes]
    exact decide_eq_false (fun h => hne (by rw [h]; rfl))
  have hcv := Lib.run_convert_string_bytes (P := Tryz.prog) w 9 28 5 t (u := .string) Tryz.underlying9 Tryz.underlying28 Tryz.underlying5
  have hB : ∀ j, j < t.size → (Lib.bytesWorld w 5 t).cell? ⟨w.heap.size, j, none⟩ = some (.int .u8 (t.data.toList.getD j 0).toNat) := fun j hj => Lib.bytesWorld_cell w 5 t j hj
  have hbel := Lib.bytesWorld_below w 5 t
  obtain ⟨W1, hW1⟩ : ∃ W1, W1 = Lib.bytesWorld w 5 t := ⟨_, rfl⟩
  rw [← hW1] at hcv hB hbel
  clear hW1
  obtain ⟨bs, hL⟩ : ∃ bs, bs = t.data.toList := ⟨_, rfl⟩
  have hLn : bs.length = t.size := by rw [hL, Lib.size_eq]
  rw [← hL] at hB hd ⊢
  clear hL
  have hB' := Lib.hid hB; clear hB
  have hd' := Lib.hid hd; clear hd
  have hLn' := Lib.hid hLn; clear hLn
  have hmv : IntKind.u64.wrap (IntKind.u64.wrap 18446744073709551616 - 1) = 18446744073709551615 := by
    rw [IntKind.wrap_u64, IntKind.wrap_u64]
    decide
  go_enter Tryz.func178, Tryz.ntmps178
  go_wp2
  go_loop [12, 13, 101] (fun vu vn vi => ∃ (k : Nat) (a : Int), vu = .bool false ∧ vn = .int .u64 a ∧ vi = .int .i64 k ∧ k ≤ t.size ∧ Hid (a = (value 10 (bs.take k) : Nat)))
    (fun _ _ vi => t.size - (intOf vi).toNat)
  case atStart => exact ⟨0, 0, rfl, rfl, rfl, by omega, rfl⟩
  case round =>
    obtain ⟨k, a, rfl, rfl, rfl, hk, hh⟩ := hrel
    have a0 : 0 ≤ a := by have := hh.out; omega
    by_cases hkn : k < t.size
    · have a1 : a < 16777216 := by
        have hl := value_lt 10 (by omega) (bs.take k).length (bs.take k) rfl (fun c hc => hd'.out c (List.mem_of_mem_take hc))
        have h1 : (bs.take k).length ≤ 6 := by rw [List.length_take]; omega
        have h2 : 10 ^ (bs.take k).length ≤ 10 ^ 6 := Nat.pow_le_pow_right (by omega) h1
        have h3 : (10 : Nat) ^ 6 ≤ 16777216 := by decide
        have := hh.out; omega
      have hc := hB'.out k hkn
      have hlt : k < bs.length := by rw [hLn'.out]; exact hkn
      have hget : bs.getD k 0 = bs[k]'hlt := by simp [List.getD, List.getElem?_eq_getElem hlt]
      have htk : bs.take (k + 1) = bs.take k ++ [bs[k]'hlt] := List.take_succ_eq_append_getElem hlt
      have hdc := hd'.out (bs[k]'hlt) (List.getElem_mem hlt)
      rw [hget] at hc
      have hsn := value_snoc 10 (bs.take k) (bs[k]'hlt)
      rw [← htk] at hsn
      generalize hcc : bs[k]'hlt = c at hc hdc hsn
      have hc256 : c.toNat < 256 := c.toNat_lt
      have hn : Hid (10 * a + (digit c : Nat) = (value 10 (bs.take (k + 1)) : Nat)) := Lib.hid (by rw [hsn, hh.out]; push_cast; rfl)
      clear hcc htk hget hsn
      obtain ⟨hd0, hd1, hdd⟩ := digit10 c hdc
      have hn2 : Hid (a * 10 + ((c.toNat : Int) - 48) = (value 10 (bs.take (k + 1)) : Nat)) := Lib.hid (by rw [← hn.out, hdd]; omega)
      clear hdc hdd hn
      go_wp2
      exact ⟨⟨k + 1, a * 10 + ((c.toNat : Int) - 48), rfl, rfl, (by first | rfl | (congr 1; omega)), by omega, hn2⟩, by simp [intOf]; omega⟩
    · have hkk : k = t.size := by omega
      subst hkk
      have hfin : Hid (a = (value 10 bs : Nat)) := Lib.hid (by rw [hh.out, List.take_of_length_le (by rw [hLn'.out]; exact Nat.le_refl _)])
      clear hh
      go_wp2
      go_ret2
      refine ⟨?_, hbel⟩
      rw [← hfin.out]
      rfl

set_option maxHeartbeats 32000000 in
set_option maxRecDepth 100000 in
theorem parseUint_16 (t : ByteArray) (hne : t.size ≠ 0) (h7 : t.size ≤ 7) (hd : ∀ c ∈ t.data.toList, digit c < 16) (w : World) :
    Calls Tryz.prog 178 #[.string t, .int .i64 16, .int .i64 64] w fun e w' => e = .returned (.tuple #[.int .u64 (value 16 t.data.toList : Nat), .nilIface]) ∧ Below w.heap.size w w' := by
  have hemp : t.toList.isEmpty = false := by
    rw [← decide_eq_emptyBytes]
    exact decide_eq_false (fun h => hne (by rw [h]; rfl))
  have hcv := Lib.run_convert_string_bytes (P := Tryz.prog) w 9 28 5 t (u := .string) Tryz.underlying9 Tryz.underlying28 Tryz.underlying5
  have hB : ∀ j, j < t.size → (Lib.bytesWorld w 5 t).cell? ⟨w.heap.size, j, none⟩ = some (.int .u8 (t.data.toList.getD j 0).toNat) := fun j hj => Lib.bytesWorld_cell w 5 t j hj
  have hbel := Lib.bytesWorld_below w 5 t
  obtain ⟨W1, hW1⟩ : ∃ W1, W1 = Lib.bytesWorld w 5 t := ⟨_, rfl⟩
  rw [← hW1] at hcv hB hbel
  clear hW1
  obtain ⟨bs, hL⟩ : ∃ bs, bs = t.data.toList := ⟨_, rfl⟩
  have hLn : bs.length = t.size := by rw [hL, Lib.size_eq]
  rw [← hL] at hB hd ⊢
  clear hL
  have hB' := Lib.hid hB; clear hB
  have hd' := Lib.hid hd; clear hd
  have hLn' := Lib.hid hLn; clear hLn
  have hmv : IntKind.u64.wrap (IntKind.u64.wrap 18446744073709551616 - 1) = 18446744073709551615 := by
    rw [IntKind.wrap_u64, IntKind.wrap_u64]
    decide
  go_enter Tryz.func178, Tryz.ntmps178
  go_wp2
  go_loop [12, 13, 101] (fun vu vn vi => ∃ (k : Nat) (a : Int), vu = .bool false ∧ vn = .int .u64 a ∧ vi = .int .i64 k ∧ k ≤ t.size ∧ Hid (a = (value 16 (bs.take k) : Nat)))
    (fun _ _ vi => t.size - (intOf vi).toNat)
  case atStart => exact ⟨0, 0, rfl, rfl, rfl, by omega, rfl⟩
  case round =>
    obtain ⟨k, a, rfl, rfl, rfl, hk, hh⟩ := hrel
    have a0 : 0 ≤ a := by have := hh.out; omega
    by_cases hkn : k < t.size
    · have a1 : a < 16777216 := by
        have hl := value_lt 16 (by omega) (bs.take k).length (bs.take k) rfl (fun c hc => hd'.out c (List.mem_of_mem_take hc))
        have h1 : (bs.take k).length ≤ 6 := by rw [List.length_take]; omega
        have h2 : 16 ^ (bs.take k).length ≤ 16 ^ 6 := Nat.pow_le_pow_right (by omega) h1
        have h3 : (16 : Nat) ^ 6 ≤ 16777216 := by decide
        have := hh.out; omega
      have hc := hB'.out k hkn
      have hlt : k < bs.length := by rw [hLn'.out]; exact hkn
      have hget : bs.getD k 0 = bs[k]'hlt := by simp [List.getD, List.getElem?_eq_getElem hlt]
      have htk : bs.take (k + 1) = bs.take k ++ [bs[k]'hlt] := List.take_succ_eq_append_getElem hlt
      have hdc := hd'.out (bs[k]'hlt) (List.getElem_mem hlt)
      rw [hget] at hc
      have hsn := value_snoc 16 (bs.take k) (bs[k]'hlt)
      rw [← htk] at hsn
      generalize hcc : bs[k]'hlt = c at hc hdc hsn
      have hc256 : c.toNat < 256 := c.toNat_lt
      have hn : Hid (16 * a + (digit c : Nat) = (value 16 (bs.take (k + 1)) : Nat)) := Lib.hid (by rw [hsn, hh.out]; push_cast; rfl)
      clear hcc htk hget hsn
      rcases digit_cases c hdc with ⟨hd0, hd1, hdd⟩ | ⟨hd0, hd1, hdd⟩ | ⟨hd0, hd1, hdd⟩
      · have hn2 : Hid (a * 16 + ((c.toNat : Int) - 48) = (value 16 (bs.take (k + 1)) : Nat)) := Lib.hid (by rw [← hn.out, hdd]; omega)
        clear hdc hdd hn
        go_wp2
        exact ⟨⟨k + 1, a * 16 + ((c.toNat : Int) - 48), rfl, rfl, (by first | rfl | (congr 1; omega)), by omega, hn2⟩, by simp [intOf]; omega⟩
      · have hn2 : Hid (a * 16 + ((c.toNat : Int) - 97 + 10) = (value 16 (bs.take (k + 1)) : Nat)) := Lib.hid (by rw [← hn.out, hdd]; omega)
        have ho := or32_low c ⟨hd0, hd1⟩
        have ho' := Lib.hid ho; clear ho
        clear hdc hdd hn
        go_wp2_with (go_at_call 197; refine (Tryz.internal_strconv_lower _ _).mono ?_; rintro e w' ⟨rfl, rfl⟩; rw [ho'.out])
        exact ⟨⟨k + 1, a * 16 + ((c.toNat : Int) - 97 + 10), rfl, rfl, (by first | rfl | (congr 1; omega)), by omega, hn2⟩, by simp [intOf]; omega⟩
      · have hn2 : Hid (a * 16 + ((c.toNat : Int) + 32 - 97 + 10) = (value 16 (bs.take (k + 1)) : Nat)) := Lib.hid (by rw [← hn.out, hdd]; omega)
        have ho := or32_up c ⟨hd0, hd1⟩
        have ho' := Lib.hid ho; clear ho
        clear hdc hdd hn
        go_wp2_with (go_at_call 197; refine (Tryz.internal_strconv_lower _ _).mono ?_; rintro e w' ⟨rfl, rfl⟩; rw [ho'.out])
        exact ⟨⟨k + 1, a * 16 + ((c.toNat : Int) + 32 - 97 + 10), rfl, rfl, (by first | rfl | (congr 1; omega)), by omega, hn2⟩, by simp [intOf]; omega⟩
    · have hkk : k = t.size := by omega
      subst hkk
      have hfin : Hid (a = (value 16 bs : Nat)) := Lib.hid (by rw [hh.out, List.take_of_length_le (by rw [hLn'.out]; exact Nat.le_refl _)])
      clear hh
      go_wp2
      go_ret2
      refine ⟨?_, hbel⟩
      rw [← hfin.out]
      rfl

end Go.Proofs.YthdlibgiejpjeaaGreatDoor.Given

/- strconv.ParseInt at the bases 10 and 16 and 64 bits, of one to seven digits: the number, and no error. -/
namespace Go.Proofs.YthdlibgiejpjeaaGreatDoor.Given
open Go.RowKit Go.Proofs.YthdlibgiejpjeaaGreatDoor Go.Proofs.YthdlibgiejpjeaaGreatDoorW.PrintWords Go.Proofs.YthdlibgiejpjeaaGreatDoor.Spec

set_option maxHeartbeats 32000000 in
set_option maxRecDepth 100000 in
theorem parseInt_in (B : Int) (v : Nat) (s : ByteArray) (c0 : UInt8) (hpos : 0 < s.size) (hs0 : s[0] = c0) (h43 : c0 ≠ 43) (h45 : c0 ≠ 45) (hv : v < 9223372036854775808) (w : World)
    (hU : Calls Tryz.prog 178 #[.string s, .int .i64 B, .int .i64 64] w fun e w' => e = .returned (.tuple #[.int .u64 (v : Nat), .nilIface]) ∧ Below w.heap.size w w') :
    Calls Tryz.prog 150 #[.string s, .int .i64 B, .int .i64 64] w fun e w' => e = .returned (.tuple #[.int .i64 (v : Nat), .nilIface]) ∧ Below w.heap.size w w' := by
  have hemp : s.toList.isEmpty = false := by
    rw [← decide_eq_emptyBytes]
    exact decide_eq_false (fun h => by rw [h] at hpos; exact absurd hpos (by decide))
  have i43 : ((c0.toNat : Int) == 43) = false := by
    rw [beq_eq_false_iff_ne]; intro h; exact h43 (UInt8.toNat_inj.1 (by simpa using (by omega : c0.toNat = 43)))
  have i45 : ((c0.toNat : Int) == 45) = false := by
    rw [beq_eq_false_iff_ne]; intro h; exact h45 (UInt8.toNat_inj.1 (by simpa using (by omega : c0.toNat = 45)))
  obtain ⟨a, ha⟩ : ∃ a : Int, a = (v : Int) := ⟨_, rfl⟩
  rw [← ha] at hU ⊢
  have a0 : 0 ≤ a := by omega
  have a1 : a < 9223372036854775808 := by omega
  have hU' := Lib.hid hU
  have hs0' := hs0
  clear hU ha h43 h45
  go_enter Tryz.func150, Tryz.ntmps150
  go_wp2_with (go_at_call 178; refine hU'.out.mono ?_; rintro e w1 ⟨rfl, hb⟩)
  go_wp2
  go_ret2
  exact ⟨rfl, by assumption⟩

set_option maxHeartbeats 32000000 in
theorem parseInt_out (B : Int) (v : Nat) (s : ByteArray) (w : World)
    (hU : Calls Tryz.prog 150 #[.string s, .int .i64 B, .int .i64 64] w fun e w' => e = .returned (.tuple #[.int .i64 (v : Nat), .nilIface]) ∧ Below w.heap.size w w') :
    Calls Tryz.prog 101 #[.string s, .int .i64 B, .int .i64 64] w fun e w' => e = .returned (.tuple #[.int .i64 (v : Nat), .nilIface]) ∧ Below w.heap.size w w' := by
  have hU' := Lib.hid hU
  clear hU
  obtain ⟨a, ha⟩ : ∃ a : Int, a = (v : Int) := ⟨_, rfl⟩
  rw [← ha] at hU' ⊢
  clear ha
  go_enter Tryz.func101, Tryz.ntmps101
  go_wp2_with (go_at_call 150; refine hU'.out.mono ?_; rintro e w1 ⟨rfl, hb⟩)
  go_wp2
  go_ret2
  exact ⟨rfl, by assumption⟩

theorem parseInt_10 (s : ByteArray) (hne : s.size ≠ 0) (h7 : s.size ≤ 7) (hd : ∀ c ∈ s.data.toList, digit c < 10) (w : World) :
    Calls Tryz.prog 101 #[.string s, .int .i64 10, .int .i64 64] w fun e w' => e = .returned (.tuple #[.int .i64 (value 10 s.data.toList : Nat), .nilIface]) ∧ Below w.heap.size w w' := by
  have hpos : 0 < s.size := by omega
  have hm : s[0] ∈ s.data.toList := by rw [← Array.mem_def]; exact Array.getElem_mem _
  have hdg := digit10 s[0] (hd _ hm)
  have hl := value_lt 10 (by omega) s.data.toList.length s.data.toList rfl hd
  have h2 : 10 ^ s.data.toList.length ≤ 10 ^ 7 := Nat.pow_le_pow_right (by omega) (by rw [← Lib.size_eq]; exact h7)
  have h3 : (10 : Nat) ^ 7 ≤ 9223372036854775807 := by decide
  exact parseInt_out _ _ s w (parseInt_in _ _ s s[0] hpos rfl (by intro e; rw [e] at hdg; exact absurd hdg.1 (by decide)) (by intro e; rw [e] at hdg; exact absurd hdg.1 (by decide)) (by omega) w (parseUint_10 s hne h7 hd w))
theorem parseInt_16 (s : ByteArray) (hne : s.size ≠ 0) (h7 : s.size ≤ 7) (hd : ∀ c ∈ s.data.toList, digit c < 16) (w : World) :
    Calls Tryz.prog 101 #[.string s, .int .i64 16, .int .i64 64] w fun e w' => e = .returned (.tuple #[.int .i64 (value 16 s.data.toList : Nat), .nilIface]) ∧ Below w.heap.size w w' := by
  have hpos : 0 < s.size := by omega
  have hm : s[0] ∈ s.data.toList := by rw [← Array.mem_def]; exact Array.getElem_mem _
  have hdg := digit_cases s[0] (hd _ hm)
  have hl := value_lt 16 (by omega) s.data.toList.length s.data.toList rfl hd
  have h2 : 16 ^ s.data.toList.length ≤ 16 ^ 7 := Nat.pow_le_pow_right (by omega) (by rw [← Lib.size_eq]; exact h7)
  have h3 : (16 : Nat) ^ 7 ≤ 9223372036854775807 := by decide
  exact parseInt_out _ _ s w (parseInt_in _ _ s s[0] hpos rfl (by intro e; rw [e] at hdg; revert hdg; decide) (by intro e; rw [e] at hdg; revert hdg; decide) (by omega) w (parseUint_16 s hne h7 hd w))
end Go.Proofs.YthdlibgiejpjeaaGreatDoor.Given

/- The contract of escape.number. -/
namespace Go.Proofs.YthdlibgiejpjeaaGreatDoor.Given
open Go.RowKit Go.Proofs.YthdlibgiejpjeaaGreatDoor Go.Proofs.YthdlibgiejpjeaaGreatDoorW.PrintWords Go.Proofs.YthdlibgiejpjeaaGreatDoor.Spec

theorem encB_mk (m : Int) : (⟨(encB m).toArray⟩ : ByteArray) = Utf8.encode m := Lib.mk_data _
theorem set10_digit (c : UInt8) : set10.data.toList.contains c = decide (digit c < 10) := by
  revert c; refine all_u8 ?_; decide +kernel
theorem set16_digit (c : UInt8) : set16.data.toList.contains c = decide (digit c < 16) := by
  revert c; refine all_u8 ?_; decide +kernel
theorem hasPrefix_semi (l : List UInt8) : Lib.hasPrefix l [59] = true ↔ l.head? = some 59 := by
  cases l with
  | nil => simp [Lib.hasPrefix]
  | cons c r =>
    simp only [Lib.hasPrefix, List.isPrefixOf, Bool.and_true, beq_iff_eq, List.head?_cons, Option.some.injEq]
    exact ⟨fun h => h.symm, fun h => h.symm⟩
theorem size_of_data (b : ByteArray) : b.size = b.data.toList.length := Lib.size_eq b

set_option maxHeartbeats 8000000 in
set_option maxRecDepth 1000000 in
theorem number_10 (s : ByteArray) (w : World) (hG : GW w) (hs : s.size < 4294967281) :
    Calls Tryz.prog 61 #[.string s, .int .i64 10, .int .i64 7] w fun e w' => e = .returned (.tuple #[.string ⟨(number s.data.toList 10 7).1.toArray⟩, .int .i64 ((number s.data.toList 10 7).2 : Nat)]) ∧ Below w.heap.size w w' := by
  have hm1 := ml_make w
  have hi1 := ml_ins1 w
  have hi2 := ml_ins2 w
  have hl := ml_look10 w
  have hC := Lib.hid (cutLeft_escape s set10 (w.alloc (.map #[E10, E16] 2)) (by decide +kernel) hs (by decide))
  obtain ⟨res, hres⟩ : ∃ res, res = number s.data.toList 10 7 := ⟨_, rfl⟩
  rw [← hres]
  have hres' := Lib.hid hres; clear hres
  go_enter Tryz.func61, Tryz.ntmps61
  go_wp2_with fail
  refine hC.out.mono ?_
  rintro e W1 ⟨rfl, hb⟩
  clear hm1 hi1 hi2 hl
  have hW : Below w.heap.size w W1 := ((Below.refl _ w).alloc (Nat.le_refl _) _).trans (hb.mono (by simp))
  clear hb hC
  have hpf : (fun c => set10.data.toList.contains c) = (fun c => decide (digit c < 10)) := funext set10_digit
  have hsplit : s.data.toList.takeWhile (fun c => decide (digit c < 10)) ++ s.data.toList.dropWhile (set10.data.toList.contains ·) = s.data.toList := by
    rw [hpf]; exact List.takeWhile_append_dropWhile
  have hdg : ∀ c ∈ s.data.toList.takeWhile (fun c => decide (digit c < 10)), digit c < 10 := fun c hc => by
    have := List.all_eq_true.1 (List.all_takeWhile (p := fun c => decide (digit c < 10)) (l := s.data.toList)) c hc
    simpa using this
  have hnum : res = number s.data.toList 10 7 := hres'.out
  unfold number at hnum
  dsimp only at hnum
  generalize hdw : s.data.toList.dropWhile (set10.data.toList.contains ·) = dw at hsplit ⊢
  generalize htw : s.data.toList.takeWhile (fun c => decide (digit c < 10)) = tw at hsplit hdg hnum
  clear hdw htw hpf
  have hlen : tw.length + dw.length = s.size := by rw [size_of_data s, ← hsplit, List.length_append]
  have hsl : ∀ W, (Instr.slice 9 (.string s) none (some (.int .i64 ((s.size : Int) - (dw.length : Int)))) none).run Tryz.prog W = .ok (.string (s.extract 0 tw.length)) W := by
    intro W
    rw [run_slice_string_to_if _ _ _ _ _ Tryz.underlying9, if_pos ⟨by omega, by omega⟩]
    rw [show ((s.size : Int) - (dw.length : Int)).toNat = tw.length from by omega]
  have hdsl : (s.extract 0 tw.length).data.toList = tw := by
    rw [Lib.extract_data, ← hsplit]; simp
  have hrl : (s.extract tw.length s.size).data.toList = dw := by
    rw [Lib.extract_to_end, ← hsplit]; simp
  have hds : (s.extract 0 tw.length).size = tw.length := by rw [size_of_data, hdsl]
  have hsr : ∀ W, (Instr.slice 9 (.string s) (some (.int .i64 (tw.length : Int))) none none).run Tryz.prog W = .ok (.string (s.extract tw.length s.size)) W := by
    intro W
    rw [run_slice_string_from_if _ _ _ _ _ Tryz.underlying9, if_pos ⟨by omega, by omega⟩]
    rfl
  have hdrop : s.data.toList.drop tw.length = dw := by rw [← hsplit]; simp
  rw [hdrop] at hnum
  generalize s.extract 0 tw.length = ds at hsl hdsl hds
  generalize s.extract tw.length s.size = rest at hsr hrl
  rw [← hds] at hsr
  have hdle : ds.size ≤ s.size := by omega
  have hle2 : dw.length ≤ s.size := by omega
  have hcond : (tw = [] ∨ 7 < tw.length ∨ dw.head? ≠ some 59) ↔ (ds.size = 0 ∨ 7 < ds.size ∨ Lib.hasPrefix rest.data.toList [59] = false) := by
    rw [hds, hrl, ← Bool.not_eq_true, hasPrefix_semi, List.length_eq_zero_iff]
  have hdsl' := Lib.hid hdsl; clear hdsl
  have hds' := Lib.hid hds; clear hds
  have hrl' := Lib.hid hrl; clear hrl
  have hdg' := Lib.hid hdg; clear hdg
  have hnum' := Lib.hid hnum; clear hnum
  have hcond' := Lib.hid hcond; clear hcond
  clear hsplit hlen hdrop
  have none_case : (ds.size = 0 ∨ 7 < ds.size ∨ Lib.hasPrefix rest.data.toList [59] = false) → (⟨res.1.toArray⟩ : ByteArray) = ⟨#[]⟩ ∧ res.2 = 0 := by
    intro h
    have h2 := hnum'.out
    simp only [if_pos (hcond'.out.2 h)] at h2
    rw [h2]; exact ⟨rfl, rfl⟩
  have none_case' := Lib.hid none_case; clear none_case
  by_cases h0 : ds.size = 0
  · have h0' : ((ds.size : Int) == 0) = true := by rw [h0]; rfl
    have hn := none_case'.out (.inl h0)
    have hn' := Lib.hid hn; clear hn
    have h00 := Lib.hid h0; clear h0
    go_wp2_with fail
    go_ret2
    refine ⟨?_, hW⟩
    rw [hn'.out.1, hn'.out.2]; rfl
  · have h0' : ((ds.size : Int) == 0) = false := by rw [beq_eq_false_iff_ne]; omega
    by_cases h7 : 7 < ds.size
    · have hn := none_case'.out (.inr (.inl h7))
      have hn' := Lib.hid hn; clear hn
      have h7' : decide ((7 : Int) < ds.size) = true := by simp; omega
      go_wp2_with fail
      go_ret2
      refine ⟨?_, hW⟩
      rw [hn'.out.1, hn'.out.2]; rfl
    · have h7' : decide ((7 : Int) < ds.size) = false := by simp; omega
      have hP := Lib.hid (Tryz.strings_HasPrefix rest ⟨#[59]⟩ W1)
      cases hpre : Lib.hasPrefix rest.data.toList [59]
      · have hn := none_case'.out (.inr (.inr hpre))
        have hn' := Lib.hid hn; clear hn
        have hpre' := Lib.hid hpre; clear hpre
        go_wp2_with (go_at_call 76; refine hP.out.mono ?_; rintro e w' ⟨rfl, rfl⟩; rw [hpre'.out])
        go_ret2
        refine ⟨?_, hW⟩
        rw [hn'.out.1, hn'.out.2]; rfl
      · have hnum2 : res = (runeText (value 10 tw), tw.length + 1) := by
          have h2 := hnum'.out
          rw [if_neg (fun h => by rcases hcond'.out.1 h with h | h | h <;> simp_all)] at h2
          exact h2
        have hnum2' := Lib.hid hnum2; clear hnum2
        have hpre' := Lib.hid hpre; clear hpre
        have hI := parseInt_10 ds h0 (by omega) (by rw [hdsl'.out]; exact hdg'.out) W1
        rw [hdsl'.out] at hI
        have hvl := value_lt 10 (by omega) tw.length tw rfl hdg'.out
        have h2p : 10 ^ tw.length ≤ 10 ^ 7 := Nat.pow_le_pow_right (by omega) (by rw [← hds'.out]; omega)
        have h3p : (10 : Nat) ^ 7 ≤ 16777216 := by decide
        have hv : value 10 tw < 16777216 := by omega
        clear hvl h2p h3p
        generalize hvv : value 10 tw = v at hI hv
        have hvv' := Lib.hid hvv; clear hvv
        have hI' := Lib.hid hI; clear hI
        have hfin : ∀ n : Nat, runeOf v = n → (Ending.returned (.tuple #[.string (Utf8.encode (n : Int)), .int .i64 ((ds.size : Int) + 1)]) = Ending.returned (.tuple #[.string ⟨res.1.toArray⟩, .int .i64 (res.2 : Nat)])) := by
          intro n hn
          rw [hnum2'.out, hvv'.out, hds'.out]; unfold runeText; rw [hn, encB_mk]; rfl
        have hfin' := Lib.hid hfin; clear hfin
        have hV := Lib.hid (fun W => Tryz.utf8_ValidRune (v : Int) W)
        by_cases hv0 : v = 0
        · subst hv0
          go_wp2_with (first | (go_at_call 76; refine hP.out.mono ?_; rintro e w' ⟨rfl, rfl⟩; rw [hpre'.out]) | (go_at_call 101; refine hI'.out.mono ?_; rintro e W2 ⟨rfl, hb2⟩))
          go_ret2
          refine ⟨?_, hW.trans (hb2.mono hW.size)⟩
          exact hfin'.out 65533 (by decide)
        · have hv0' : ((v : Int) == 0) = false := by rw [beq_eq_false_iff_ne]; omega
          cases hval : Lib.validRune (v : Int)
          · have hr : runeOf v = 65533 := by
              unfold runeOf; unfold Lib.validRune at hval; rw [decide_eq_false_iff_not] at hval; rw [if_pos (by omega)]
            have hr' := Lib.hid hr; clear hr
            have hval' := Lib.hid hval; clear hval
            have hv00 := Lib.hid hv0; clear hv0
            go_wp2_with (first | (go_at_call 76; refine hP.out.mono ?_; rintro e w' ⟨rfl, rfl⟩; rw [hpre'.out]) | (go_at_call 101; refine hI'.out.mono ?_; rintro e W2 ⟨rfl, hb2⟩) | (go_at_call 102; refine (hV.out _).mono ?_; rintro e w' ⟨rfl, rfl⟩; rw [hval'.out]))
            go_ret2
            refine ⟨?_, hW.trans (hb2.mono hW.size)⟩
            exact hfin'.out 65533 hr'.out
          · have hr : runeOf v = v := by
              unfold runeOf; unfold Lib.validRune at hval; rw [decide_eq_true_eq] at hval; rw [if_neg (by omega)]
            have hr' := Lib.hid hr; clear hr
            have hval' := Lib.hid hval; clear hval
            have hv00 := Lib.hid hv0; clear hv0
            go_wp2_with (first | (go_at_call 76; refine hP.out.mono ?_; rintro e w' ⟨rfl, rfl⟩; rw [hpre'.out]) | (go_at_call 101; refine hI'.out.mono ?_; rintro e W2 ⟨rfl, hb2⟩) | (go_at_call 102; refine (hV.out _).mono ?_; rintro e w' ⟨rfl, rfl⟩; rw [hval'.out]))
            go_ret2
            refine ⟨?_, hW.trans (hb2.mono hW.size)⟩
            exact hfin'.out v hr'.out

set_option maxHeartbeats 8000000 in
set_option maxRecDepth 1000000 in
theorem number_16 (s : ByteArray) (w : World) (hG : GW w) (hs : s.size < 4294967281) :
    Calls Tryz.prog 61 #[.string s, .int .i64 16, .int .i64 6] w fun e w' => e = .returned (.tuple #[.string ⟨(number s.data.toList 16 6).1.toArray⟩, .int .i64 ((number s.data.toList 16 6).2 : Nat)]) ∧ Below w.heap.size w w' := by
  have hm1 := ml_make w
  have hi1 := ml_ins1 w
  have hi2 := ml_ins2 w
  have hl := ml_look16 w
  have hC := Lib.hid (cutLeft_escape s set16 (w.alloc (.map #[E10, E16] 2)) (by decide +kernel) hs (by decide))
  obtain ⟨res, hres⟩ : ∃ res, res = number s.data.toList 16 6 := ⟨_, rfl⟩
  rw [← hres]
  have hres' := Lib.hid hres; clear hres
  go_enter Tryz.func61, Tryz.ntmps61
  go_wp2_with fail
  refine hC.out.mono ?_
  rintro e W1 ⟨rfl, hb⟩
  clear hm1 hi1 hi2 hl
  have hW : Below w.heap.size w W1 := ((Below.refl _ w).alloc (Nat.le_refl _) _).trans (hb.mono (by simp))
  clear hb hC
  have hpf : (fun c => set16.data.toList.contains c) = (fun c => decide (digit c < 16)) := funext set16_digit
  have hsplit : s.data.toList.takeWhile (fun c => decide (digit c < 16)) ++ s.data.toList.dropWhile (set16.data.toList.contains ·) = s.data.toList := by
    rw [hpf]; exact List.takeWhile_append_dropWhile
  have hdg : ∀ c ∈ s.data.toList.takeWhile (fun c => decide (digit c < 16)), digit c < 16 := fun c hc => by
    have := List.all_eq_true.1 (List.all_takeWhile (p := fun c => decide (digit c < 16)) (l := s.data.toList)) c hc
    simpa using this
  have hnum : res = number s.data.toList 16 6 := hres'.out
  unfold number at hnum
  dsimp only at hnum
  generalize hdw : s.data.toList.dropWhile (set16.data.toList.contains ·) = dw at hsplit ⊢
  generalize htw : s.data.toList.takeWhile (fun c => decide (digit c < 16)) = tw at hsplit hdg hnum
  clear hdw htw hpf
  have hlen : tw.length + dw.length = s.size := by rw [size_of_data s, ← hsplit, List.length_append]
  have hsl : ∀ W, (Instr.slice 9 (.string s) none (some (.int .i64 ((s.size : Int) - (dw.length : Int)))) none).run Tryz.prog W = .ok (.string (s.extract 0 tw.length)) W := by
    intro W
    rw [run_slice_string_to_if _ _ _ _ _ Tryz.underlying9, if_pos ⟨by omega, by omega⟩]
    rw [show ((s.size : Int) - (dw.length : Int)).toNat = tw.length from by omega]
  have hdsl : (s.extract 0 tw.length).data.toList = tw := by
    rw [Lib.extract_data, ← hsplit]; simp
  have hrl : (s.extract tw.length s.size).data.toList = dw := by
    rw [Lib.extract_to_end, ← hsplit]; simp
  have hds : (s.extract 0 tw.length).size = tw.length := by rw [size_of_data, hdsl]
  have hsr : ∀ W, (Instr.slice 9 (.string s) (some (.int .i64 (tw.length : Int))) none none).run Tryz.prog W = .ok (.string (s.extract tw.length s.size)) W := by
    intro W
    rw [run_slice_string_from_if _ _ _ _ _ Tryz.underlying9, if_pos ⟨by omega, by omega⟩]
    rfl
  have hdrop : s.data.toList.drop tw.length = dw := by rw [← hsplit]; simp
  rw [hdrop] at hnum
  generalize s.extract 0 tw.length = ds at hsl hdsl hds
  generalize s.extract tw.length s.size = rest at hsr hrl
  rw [← hds] at hsr
  have hdle : ds.size ≤ s.size := by omega
  have hle2 : dw.length ≤ s.size := by omega
  have hcond : (tw = [] ∨ 6 < tw.length ∨ dw.head? ≠ some 59) ↔ (ds.size = 0 ∨ 6 < ds.size ∨ Lib.hasPrefix rest.data.toList [59] = false) := by
    rw [hds, hrl, ← Bool.not_eq_true, hasPrefix_semi, List.length_eq_zero_iff]
  have hdsl' := Lib.hid hdsl; clear hdsl
  have hds' := Lib.hid hds; clear hds
  have hrl' := Lib.hid hrl; clear hrl
  have hdg' := Lib.hid hdg; clear hdg
  have hnum' := Lib.hid hnum; clear hnum
  have hcond' := Lib.hid hcond; clear hcond
  clear hsplit hlen hdrop
  have none_case : (ds.size = 0 ∨ 6 < ds.size ∨ Lib.hasPrefix rest.data.toList [59] = false) → (⟨res.1.toArray⟩ : ByteArray) = ⟨#[]⟩ ∧ res.2 = 0 := by
    intro h
    have h2 := hnum'.out
    simp only [if_pos (hcond'.out.2 h)] at h2
    rw [h2]; exact ⟨rfl, rfl⟩
  have none_case' := Lib.hid none_case; clear none_case
  by_cases h0 : ds.size = 0
  · have h0' : ((ds.size : Int) == 0) = true := by rw [h0]; rfl
    have hn := none_case'.out (.inl h0)
    have hn' := Lib.hid hn; clear hn
    have h00 := Lib.hid h0; clear h0
    go_wp2_with fail
    go_ret2
    refine ⟨?_, hW⟩
    rw [hn'.out.1, hn'.out.2]; rfl
  · have h0' : ((ds.size : Int) == 0) = false := by rw [beq_eq_false_iff_ne]; omega
    by_cases h7 : 6 < ds.size
    · have hn := none_case'.out (.inr (.inl h7))
      have hn' := Lib.hid hn; clear hn
      have h7' : decide ((6 : Int) < ds.size) = true := by simp; omega
      go_wp2_with fail
      go_ret2
      refine ⟨?_, hW⟩
      rw [hn'.out.1, hn'.out.2]; rfl
    · have h7' : decide ((6 : Int) < ds.size) = false := by simp; omega
      have hP := Lib.hid (Tryz.strings_HasPrefix rest ⟨#[59]⟩ W1)
      cases hpre : Lib.hasPrefix rest.data.toList [59]
      · have hn := none_case'.out (.inr (.inr hpre))
        have hn' := Lib.hid hn; clear hn
        have hpre' := Lib.hid hpre; clear hpre
        go_wp2_with (go_at_call 76; refine hP.out.mono ?_; rintro e w' ⟨rfl, rfl⟩; rw [hpre'.out])
        go_ret2
        refine ⟨?_, hW⟩
        rw [hn'.out.1, hn'.out.2]; rfl
      · have hnum2 : res = (runeText (value 16 tw), tw.length + 1) := by
          have h2 := hnum'.out
          rw [if_neg (fun h => by rcases hcond'.out.1 h with h | h | h <;> simp_all)] at h2
          exact h2
        have hnum2' := Lib.hid hnum2; clear hnum2
        have hpre' := Lib.hid hpre; clear hpre
        have hI := parseInt_16 ds h0 (by omega) (by rw [hdsl'.out]; exact hdg'.out) W1
        rw [hdsl'.out] at hI
        have hvl := value_lt 16 (by omega) tw.length tw rfl hdg'.out
        have h2p : 16 ^ tw.length ≤ 16 ^ 6 := Nat.pow_le_pow_right (by omega) (by rw [← hds'.out]; omega)
        have h3p : (16 : Nat) ^ 6 ≤ 16777216 := by decide
        have hv : value 16 tw < 16777216 := by omega
        clear hvl h2p h3p
        generalize hvv : value 16 tw = v at hI hv
        have hvv' := Lib.hid hvv; clear hvv
        have hI' := Lib.hid hI; clear hI
        have hfin : ∀ n : Nat, runeOf v = n → (Ending.returned (.tuple #[.string (Utf8.encode (n : Int)), .int .i64 ((ds.size : Int) + 1)]) = Ending.returned (.tuple #[.string ⟨res.1.toArray⟩, .int .i64 (res.2 : Nat)])) := by
          intro n hn
          rw [hnum2'.out, hvv'.out, hds'.out]; unfold runeText; rw [hn, encB_mk]; rfl
        have hfin' := Lib.hid hfin; clear hfin
        have hV := Lib.hid (fun W => Tryz.utf8_ValidRune (v : Int) W)
        by_cases hv0 : v = 0
        · subst hv0
          go_wp2_with (first | (go_at_call 76; refine hP.out.mono ?_; rintro e w' ⟨rfl, rfl⟩; rw [hpre'.out]) | (go_at_call 101; refine hI'.out.mono ?_; rintro e W2 ⟨rfl, hb2⟩))
          go_ret2
          refine ⟨?_, hW.trans (hb2.mono hW.size)⟩
          exact hfin'.out 65533 (by decide)
        · have hv0' : ((v : Int) == 0) = false := by rw [beq_eq_false_iff_ne]; omega
          cases hval : Lib.validRune (v : Int)
          · have hr : runeOf v = 65533 := by
              unfold runeOf; unfold Lib.validRune at hval; rw [decide_eq_false_iff_not] at hval; rw [if_pos (by omega)]
            have hr' := Lib.hid hr; clear hr
            have hval' := Lib.hid hval; clear hval
            have hv00 := Lib.hid hv0; clear hv0
            go_wp2_with (first | (go_at_call 76; refine hP.out.mono ?_; rintro e w' ⟨rfl, rfl⟩; rw [hpre'.out]) | (go_at_call 101; refine hI'.out.mono ?_; rintro e W2 ⟨rfl, hb2⟩) | (go_at_call 102; refine (hV.out _).mono ?_; rintro e w' ⟨rfl, rfl⟩; rw [hval'.out]))
            go_ret2
            refine ⟨?_, hW.trans (hb2.mono hW.size)⟩
            exact hfin'.out 65533 hr'.out
          · have hr : runeOf v = v := by
              unfold runeOf; unfold Lib.validRune at hval; rw [decide_eq_true_eq] at hval; rw [if_neg (by omega)]
            have hr' := Lib.hid hr; clear hr
            have hval' := Lib.hid hval; clear hval
            have hv00 := Lib.hid hv0; clear hv0
            go_wp2_with (first | (go_at_call 76; refine hP.out.mono ?_; rintro e w' ⟨rfl, rfl⟩; rw [hpre'.out]) | (go_at_call 101; refine hI'.out.mono ?_; rintro e W2 ⟨rfl, hb2⟩) | (go_at_call 102; refine (hV.out _).mono ?_; rintro e w' ⟨rfl, rfl⟩; rw [hval'.out]))
            go_ret2
            refine ⟨?_, hW.trans (hb2.mono hW.size)⟩
            exact hfin'.out v hr'.out

end Go.Proofs.YthdlibgiejpjeaaGreatDoor.Given

/- The contract of escape.Entity. -/
namespace Go.Proofs.YthdlibgiejpjeaaGreatDoor.Given
open Go.RowKit Go.Proofs.YthdlibgiejpjeaaGreatDoor Go.Proofs.YthdlibgiejpjeaaGreatDoorW.PrintWords Go.Proofs.YthdlibgiejpjeaaGreatDoor.Spec

theorem index_semi (p : UInt8 → Bool) (c : UInt8) (hp : ∀ x, p x = true ↔ x ≠ c) (s : List UInt8) : Lib.index s [c] = if (s.takeWhile p).length < s.length then ((s.takeWhile p).length : Int) else -1 := by
  induction s with
  | nil => simp [Lib.index]
  | cons a r ih =>
    by_cases h : a = c
    · subst h
      have hpa : p a = false := by rw [Bool.eq_false_iff]; intro e; exact (hp a).1 e rfl
      simp [Lib.index, List.takeWhile_cons, hpa]
    · have hc : (c == a) = false := by simpa using Ne.symm h
      have hpa : p a = true := (hp a).2 h
      have htw : (a :: r).takeWhile p = a :: r.takeWhile p := by simp [List.takeWhile_cons, hpa]
      rw [htw]
      simp only [Lib.index, List.isPrefixOf, hc, Bool.false_and, Bool.false_eq_true, if_false, ih, List.length_cons]
      by_cases hl : (r.takeWhile p).length < r.length
      · rw [if_pos hl, if_neg (by rw [beq_iff_eq]; omega), if_pos (by omega)]
        omega
      · rw [if_neg hl, if_neg (show ¬ (r.takeWhile p).length + 1 < r.length + 1 by omega)]; rfl
theorem cut_semi (p : UInt8 → Bool) (c : UInt8) (hp : ∀ x, p x = true ↔ x ≠ c) (s : List UInt8) : (Lib.cut s [c]).1 = s.takeWhile p ∧ (Lib.cut s [c]).2.2 = decide ((s.takeWhile p).length < s.length) := by
  have hle : (s.takeWhile p).length ≤ s.length := (List.takeWhile_sublist _).length_le
  unfold Lib.cut
  rw [index_semi p c hp]
  by_cases h : (s.takeWhile p).length < s.length
  · rw [if_pos h, if_pos (by omega)]
    refine ⟨?_, by simp [h]⟩
    simp only [Int.toNat_natCast]
    have this : s.takeWhile p ++ s.dropWhile p = s := List.takeWhile_append_dropWhile
    have h2 : (s.takeWhile p ++ s.dropWhile p).take (s.takeWhile p).length = s.takeWhile p := List.take_left
    rw [this] at h2; exact h2
  · rw [if_neg h, if_neg (by omega)]
    refine ⟨?_, by simp [h]⟩
    have h1 : (s.takeWhile p).length = s.length := by omega
    exact ((List.takeWhile_sublist (p := p) (l := s)).eq_of_length h1).symm
theorem notSemi_iff (x : UInt8) : notSemi x = true ↔ x ≠ 59 := by unfold notSemi; simp
theorem trim_hit (c : UInt8) (r : List UInt8) : Lib.trimPrefix (c :: r) [c] = r ∧ Lib.hasPrefix (c :: r) [c] = true := by
  simp [Lib.trimPrefix, Lib.hasPrefix, List.isPrefixOf]
theorem trim_miss (c : UInt8) (l : List UInt8) (h : l.head? ≠ some c) : Lib.trimPrefix l [c] = l ∧ Lib.hasPrefix l [c] = false := by
  have h2 : Lib.hasPrefix l [c] = false := by
    cases l with
    | nil => rfl
    | cons a r =>
      simp only [List.head?_cons, ne_eq, Option.some.injEq] at h
      simp [Lib.hasPrefix, List.isPrefixOf]; exact fun e => h e.symm
  exact ⟨by simp [Lib.trimPrefix, h2], h2⟩
def mkB (l : List UInt8) : ByteArray := ⟨l.toArray⟩
theorem mkB_data (l : List UInt8) : (mkB l).data.toList = l := rfl
theorem mkB_size (l : List UInt8) : (mkB l).size = l.length := rfl
theorem mkB_of (s : ByteArray) (l : List UInt8) (h : s.data.toList = l) : s = mkB l := by subst h; exact (Lib.mk_data s).symm
theorem cutp_hit (c : UInt8) (r : List UInt8) (w : World) :
    Calls Tryz.prog 58 #[.string (mkB (c :: r)), .string ⟨#[c]⟩] w fun e w' => e = .returned (.tuple #[.string (mkB r), .bool true]) ∧ w' = w := by
  have h := Tryz.strings_CutPrefix (mkB (c :: r)) ⟨#[c]⟩ w
  have ht := trim_hit c r
  rw [mkB_data, show (⟨#[c]⟩ : ByteArray).data.toList = [c] from rfl, ht.1, ht.2] at h
  exact h
theorem cutp_miss (c : UInt8) (l : List UInt8) (hl : l.head? ≠ some c) (w : World) :
    Calls Tryz.prog 58 #[.string (mkB l), .string ⟨#[c]⟩] w fun e w' => e = .returned (.tuple #[.string (mkB l), .bool false]) ∧ w' = w := by
  have h := Tryz.strings_CutPrefix (mkB l) ⟨#[c]⟩ w
  have ht := trim_miss c l hl
  rw [mkB_data, show (⟨#[c]⟩ : ByteArray).data.toList = [c] from rfl, ht.1, ht.2] at h
  exact h

/-- What entity comes to, case by case. -/
theorem entity_none (l : List UInt8) (h : l.head? ≠ some 38) : entity l = ([], 0) := by
  cases l with
  | nil => rfl
  | cons a r =>
    simp only [List.head?_cons, ne_eq, Option.some.injEq] at h
    unfold entity
    split
    · rename_i hh; injection hh with h1 _; exact absurd h1 h
    · rename_i hh; injection hh with h1 _; exact absurd h1 h
    · rfl
theorem entity_name (rest : List UInt8) (h : rest.head? ≠ some 35) : entity (38 :: rest) = (if (rest.takeWhile notSemi).length < rest.length ∧ named (rest.takeWhile notSemi) ≠ [] then (named (rest.takeWhile notSemi), (rest.takeWhile notSemi).length + 2) else ([], 0)) := by
  unfold entity
  split
  · rename_i hh; injection hh with _ h1; subst h1; simp at h
  · rename_i hh; injection hh with _ h1; subst h1; rfl
  · rename_i h1 h2; exact absurd rfl (h2 rest)

set_option maxHeartbeats 8000000 in
set_option maxRecDepth 1000000 in
theorem entity_calls_name (rest : List UInt8) (h : rest.head? ≠ some 35) (w : World) (hG : GW w) (hs : (mkB (38 :: rest)).size < 4294967281) :
    Calls Tryz.prog 25 #[.string (mkB (38 :: rest))] w fun e w' => e = .returned (.tuple #[.string (mkB (entity (38 :: rest)).1), .int .i64 ((entity (38 :: rest)).2 : Nat)]) ∧ Below w.heap.size w w' := by
  obtain ⟨res, hres⟩ : ∃ res, res = entity (38 :: rest) := ⟨_, rfl⟩
  rw [← hres]
  rw [entity_name rest h] at hres
  rw [mkB_size, List.length_cons] at hs
  have h1 := cutp_hit 38 rest w
  have h2 := cutp_miss 35 rest h w
  have h3 := cut_calls (mkB rest) ⟨#[59]⟩ w hG (by rw [mkB_size]; omega)
  rw [mkB_data, show (⟨#[59]⟩ : ByteArray).data.toList = [59] from rfl, (cut_semi notSemi 59 notSemi_iff rest).1, (cut_semi notSemi 59 notSemi_iff rest).2] at h3
  have hle : (rest.takeWhile notSemi).length ≤ rest.length := (List.takeWhile_sublist _).length_le
  generalize (Lib.cut rest [59]).2.1 = c2 at h3
  generalize rest.takeWhile notSemi = nm at h3 hres hle
  have h3 : Calls Tryz.prog 59 #[.string (mkB rest), .string ⟨#[59]⟩] w fun e w' => e = .returned (.tuple #[.string (mkB nm), .string (mkB c2), .bool (decide (nm.length < rest.length))]) ∧ Below w.heap.size w w' := h3
  have h4 := fun W => named_calls (mkB nm) W (by rw [mkB_size]; omega)
  rw [mkB_data] at h4
  generalize named nm = t at h4 hres
  have h4 : ∀ W, Calls Tryz.prog 60 #[.string (mkB nm)] W fun e w' => e = .returned (.string (mkB t)) ∧ Below W.heap.size W w' := h4
  have hsz := Lib.hid (mkB_size nm)
  have hbn : (mkB nm).size < 4294967281 := by rw [mkB_size]; omega
  have h1' := Lib.hid h1; clear h1
  have h2' := Lib.hid h2; clear h2
  have h3' := Lib.hid h3; clear h3
  have h4' := Lib.hid h4; clear h4
  have hres' := Lib.hid hres; clear hres
  clear hle
  generalize hNM : mkB nm = NM at *
  have hNM' := Lib.hid hNM; clear hNM
  generalize hT : mkB t = TT at *
  have hT' := Lib.hid hT; clear hT
  cases hf : decide (nm.length < rest.length)
  · have hr2 : res = ([], 0) := by rw [hres'.out, if_neg (fun hh => by simp at hf; omega)]
    rw [hf] at h3'
    have hr2' := Lib.hid hr2; clear hr2
    clear hf
    go_enter Tryz.func25, Tryz.ntmps25
    go_wp2_with fail
    refine h1'.out.mono ?_
    rintro e w1 ⟨rfl, rfl⟩
    go_wp2_with fail
    refine h2'.out.mono ?_
    rintro e w1 ⟨rfl, rfl⟩
    go_wp2_with fail
    refine h3'.out.mono ?_
    rintro e w2 ⟨rfl, hb2⟩
    go_wp2_with fail
    refine (h4'.out w2).mono ?_
    rintro e w3 ⟨rfl, hb3⟩
    go_wp2_with fail
    go_ret2
    refine ⟨?_, hb2.trans (hb3.mono hb2.size)⟩
    rw [hr2'.out]; rfl
  · rw [hf] at h3'
    have hf' := Lib.hid hf; clear hf
    by_cases hte : t = []
    · have hr2 : res = ([], 0) := by rw [hres'.out, if_neg (fun hh => hh.2 hte)]
      have hr2' := Lib.hid hr2; clear hr2
      have hem : TT.toList.isEmpty = true := by rw [← hT'.out, hte, Lib.toList_data]; rfl
      have hem2 : TT.toList = [] := by simpa using hem
      clear hte
      go_enter Tryz.func25, Tryz.ntmps25
      go_wp2_with fail
      refine h1'.out.mono ?_
      rintro e w1 ⟨rfl, rfl⟩
      go_wp2_with fail
      refine h2'.out.mono ?_
      rintro e w1 ⟨rfl, rfl⟩
      go_wp2_with fail
      refine h3'.out.mono ?_
      rintro e w2 ⟨rfl, hb2⟩
      go_wp2_with fail
      refine (h4'.out w2).mono ?_
      rintro e w3 ⟨rfl, hb3⟩
      go_wp2_with fail
      go_ret2
      refine ⟨?_, hb2.trans (hb3.mono hb2.size)⟩
      rw [hr2'.out]; rfl
    · have hr2 : res = (t, nm.length + 2) := by rw [hres'.out, if_pos ⟨by simpa using hf'.out, hte⟩]
      have hr2' := Lib.hid hr2; clear hr2
      have hem : TT.toList.isEmpty = false := by rw [← hT'.out, Lib.toList_data, mkB_data]; simpa using hte
      have hem2 : ¬ TT.toList = [] := by simpa using hem
      clear hte
      go_enter Tryz.func25, Tryz.ntmps25
      go_wp2_with fail
      refine h1'.out.mono ?_
      rintro e w1 ⟨rfl, rfl⟩
      go_wp2_with fail
      refine h2'.out.mono ?_
      rintro e w1 ⟨rfl, rfl⟩
      go_wp2_with fail
      refine h3'.out.mono ?_
      rintro e w2 ⟨rfl, hb2⟩
      go_wp2_with fail
      refine (h4'.out w2).mono ?_
      rintro e w3 ⟨rfl, hb3⟩
      go_wp2_with fail
      go_ret2
      refine ⟨?_, hb2.trans (hb3.mono hb2.size)⟩
      rw [hr2'.out, ← hT'.out]
      show Ending.returned (.tuple #[.string (mkB t), .int .i64 ((NM.size : Int) + 2)]) = _
      rw [hsz.out]; rfl

set_option maxHeartbeats 8000000 in
set_option maxRecDepth 1000000 in
theorem entity_calls_none (l : List UInt8) (h : l.head? ≠ some 38) (w : World) :
    Calls Tryz.prog 25 #[.string (mkB l)] w fun e w' => e = .returned (.tuple #[.string (mkB (entity l).1), .int .i64 ((entity l).2 : Nat)]) ∧ Below w.heap.size w w' := by
  rw [entity_none l h]
  have h1 := cutp_miss 38 l h w
  have h1' := Lib.hid h1; clear h1
  go_enter Tryz.func25, Tryz.ntmps25
  go_wp2_with fail
  refine h1'.out.mono ?_
  rintro e w1 ⟨rfl, rfl⟩
  go_wp2_with fail
  go_ret2
  exact ⟨rfl, Below.refl _ _⟩

theorem entity_num (hash : List UInt8) : entity (38 :: 35 :: hash) = (let q := if (hash.head?.map (fun c => decide (c ||| 32 = 120))).getD false = true then (number hash.tail 16 6, 3) else (number hash 10 7, 2)
    if q.1.2 = 0 then ([], 0) else (q.1.1, q.2 + q.1.2)) := by
  cases hash with
  | nil => rfl
  | cons c r =>
    show (let p := (if c ||| 32 = 120 then (number r 16 6, 3) else (number (c :: r) 10 7, 2)); if p.1.2 = 0 then (([], 0) : List UInt8 × Nat) else (p.1.1, p.2 + p.1.2)) = _
    by_cases h : c ||| 32 = 120
    · simp [h]
    · simp [h]
theorem or_120 (c : UInt8) : (bits .or .u8 (c.toNat : Int) 32 == 120) = decide (c ||| 32 = 120) := by
  revert c; refine all_u8 ?_; decide +kernel

set_option maxHeartbeats 8000000 in
set_option maxRecDepth 1000000 in
theorem entity_calls_dec (hash : List UInt8) (hx : (hash.head?.map (fun c => decide (c ||| 32 = 120))).getD false = false) (w : World) (hG : GW w) (hs : (mkB (38 :: 35 :: hash)).size < 4294967281) :
    Calls Tryz.prog 25 #[.string (mkB (38 :: 35 :: hash))] w fun e w' => e = .returned (.tuple #[.string (mkB (entity (38 :: 35 :: hash)).1), .int .i64 ((entity (38 :: 35 :: hash)).2 : Nat)]) ∧ Below w.heap.size w w' := by
  obtain ⟨res, hres⟩ : ∃ res, res = entity (38 :: 35 :: hash) := ⟨_, rfl⟩
  rw [← hres]
  rw [entity_num, hx] at hres
  simp only [Bool.false_eq_true, if_false] at hres
  rw [mkB_size, List.length_cons, List.length_cons] at hs
  have h1 := cutp_hit 38 (35 :: hash) w
  have h2 := cutp_hit 35 hash w
  have h4 := number_10 (mkB hash) w hG (by rw [mkB_size]; omega)
  rw [mkB_data] at h4
  have hle : (number hash 10 7).2 ≤ hash.length + 1 := by
    unfold number; dsimp only; split
    · omega
    · have := (List.takeWhile_sublist (fun c => decide (digit c < 10)) (l := hash)).length_le
      simp only; omega
  generalize number hash 10 7 = nb at h4 hres hle
  obtain ⟨t, n⟩ := nb
  simp only at h4 hres hle
  have h4 : Calls Tryz.prog 61 #[.string (mkB hash), .int .i64 10, .int .i64 7] w fun e w' => e = .returned (.tuple #[.string (mkB t), .int .i64 (n : Nat)]) ∧ Below w.heap.size w w' := h4
  have hn : n < 4294967290 := by omega
  have h1' := Lib.hid h1; clear h1
  have h2' := Lib.hid h2; clear h2
  have h4' := Lib.hid h4; clear h4
  have hres' := Lib.hid hres; clear hres
  have key : (mkB hash).toList = [] ∨ ((mkB hash).toList.isEmpty = false ∧ ∃ c, ∃ h : 0 < (mkB hash).size, (mkB hash)[0] = c ∧ (bits .or .u8 (c.toNat : Int) 32 == 120) = false) := by
    cases hash with
    | nil => exact .inl (by rw [Lib.toList_data]; rfl)
    | cons c r =>
      refine .inr ⟨by rw [Lib.toList_data]; rfl, c, by rw [mkB_size]; simp, rfl, ?_⟩
      rw [or_120]; simpa using hx
  have hx' := Lib.hid hx; clear hx
  clear hle
  generalize hH : mkB hash = HB at *
  have hH' := Lib.hid hH; clear hH
  have finish : ∀ w2, Below w.heap.size w w2 → (n = 0 ∨ n ≠ 0) → True := fun _ _ _ => trivial
  clear finish
  rcases key with he | ⟨he, c, hpos, hc0, hor⟩
  · have he2 : HB.toList.isEmpty = true := by rw [he]; rfl
    by_cases hn0 : n = 0
    · subst hn0
      have hr2 : res = ([], 0) := by rw [hres'.out, if_pos rfl]
      have hr2' := Lib.hid hr2; clear hr2
      go_enter Tryz.func25, Tryz.ntmps25
      go_wp2_with fail
      refine h1'.out.mono ?_
      rintro e w1 ⟨rfl, rfl⟩
      go_wp2_with fail
      refine h2'.out.mono ?_
      rintro e w1 ⟨rfl, rfl⟩
      go_wp2_with fail
      refine h4'.out.mono ?_
      rintro e w2 ⟨rfl, hb2⟩
      go_wp2_with fail
      go_ret2
      refine ⟨?_, hb2⟩
      rw [hr2'.out]; rfl
    · have hr2 : res = (t, 2 + n) := by rw [hres'.out, if_neg hn0]
      have hr2' := Lib.hid hr2; clear hr2
      have hn1 : ((n : Int) == 0) = false := by rw [beq_eq_false_iff_ne]; omega
      go_enter Tryz.func25, Tryz.ntmps25
      go_wp2_with fail
      refine h1'.out.mono ?_
      rintro e w1 ⟨rfl, rfl⟩
      go_wp2_with fail
      refine h2'.out.mono ?_
      rintro e w1 ⟨rfl, rfl⟩
      go_wp2_with fail
      refine h4'.out.mono ?_
      rintro e w2 ⟨rfl, hb2⟩
      go_wp2_with fail
      go_ret2
      refine ⟨?_, hb2⟩
      rw [hr2'.out]
      show Ending.returned (.tuple #[.string (mkB t), .int .i64 (2 + (n : Int))]) = Ending.returned (.tuple #[.string (mkB t), .int .i64 ((2 + n : Nat) : Int)])
      rw [Int.natCast_add]; rfl
  · have he2 : ¬ HB.toList = [] := by intro e; rw [e] at he; cases he
    by_cases hn0 : n = 0
    · subst hn0
      have hr2 : res = ([], 0) := by rw [hres'.out, if_pos rfl]
      have hr2' := Lib.hid hr2; clear hr2
      go_enter Tryz.func25, Tryz.ntmps25
      go_wp2_with fail
      refine h1'.out.mono ?_
      rintro e w1 ⟨rfl, rfl⟩
      go_wp2_with fail
      refine h2'.out.mono ?_
      rintro e w1 ⟨rfl, rfl⟩
      go_wp2_with fail
      refine h4'.out.mono ?_
      rintro e w2 ⟨rfl, hb2⟩
      go_wp2_with fail
      go_ret2
      refine ⟨?_, hb2⟩
      rw [hr2'.out]; rfl
    · have hr2 : res = (t, 2 + n) := by rw [hres'.out, if_neg hn0]
      have hr2' := Lib.hid hr2; clear hr2
      have hn1 : ((n : Int) == 0) = false := by rw [beq_eq_false_iff_ne]; omega
      go_enter Tryz.func25, Tryz.ntmps25
      go_wp2_with fail
      refine h1'.out.mono ?_
      rintro e w1 ⟨rfl, rfl⟩
      go_wp2_with fail
      refine h2'.out.mono ?_
      rintro e w1 ⟨rfl, rfl⟩
      go_wp2_with fail
      refine h4'.out.mono ?_
      rintro e w2 ⟨rfl, hb2⟩
      go_wp2_with fail
      go_ret2
      refine ⟨?_, hb2⟩
      rw [hr2'.out]
      show Ending.returned (.tuple #[.string (mkB t), .int .i64 (2 + (n : Int))]) = Ending.returned (.tuple #[.string (mkB t), .int .i64 ((2 + n : Nat) : Int)])
      rw [Int.natCast_add]; rfl

set_option maxHeartbeats 8000000 in
set_option maxRecDepth 1000000 in
theorem entity_calls_hex (c : UInt8) (h1l : List UInt8) (hx : c ||| 32 = 120) (w : World) (hG : GW w) (hs : (mkB (38 :: 35 :: c :: h1l)).size < 4294967281) :
    Calls Tryz.prog 25 #[.string (mkB (38 :: 35 :: c :: h1l))] w fun e w' => e = .returned (.tuple #[.string (mkB (entity (38 :: 35 :: c :: h1l)).1), .int .i64 ((entity (38 :: 35 :: c :: h1l)).2 : Nat)]) ∧ Below w.heap.size w w' := by
  obtain ⟨res, hres⟩ : ∃ res, res = entity (38 :: 35 :: c :: h1l) := ⟨_, rfl⟩
  rw [← hres]
  rw [entity_num] at hres
  simp only [List.head?_cons, Option.map_some, hx, decide_true, Option.getD_some, if_true, List.tail_cons] at hres
  rw [mkB_size, List.length_cons, List.length_cons, List.length_cons] at hs
  have h1 := cutp_hit 38 (35 :: c :: h1l) w
  have h2 := cutp_hit 35 (c :: h1l) w
  have h4 := number_16 (mkB h1l) w hG (by rw [mkB_size]; omega)
  rw [mkB_data] at h4
  have hle : (number h1l 16 6).2 ≤ h1l.length + 1 := by
    unfold number; dsimp only; split
    · omega
    · have := (List.takeWhile_sublist (fun c => decide (digit c < 16)) (l := h1l)).length_le
      simp only; omega
  generalize number h1l 16 6 = nb at h4 hres hle
  obtain ⟨t, n⟩ := nb
  simp only at h4 hres hle
  have h4 : Calls Tryz.prog 61 #[.string (mkB h1l), .int .i64 16, .int .i64 6] w fun e w' => e = .returned (.tuple #[.string (mkB t), .int .i64 (n : Nat)]) ∧ Below w.heap.size w w' := h4
  have hn : n < 4294967290 := by omega
  have h1' := Lib.hid h1; clear h1
  have h2' := Lib.hid h2; clear h2
  have h4' := Lib.hid h4; clear h4
  have hres' := Lib.hid hres; clear hres
  have he : (mkB (c :: h1l)).toList.isEmpty = false := by rw [Lib.toList_data]; rfl
  have hpos : 0 < (mkB (c :: h1l)).size := by rw [mkB_size]; simp
  have hc0 : (mkB (c :: h1l))[0]'hpos = c := rfl
  have hor : (bits .or .u8 (c.toNat : Int) 32 == 120) = true := by rw [or_120]; simp [hx]
  have hsl : ∀ W, (Instr.slice 9 (.string (mkB (c :: h1l))) (some (.int .i64 1)) none none).run Tryz.prog W = .ok (.string (mkB h1l)) W := by
    intro W
    rw [run_slice_string_from_if _ _ _ _ _ Tryz.underlying9, if_pos ⟨by omega, by omega⟩]
    congr 2
    rw [mkB_of ((mkB (c :: h1l)).extract (1 : Int).toNat (mkB (c :: h1l)).size) h1l (by rw [Lib.extract_to_end]; rfl)]
  have hx' := Lib.hid hx; clear hx
  clear hle
  generalize hH : mkB (c :: h1l) = HB at *
  have hH' := Lib.hid hH; clear hH
  have he2 : ¬ HB.toList = [] := by intro e; rw [e] at he; cases he
  by_cases hn0 : n = 0
  · subst hn0
    have hr2 : res = ([], 0) := by rw [hres'.out, if_pos rfl]
    have hr2' := Lib.hid hr2; clear hr2
    go_enter Tryz.func25, Tryz.ntmps25
    go_wp2_with fail
    refine h1'.out.mono ?_
    rintro e w1 ⟨rfl, rfl⟩
    go_wp2_with fail
    refine h2'.out.mono ?_
    rintro e w1 ⟨rfl, rfl⟩
    go_wp2_with fail
    refine h4'.out.mono ?_
    rintro e w2 ⟨rfl, hb2⟩
    go_wp2_with fail
    go_ret2
    refine ⟨?_, hb2⟩
    rw [hr2'.out]; rfl
  · have hr2 : res = (t, 3 + n) := by rw [hres'.out, if_neg hn0]
    have hr2' := Lib.hid hr2; clear hr2
    have hn1 : ((n : Int) == 0) = false := by rw [beq_eq_false_iff_ne]; omega
    go_enter Tryz.func25, Tryz.ntmps25
    go_wp2_with fail
    refine h1'.out.mono ?_
    rintro e w1 ⟨rfl, rfl⟩
    go_wp2_with fail
    refine h2'.out.mono ?_
    rintro e w1 ⟨rfl, rfl⟩
    go_wp2_with fail
    refine h4'.out.mono ?_
    rintro e w2 ⟨rfl, hb2⟩
    go_wp2_with fail
    go_ret2
    refine ⟨?_, hb2⟩
    rw [hr2'.out]
    show Ending.returned (.tuple #[.string (mkB t), .int .i64 (3 + (n : Int))]) = Ending.returned (.tuple #[.string (mkB t), .int .i64 ((3 + n : Nat) : Int)])
    rw [Int.natCast_add]; rfl

theorem escape_Entity.calls (a0 : ByteArray) (r1 : ByteArray) (r2 : Int) (w : World) (hG : GW w) (h : escape_Entity.f a0 = some (r1, r2)) :
    Calls Tryz.prog 25 #[.string a0] w fun e w' => e = .returned (.tuple #[.string r1, .int .i64 r2]) ∧ Below w.heap.size w w' := by
  unfold escape_Entity.f at h
  split at h
  · rename_i hs
    simp only [Option.some.injEq, Prod.mk.injEq] at h
    obtain ⟨rfl, rfl⟩ := h
    obtain ⟨l, hl⟩ : ∃ l, a0.data.toList = l := ⟨_, rfl⟩
    obtain rfl := mkB_of a0 l hl
    rw [mkB_data]
    by_cases h1 : l.head? = some 38
    · obtain ⟨rest, rfl⟩ : ∃ rest, l = 38 :: rest := by
        cases l with
        | nil => cases h1
        | cons a r => simp at h1; exact ⟨r, by rw [h1]⟩
      by_cases h2 : rest.head? = some 35
      · obtain ⟨hash, rfl⟩ : ∃ hash, rest = 35 :: hash := by
          cases rest with
          | nil => cases h2
          | cons a r => simp at h2; exact ⟨r, by rw [h2]⟩
        cases hx : (hash.head?.map (fun c => decide (c ||| 32 = 120))).getD false
        · exact entity_calls_dec hash hx w hG hs
        · cases hash with
          | nil => cases hx
          | cons c r => exact entity_calls_hex c r (by simpa using hx) w hG hs
      · exact entity_calls_name rest h2 w hG hs
    · exact entity_calls_none l h1 w
  · cases h
end Go.Proofs.YthdlibgiejpjeaaGreatDoor.Given

