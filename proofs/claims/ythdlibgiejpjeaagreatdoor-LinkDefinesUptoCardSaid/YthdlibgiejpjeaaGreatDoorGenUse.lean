import Derived.Test.YthdlibgiejpjeaaGreatDoorGenMake
import Derived.Test.YthdlibgiejpjeaaGreatDoorPureAid
import Derived.Test.YthdlibgiejpjeaaGreatDoorUnescape
import Derived.Lib.FrozenHead
import Derived.Stop.Asserts
import Derived.Test.YthdlibgiejpjeaaGreatDoorLinkA
import Derived.Test.YthdlibgiejpjeaaGreatDoorShelfD
/- strings.genericReplacer.lookup of runes.Fold's trie. -/
set_option linter.unusedVariables false
set_option linter.unusedSimpArgs false
namespace Go.Proofs.YthdlibgiejpjeaaGreatDoor.Gen
open Go Go.RowKit Go.Proofs.YthdlibgiejpjeaaGreatDoor Go.Proofs.YthdlibgiejpjeaaGreatDoorW.PrintWords Go.Proofs.YthdlibgiejpjeaaGreatDoor.Spec Go.Proofs.YthdlibgiejpjeaaGreatDoor.Given Go.Proofs.YthdlibgiejpjeaaGreatDoor.Fold Go.Proofs.YthdlibgiejpjeaaGreatDoor.PureAid

/-- What stands on the way of a text that begins with c. -/
structure WayT (R T N M : Nat) (c : UInt8) (m : Nat) (kt : List UInt8) (prio : Int) (W : World) : Prop where
  v1 : W.cell? ⟨R, 1, none⟩ = some (.int .i64 0)
  v4 : W.cell? ⟨R, 4, none⟩ = some (.slice (some ⟨T, 0, none⟩) 5 5)
  v5 : W.cell? ⟨R, 5, none⟩ = some (.int .i64 5)
  map : W.cell? ⟨R, 6 + c.toNat, none⟩ = some (.int .u8 (m : Int))
  t : W.cell? ⟨T, m, none⟩ = some (.pointer (some ⟨N, 0, none⟩))
  n1 : W.cell? ⟨N, 1, none⟩ = some (.int .i64 0)
  n2 : W.cell? ⟨N, 2, none⟩ = some (.string (mkB kt))
  n3 : W.cell? ⟨N, 3, none⟩ = some (.pointer (some ⟨M, 0, none⟩))
  n4 : W.cell? ⟨N, 4, none⟩ = some (.slice none 0 0)
  m0 : W.cell? ⟨M, 0, none⟩ = some (.string ⟨#[115, 115]⟩)
  m1 : W.cell? ⟨M, 1, none⟩ = some (.int .i64 prio)
  m2 : W.cell? ⟨M, 2, none⟩ = some (.string ⟨#[]⟩)
  m4 : W.cell? ⟨M, 4, none⟩ = some (.slice none 0 0)
theorem WayT.below {R T N M c m kt prio W W'} (h : WayT R T N M c m kt prio W) (hb : Below W.heap.size W W') : WayT R T N M c m kt prio W' :=
  ⟨cell_below h.v1 hb, cell_below h.v4 hb, cell_below h.v5 hb, cell_below h.map hb, cell_below h.t hb, cell_below h.n1 hb, cell_below h.n2 hb, cell_below h.n3 hb, cell_below h.n4 hb, cell_below h.m0 hb, cell_below h.m1 hb, cell_below h.m2 hb, cell_below h.m4 hb⟩
def LookR (kt r : List UInt8) : Value := if Lib.hasPrefix r kt = true then .tuple #[.string ⟨#[115, 115]⟩, .int .i64 ((1 + kt.length : Nat) : Int), .bool true] else .tuple #[.string ⟨#[]⟩, .int .i64 0, .bool false]
set_option maxHeartbeats 8000000 in
set_option maxRecDepth 1000000 in
theorem lookup_c (R T N M : Nat) (c : UInt8) (m : Nat) (kt r : List UInt8) (prio : Int) (hm : m < 5) (hp : 0 < prio) (hkt : kt ≠ []) (hkl : kt.length ≤ 100) (hr : r.length ≤ 1000000000) (w : World) (h : WayT R T N M c m kt prio w) :
    Calls Tryz.prog 240 #[.pointer (some ⟨R, 0, none⟩), .string (mkB (c :: r)), .bool false] w fun e w' => e = .returned (LookR kt r) ∧ Below w.heap.size w w' := by
  have hW := Lib.hid h; clear h
  have hix : ∀ w, (Instr.index 9 (.string (mkB (c :: r))) (.int .i64 0)).run Tryz.prog w = .ok (.int .u8 (c.toNat : Int)) w := fun w => by
    rw [run_index_string _ _ _ _ _ Tryz.underlying9, dif_pos ⟨by omega, by rw [mkB_size]; simp only [List.length_cons]; omega⟩]; rfl
  have hsl : ∀ w, (Instr.slice 9 (.string (mkB (c :: r))) (some (.int .i64 1)) none none).run Tryz.prog w = .ok (.string (mkB r)) w := fun w => sl_from (c :: r) 1 (by simp) w
  have hcl := c.toNat_lt
  have he1 : (mkB (c :: r)).toList.isEmpty = false := by rw [mkB_toList]; rfl
  have he0 : (⟨#[]⟩ : ByteArray).toList.isEmpty = true := by rw [Lib.toList_data]; rfl
  have hek : (mkB kt).toList.isEmpty = false := by rw [mkB_toList]; cases kt with | nil => exact absurd rfl hkt | cons a b => rfl
  have hkz := mkB_size kt
  have hneq0 : ∀ w, (binOp .neq 196 (.slice none 0 0) (.slice none 0 0)).run Tryz.prog w = .ok (.bool false) w := fun w => Go.run_neq_slice_nil w 196 195 none 0 0 Tryz.underlying196
  have hneq1 : ∀ w, (binOp .neq 196 (.slice (some ⟨T, 0, none⟩) 5 5) (.slice none 0 0)).run Tryz.prog w = .ok (.bool true) w := fun w => Go.run_neq_slice_nil w 196 195 (some ⟨T, 0, none⟩) 5 5 Tryz.underlying196
  generalize hC : mkB (c :: r) = CB at *
  go_enter Tryz.func240, Tryz.ntmps240
  go_wp2_with fail
  go_loopw [1, 6, 7, 8, 9, 10, 11] (fun s val kl fd best node n wr => Below w.heap.size w wr ∧ val = .string ⟨#[]⟩ ∧ kl = .int .i64 0 ∧ fd = .bool false ∧ best = .int .i64 0 ∧
    ((s = .string CB ∧ node = .pointer (some ⟨R, 0, none⟩) ∧ n = .int .i64 0) ∨ (s = .string (mkB r) ∧ node = .pointer (some ⟨N, 0, none⟩) ∧ n = .int .i64 1) ∨
     (Lib.hasPrefix r kt = true ∧ s = .string (mkB (r.drop kt.length)) ∧ node = .pointer (some ⟨M, 0, none⟩) ∧ n = .int .i64 ((1 + kt.length : Nat) : Int)))) (fun _ _ _ _ _ _ n _ => 1000 - (intOf n).toNat)
  case atStart => exact ⟨Below.refl _ _, rfl, rfl, rfl, rfl, .inl ⟨rfl, rfl, rfl⟩⟩
  case round =>
    obtain ⟨hb, rfl, rfl, rfl, rfl, hst⟩ := hrel
    have hWr := hW.out.below hb
    have v1 := hWr.v1; have v4 := hWr.v4; have v5 := hWr.v5; have vm := hWr.map; have vt := hWr.t
    have n1 := hWr.n1; have n2 := hWr.n2; have n3 := hWr.n3; have n4 := hWr.n4; have m0 := hWr.m0; have m1 := hWr.m1; have m2 := hWr.m2; have m4 := hWr.m4
    have hb' := Lib.hid hb; clear hb hWr
    rcases hst with ⟨rfl, rfl, rfl⟩ | ⟨rfl, rfl, rfl⟩ | ⟨hpre, rfl, rfl, rfl⟩
    · clear n1 n2 n3 n4 m0 m1 m2 m4
      go_wp2_with fail
      go_region
      go_wp2_with fail
      exact ⟨⟨hb'.out.drew, rfl, rfl, rfl, rfl, .inr (.inl ⟨rfl, rfl, rfl⟩)⟩, by simp [intOf]⟩
    · clear v1 v4 v5 vm vt m0 m1 m2 m4
      cases r with
      | nil =>
        have her : (mkB []).toList.isEmpty = true := by rw [mkB_toList]; rfl
        go_wp2_with fail
        go_ret3
        refine ⟨?_, hb'.out⟩
        have : Lib.hasPrefix [] kt = false := by cases kt with | nil => exact absurd rfl hkt | cons a b => rfl
        unfold LookR; rw [this]; rfl
      | cons a r' =>
        have her : (mkB (a :: r')).toList.isEmpty = false := by rw [mkB_toList]; rfl
        have hHP := Lib.hid (Tryz.strings_HasPrefix (mkB (a :: r')) (mkB kt) wr)
        have hHPe : Lib.hasPrefix (mkB (a :: r')).data.toList (mkB kt).data.toList = Lib.hasPrefix (a :: r') kt := by rw [mkB_data, mkB_data]
        rw [hHPe] at hHP
        cases hb2 : Lib.hasPrefix (a :: r') kt
        · rw [hb2] at hHP
          go_wp2_with fail
          refine hHP.out.mono ?_
          rintro e w2 ⟨rfl, rfl⟩
          go_wp2_with fail
          go_ret3
          refine ⟨?_, hb'.out⟩
          unfold LookR; rw [hb2]; rfl
        · rw [hb2] at hHP
          have hle : kt.length ≤ (a :: r').length := by
            unfold Lib.hasPrefix at hb2
            exact (List.isPrefixOf_iff_prefix.1 hb2).length_le
          have hs2 : ∀ w, (Instr.slice 9 (.string (mkB (a :: r'))) (some (.int .i64 (kt.length : Int))) none none).run Tryz.prog w = .ok (.string (mkB ((a :: r').drop kt.length))) w := fun w => sl_from (a :: r') kt.length hle w
          go_wp2_with fail
          refine hHP.out.mono ?_
          rintro e w2 ⟨rfl, rfl⟩
          go_wp2_with fail
          have hkp := List.length_pos_iff.2 hkt
          refine ⟨⟨hb'.out, rfl, rfl, rfl, rfl, .inr (.inr ⟨?_, rfl, rfl, rfl⟩)⟩, ?_⟩
          · first | trivial | exact hb2
          · show 1000 - (1 + (kt.length : Int)).toNat < 1000 - (1 : Int).toNat
            omega
    · clear v1 v4 v5 vm vt n1 n2 n3 n4
      have hres : LookR kt r = .tuple #[.string ⟨#[115, 115]⟩, .int .i64 ((1 + kt.length : Nat) : Int), .bool true] := by unfold LookR; rw [if_pos hpre]
      cases hd : r.drop kt.length with
      | nil =>
        have her : (mkB []).toList.isEmpty = true := by rw [mkB_toList]; rfl
        go_wp2_with fail
        go_ret3
        exact ⟨congrArg Ending.returned hres.symm, hb'.out⟩
      | cons a r' =>
        have her : (mkB (a :: r')).toList.isEmpty = false := by rw [mkB_toList]; rfl
        go_wp2_with fail
        go_ret3
        exact ⟨congrArg Ending.returned hres.symm, hb'.out⟩
end Go.Proofs.YthdlibgiejpjeaaGreatDoor.Gen

/- strings.genericReplacer: an empty text is looked up; the buffer; what the loop keeps. -/
set_option linter.unusedVariables false
set_option linter.unusedSimpArgs false
namespace Go.Proofs.YthdlibgiejpjeaaGreatDoor.Gen
open Go Go.RowKit Go.Proofs.YthdlibgiejpjeaaGreatDoor Go.Proofs.YthdlibgiejpjeaaGreatDoorW.PrintWords Go.Proofs.YthdlibgiejpjeaaGreatDoor.Spec Go.Proofs.YthdlibgiejpjeaaGreatDoor.Given Go.Proofs.YthdlibgiejpjeaaGreatDoor.Fold Go.Proofs.YthdlibgiejpjeaaGreatDoor.PureAid

set_option maxHeartbeats 4000000 in
set_option maxRecDepth 1000000 in
theorem lookup_nil (R : Nat) (w : World) (v1 : w.cell? ⟨R, 1, none⟩ = some (.int .i64 0)) :
    Calls Tryz.prog 240 #[.pointer (some ⟨R, 0, none⟩), .string (mkB []), .bool false] w fun e w' => e = .returned (.tuple #[.string ⟨#[]⟩, .int .i64 0, .bool false]) ∧ w' = w := by
  have he : (mkB []).toList.isEmpty = true := by rw [mkB_toList]; rfl
  generalize mkB [] = EB at *
  go_enter Tryz.func240, Tryz.ntmps240
  go_wp2_with fail
  go_loopw [1, 6, 7, 8, 9, 10, 11] (fun s val kl fd best node n wr => wr = w ∧ val = .string ⟨#[]⟩ ∧ kl = .int .i64 0 ∧ fd = .bool false ∧ best = .int .i64 0 ∧ s = .string EB ∧ node = .pointer (some ⟨R, 0, none⟩) ∧ n = .int .i64 0) (fun _ _ _ _ _ _ n _ => 1000 - (intOf n).toNat)
  case atStart => exact ⟨rfl, rfl, rfl, rfl, rfl, rfl, rfl, rfl⟩
  case round =>
    obtain ⟨rfl, rfl, rfl, rfl, rfl, rfl, rfl, rfl⟩ := hrel
    go_wp2_with fail
    go_ret3
    exact ⟨rfl, rfl⟩

/-- A buffer at b that holds these bytes. -/
structure BufS (B b : Nat) (l : List UInt8) (v : Value) (W : World) : Prop where
  le : B ≤ b
  blk : W.heap[b]? = some (.cells #[v] 246 (0, 0))
  own : W.ownsRowF B 5 1 v l.length (Lib.byteCells l)
  ne : v.ownBlock ≠ some b
  nn : v ≠ .slice none 0 0
theorem BufS.drew {B b l v W} (h : BufS B b l v W) : BufS B b l v W.drew := ⟨h.le, h.blk, h.own, h.ne, h.nn⟩
theorem BufS.cell {B b l v W} (h : BufS B b l v W) : W.cell? ⟨b, 0, none⟩ = some v := by simp [World.cell?, h.blk]
theorem BufS.fz {B b l v W} (h : BufS B b l v W) : W.frozen? ⟨b, 0, none⟩ = false := by simp [World.frozen?, h.blk]
theorem BufS.lt {B b l v W} (h : BufS B b l v W) : b < W.heap.size := lt_of_cell h.cell

set_option maxHeartbeats 4000000 in
set_option maxRecDepth 1000000 in
theorem asw_write (B b : Nat) (l m : List UInt8) (v : Value) (w : World) (h : BufS B b l v w) (hlen : l.length + m.length ≤ 140737488355328) (hBw : B ≤ w.heap.size) :
    Calls Tryz.prog 248 #[.pointer (some ⟨b, 0, none⟩), .string (mkB m)] w fun e w' => e = .returned (.tuple #[.int .i64 (m.length : Int), .nilIface]) ∧ (∃ v', BufS B b (l ++ m) v' w') ∧ Below B w w' := by
  obtain ⟨i0, hi, hz0, hz1, hz2⟩ : ∃ i, Tryz.prog.info? 5 = some i ∧ i.zero = some (.int .u8 0) ∧ i.size = 1 ∧ i.bytes = 1 := by
    have := info_u8
    cases h : Tryz.prog.info? 5 with
    | none => rw [h] at this; cases this
    | some i => rw [h] at this; injection this with this; injection this with a b; injection b with b c; exact ⟨i, rfl, a, b, c⟩
  have c0 := h.cell
  have hms := mkB_size m
  go_enter Tryz.func248, Tryz.ntmps248
  go_wp2_with (at_builtin; refine Lib.wpList_append_own_stringF _ rfl _ _ 246 9 rfl B 5 i0 Tryz.underlying246 Tryz.underlying9 hi hz0 hz1 hz2 _ _ _ rfl h.own (mkB m) rfl ?c3 ?c4 ?c5 ?_)
  case c3 => rw [mkB_size]; unfold maxLen; omega
  case c4 => rw [mkB_size]; omega
  case c5 => exact hBw
  intro v' w2 hown' hgrow hiff
  have hnn' : v' ≠ .slice none 0 0 := fun e => h.nn (hiff.1 e).1
  clear hiff
  have hlt := h.lt
  have hb2 : w2.heap[b]? = some (.cells #[v] 246 (0, 0)) := by
    rw [hgrow.block b hlt (fun e => h.ne e.symm)]; exact h.blk
  have d0 : w2.cell? ⟨b, 0, none⟩ = some v := by simp [World.cell?, hb2]
  have f0 : w2.frozen? ⟨b, 0, none⟩ = false := by simp [World.frozen?, hb2]
  have hgb : Below B w w2 := (Below.refl B w).grown hgrow hBw (fun k hk => (h.own.lt k hk).1)
  have hown2 : w2.ownsRowF B 5 1 v' (l ++ m).length (Lib.byteCells (l ++ m)) := by
    rw [List.length_append, Lib.byteCells_append]; exact hown'
  have hne' : v'.ownBlock ≠ some b := by
    intro e
    rcases hown2.2 with ⟨rfl, _⟩ | ⟨g, cap, cur, fz, rfl, _, hg, _⟩
    · simp [Value.ownBlock] at e
    · simp [Value.ownBlock] at e
      subst e
      rw [hb2] at hg
      injection hg with hg
      injection hg with _ ht _
      exact absurd ht (by decide)
  obtain ⟨ao, n', cap, rfl⟩ : ∃ ao n' cap, v' = .slice ao n' cap := by
    rcases hown2.2 with ⟨hv, _⟩ | ⟨g, cap, cur, fz, hv, _⟩
    · exact ⟨_, _, _, hv⟩
    · exact ⟨_, _, _, hv⟩
  have hown3 := Lib.hid hown2; clear hown2 hown'
  go_wp2_with fail
  go_ret2
  refine ⟨rfl, ⟨_, h.le, ?_, ?_, hne', hnn'⟩, hgb.setCell h.le _⟩
  · simp [World.setCell, Array.getElem?_modify, hb2]
  · exact hown3.out.kept (row := some b) ⟨rfl, rfl, rfl, by simp [World.setCell], fun k _ hk => Below.heap_setCell _ _ _ _ (fun e => hk (by simp [e]))⟩ (Or.inr hne')

/-! what the loop keeps -/
theorem take_more (l : List UInt8) (last i : Nat) (c : UInt8) (r : List UInt8) (hd : l.drop i = c :: r) (hl : last ≤ i) : (l.drop last).take (i + 1 - last) = (l.drop last).take (i - last) ++ [c] := by
  rw [show i + 1 - last = (i - last) + 1 by omega, List.take_add_one]
  congr 1
  rw [List.getElem?_drop, show last + (i - last) = i by omega]
  have := drop_lt hd
  have h2 := List.drop_eq_getElem_cons this
  rw [hd] at h2
  injection h2 with h2 _
  rw [List.getElem?_eq_getElem this, ← h2]; rfl
theorem inv_miss (l out X : List UInt8) (last i : Nat) (c : UInt8) (r : List UInt8) (hd : l.drop i = c :: r) (hl : last ≤ i) (h0 : hit (c :: r) = 0) (h : out ++ (l.drop last).take (i - last) ++ foldRep (l.drop i) = X) :
    out ++ (l.drop last).take (i + 1 - last) ++ foldRep (l.drop (i + 1)) = X := by
  rw [take_more l last i c r hd hl, drop_next hd, ← h, hd, foldRep_miss c r h0]; simp
theorem inv_hit (l out X : List UInt8) (last i : Nat) (h0 : hit (l.drop i) ≠ 0) (h : out ++ (l.drop last).take (i - last) ++ foldRep (l.drop i) = X) :
    (out ++ (l.drop last).take (i - last) ++ [115, 115]) ++ (l.drop (i + hit (l.drop i))).take (i + hit (l.drop i) - (i + hit (l.drop i))) ++ foldRep (l.drop (i + hit (l.drop i))) = X := by
  rw [← h, foldRep_hit _ h0, List.drop_drop]; simp
theorem hit_c3 (r : List UInt8) : hit (195 :: r) = if Lib.hasPrefix r [159] = true then 2 else 0 := by
  cases r with
  | nil => rfl
  | cons d s =>
    by_cases hd : d = 159
    · subst hd
      rw [if_pos (by simp [Lib.hasPrefix, List.isPrefixOf])]; rfl
    · rw [if_neg (by simp [Lib.hasPrefix, List.isPrefixOf]; exact fun e => hd e.symm)]
      rcases hit_cases (195 :: d :: s) with h | ⟨_, r', h⟩ | ⟨_, r', h⟩
      · exact h
      · injection h with _ h; injection h with h _; exact absurd h hd
      · injection h with h _; exact absurd h (by decide)
theorem hit_e1 (r : List UInt8) : hit (225 :: r) = if Lib.hasPrefix r [186, 158] = true then 3 else 0 := by
  rcases hit_cases (225 :: r) with h | ⟨_, r', h⟩ | ⟨h3, r', h⟩
  · rw [h, if_neg]
    intro hp
    obtain ⟨s, hs⟩ := List.isPrefixOf_iff_prefix.1 hp
    rw [← hs] at h
    simp [hit] at h
  · injection h with h _; exact absurd h (by decide)
  · injection h with _ h
    subst h
    rw [if_pos (by simp [Lib.hasPrefix, List.isPrefixOf])]; rfl
theorem hit_other (c : UInt8) (r : List UInt8) (h1 : c ≠ 195) (h2 : c ≠ 225) : hit (c :: r) = 0 := by
  rcases hit_cases (c :: r) with h | ⟨_, r', h⟩ | ⟨_, r', h⟩
  · exact h
  · injection h with h _; exact absurd h h1
  · injection h with h _; exact absurd h h2
theorem fin_5 : ∀ c : Fin 256, c.val ≠ 158 → c.val ≠ 159 → c.val ≠ 186 → c.val ≠ 195 → c.val ≠ 225 → fin c.val = 5 := by decide +kernel
theorem fin_0 : fin 158 = 0 ∧ fin 159 = 1 ∧ fin 186 = 2 := by decide +kernel
end Go.Proofs.YthdlibgiejpjeaaGreatDoor.Gen

/- strings.genericReplacer.WriteString and Replace of runes.Fold's trie. -/
set_option linter.unusedVariables false
set_option linter.unusedSimpArgs false
namespace Go.Proofs.YthdlibgiejpjeaaGreatDoor.Gen
open Go Go.RowKit Go.Proofs.YthdlibgiejpjeaaGreatDoor Go.Proofs.YthdlibgiejpjeaaGreatDoorW.PrintWords Go.Proofs.YthdlibgiejpjeaaGreatDoor.Spec Go.Proofs.YthdlibgiejpjeaaGreatDoor.Given Go.Proofs.YthdlibgiejpjeaaGreatDoor.Fold Go.Proofs.YthdlibgiejpjeaaGreatDoor.PureAid

/-- What the fast path reads. -/
structure FastT (R T : Nat) (a b : Value) (W : World) : Prop where
  v1 : W.cell? ⟨R, 1, none⟩ = some (.int .i64 0)
  v4 : W.cell? ⟨R, 4, none⟩ = some (.slice (some ⟨T, 0, none⟩) 5 5)
  v5 : W.cell? ⟨R, 5, none⟩ = some (.int .i64 5)
  map : ∀ c, c < 256 → W.cell? ⟨R, 6 + c, none⟩ = some (.int .u8 (fin c : Int))
  t0 : W.cell? ⟨T, 0, none⟩ = some (.pointer none)
  t1 : W.cell? ⟨T, 1, none⟩ = some (.pointer none)
  t2 : W.cell? ⟨T, 2, none⟩ = some (.pointer none)
  t3 : W.cell? ⟨T, 3, none⟩ = some a
  t4 : W.cell? ⟨T, 4, none⟩ = some b
theorem FastT.below {R T a b W W'} (h : FastT R T a b W) (hb : Below W.heap.size W W') : FastT R T a b W' :=
  ⟨cell_below h.v1 hb, cell_below h.v4 hb, cell_below h.v5 hb, fun c hc => cell_below (h.map c hc) hb, cell_below h.t0 hb, cell_below h.t1 hb, cell_below h.t2 hb, cell_below h.t3 hb, cell_below h.t4 hb⟩
/-- The trie, all of whose blocks lie at B or behind. -/
structure GenB (B R : Nat) (W : World) : Prop where
  way3 : ∃ T N M, B ≤ R ∧ B ≤ T ∧ B ≤ N ∧ B ≤ M ∧ WayT R T N M 195 3 [159] 4 W
  way4 : ∃ T N M, B ≤ R ∧ B ≤ T ∧ B ≤ N ∧ B ≤ M ∧ WayT R T N M 225 4 [186, 158] 2 W
  fast : ∃ T x y, B ≤ R ∧ B ≤ T ∧ FastT R T (.pointer (some x)) (.pointer (some y)) W
theorem GenT.toB {w0 R W} (h : GenT w0 R W) : GenB w0.heap.size R W := by
  obtain ⟨T, N, M, N', M', hT, hN, hN'⟩ := h
  have hm := hT.map 195 (by omega)
  rw [fin3] at hm
  have hm4 := hT.map 225 (by omega)
  rw [fin4] at hm4
  exact ⟨⟨T, N, M, hT.le, hT.leT, hN.le, hN.leM, hT.v1, hT.v4, hT.v5, hm, hT.t3, hN.n1, hN.n2, hN.n3, hN.n4, hN.m0, hN.m1, hN.m2, hN.m4⟩,
    ⟨T, N', M', hT.le, hT.leT, hN'.le, hN'.leM, hT.v1, hT.v4, hT.v5, hm4, hT.t4, hN'.n1, hN'.n2, hN'.n3, hN'.n4, hN'.m0, hN'.m1, hN'.m2, hN'.m4⟩,
    ⟨T, _, _, hT.le, hT.leT, hT.v1, hT.v4, hT.v5, hT.map, hT.t0, hT.t1, hT.t2, hT.t3, hT.t4⟩⟩
theorem GenB.kept {B R : Nat} {W W' : World} (h : GenB B R W) (hk : ∀ X j u, B ≤ X → W.cell? ⟨X, j, none⟩ = some u → W'.cell? ⟨X, j, none⟩ = some u) : GenB B R W' := by
  obtain ⟨⟨T, N, M, a1, a2, a3, a4, a⟩, ⟨T', N', M', b1, b2, b3, b4, b⟩, ⟨U, x, y, c1, c2, c⟩⟩ := h
  exact ⟨⟨T, N, M, a1, a2, a3, a4, hk _ _ _ a1 a.v1, hk _ _ _ a1 a.v4, hk _ _ _ a1 a.v5, hk _ _ _ a1 a.map, hk _ _ _ a2 a.t, hk _ _ _ a3 a.n1, hk _ _ _ a3 a.n2, hk _ _ _ a3 a.n3, hk _ _ _ a3 a.n4, hk _ _ _ a4 a.m0, hk _ _ _ a4 a.m1, hk _ _ _ a4 a.m2, hk _ _ _ a4 a.m4⟩,
    ⟨T', N', M', b1, b2, b3, b4, hk _ _ _ b1 b.v1, hk _ _ _ b1 b.v4, hk _ _ _ b1 b.v5, hk _ _ _ b1 b.map, hk _ _ _ b2 b.t, hk _ _ _ b3 b.n1, hk _ _ _ b3 b.n2, hk _ _ _ b3 b.n3, hk _ _ _ b3 b.n4, hk _ _ _ b4 b.m0, hk _ _ _ b4 b.m1, hk _ _ _ b4 b.m2, hk _ _ _ b4 b.m4⟩,
    ⟨U, x, y, c1, c2, hk _ _ _ c1 c.v1, hk _ _ _ c1 c.v4, hk _ _ _ c1 c.v5, fun d hd => hk _ _ _ c1 (c.map d hd), hk _ _ _ c2 c.t0, hk _ _ _ c2 c.t1, hk _ _ _ c2 c.t2, hk _ _ _ c2 c.t3, hk _ _ _ c2 c.t4⟩⟩
theorem GenB.mono {B B' R : Nat} {W : World} (h : GenB B R W) (hb : B' ≤ B) : GenB B' R W := by
  obtain ⟨⟨T, N, M, a1, a2, a3, a4, a⟩, ⟨T', N', M', b1, b2, b3, b4, b⟩, ⟨U, x, y, c1, c2, c⟩⟩ := h
  exact ⟨⟨T, N, M, by omega, by omega, by omega, by omega, a⟩, ⟨T', N', M', by omega, by omega, by omega, by omega, b⟩, ⟨U, x, y, by omega, by omega, c⟩⟩
theorem GenB.setCell {B R : Nat} {W : World} (h : GenB B R W) {p o : Nat} (hp : p < B) (v : Value) : GenB B R (W.setCell ⟨p, o, none⟩ v) :=
  h.kept fun X j u hX hu => by rw [World.cell?_setCell_other _ _ _ _ (ne_addr (.inl (by omega)))]; exact hu
theorem GenB.drew {B R : Nat} {W : World} (h : GenB B R W) : GenB B R W.drew := h.kept fun X j u _ hu => by rw [World.cell?_drew]; exact hu
theorem GenB.below {B R : Nat} {W W' : World} (h : GenB B R W) (hb : Below W.heap.size W W') : GenB B R W' := h.kept fun X j u _ hu => cell_below hu hb
set_option maxHeartbeats 4000000 in
set_option maxRecDepth 1000000 in
theorem getSW (b : Nat) (w : World) :
    Calls Tryz.prog 239 #[.iface 247 (.pointer (some ⟨b, 0, none⟩))] w fun e w' => e = .returned (.iface 247 (.pointer (some ⟨b, 0, none⟩))) ∧ w' = w := by
  have hta : ∀ w, (Instr.typeAssert (.iface 247 (.pointer (some ⟨b, 0, none⟩))) 249 251 true).run Tryz.prog w = .ok (.tuple #[.iface 247 (.pointer (some ⟨b, 0, none⟩)), .bool true]) w :=
    fun w => run_typeAssert_hasB Tryz.underlying251 (by kernel_rfl) _ _ w
  go_enter Tryz.func239, Tryz.ntmps239
  go_wp2_with fail
  go_ret
  exact ⟨rfl, rfl⟩
/-- The three ways of a byte on the fast path. -/
theorem byte_ways {R T : Nat} {x y : Addr} {W : World} (h : FastT R T (.pointer (some x)) (.pointer (some y)) W) (c : UInt8) :
    (c ≠ 195 ∧ c ≠ 225 ∧ W.cell? ⟨R, 6 + c.toNat, none⟩ = some (.int .u8 5)) ∨
    (c ≠ 195 ∧ c ≠ 225 ∧ ∃ j : Nat, j < 3 ∧ W.cell? ⟨R, 6 + c.toNat, none⟩ = some (.int .u8 (j : Int)) ∧ W.cell? ⟨T, j, none⟩ = some (.pointer none)) ∨
    ((c = 195 ∨ c = 225) ∧ ∃ (j : Nat) (z : Addr), j < 5 ∧ W.cell? ⟨R, 6 + c.toNat, none⟩ = some (.int .u8 (j : Int)) ∧ W.cell? ⟨T, j, none⟩ = some (.pointer (some z))) := by
  have hm := h.map c.toNat c.toNat_lt
  by_cases h1 : c = 195
  · subst h1
    have hm : W.cell? ⟨R, 6 + (195 : UInt8).toNat, none⟩ = some (.int .u8 (fin 195 : Int)) := hm
    rw [fin3] at hm
    exact .inr (.inr ⟨.inl rfl, 3, x, by omega, hm, h.t3⟩)
  by_cases h2 : c = 225
  · subst h2
    have hm : W.cell? ⟨R, 6 + (225 : UInt8).toNat, none⟩ = some (.int .u8 (fin 225 : Int)) := hm
    rw [fin4] at hm
    exact .inr (.inr ⟨.inr rfl, 4, y, by omega, hm, h.t4⟩)
  by_cases h3 : c = 158
  · subst h3
    have hm : W.cell? ⟨R, 6 + (158 : UInt8).toNat, none⟩ = some (.int .u8 (fin 158 : Int)) := hm
    rw [fin_0.1] at hm
    exact .inr (.inl ⟨h1, h2, 0, by omega, hm, h.t0⟩)
  by_cases h4 : c = 159
  · subst h4
    have hm : W.cell? ⟨R, 6 + (159 : UInt8).toNat, none⟩ = some (.int .u8 (fin 159 : Int)) := hm
    rw [fin_0.2.1] at hm
    exact .inr (.inl ⟨h1, h2, 1, by omega, hm, h.t1⟩)
  by_cases h5 : c = 186
  · subst h5
    have hm : W.cell? ⟨R, 6 + (186 : UInt8).toNat, none⟩ = some (.int .u8 (fin 186 : Int)) := hm
    rw [fin_0.2.2] at hm
    exact .inr (.inl ⟨h1, h2, 2, by omega, hm, h.t2⟩)
  have h6 := fin_5 ⟨c.toNat, c.toNat_lt⟩ (fun e => h3 (UInt8.toNat_inj.1 e)) (fun e => h4 (UInt8.toNat_inj.1 e)) (fun e => h5 (UInt8.toNat_inj.1 e)) (fun e => h1 (UInt8.toNat_inj.1 e)) (fun e => h2 (UInt8.toNat_inj.1 e))
  have h6 : fin c.toNat = 5 := h6
  rw [h6] at hm
  exact .inl ⟨h1, h2, hm⟩
theorem look_cc (B0 : Nat) (R : Nat) (w W : World) (hG : GenB B0 R w) (hb : Below w.heap.size w W) (c : UInt8) (r : List UInt8) (hc : c = 195 ∨ c = 225) (hr : r.length ≤ 1000000000) :
    Calls Tryz.prog 240 #[.pointer (some ⟨R, 0, none⟩), .string (mkB (c :: r)), .bool false] W fun e w' =>
      ((hit (c :: r) ≠ 0 ∧ e = .returned (.tuple #[.string ⟨#[115, 115]⟩, .int .i64 (hit (c :: r) : Int), .bool true])) ∨ (hit (c :: r) = 0 ∧ e = .returned (.tuple #[.string ⟨#[]⟩, .int .i64 0, .bool false]))) ∧ Below W.heap.size W w' := by
  rcases hc with rfl | rfl
  · obtain ⟨T, N, M, _, _, _, _, hw⟩ := hG.way3
    refine (lookup_c R T N M 195 3 [159] r 4 (by omega) (by omega) (by simp) (by simp) hr W (hw.below hb)).mono fun e w' ⟨he, hb'⟩ => ⟨?_, hb'⟩
    rw [hit_c3]
    unfold LookR at he
    split at he
    · rename_i hp; rw [if_pos hp]; exact .inl ⟨by omega, he⟩
    · rename_i hp; rw [if_neg hp]; exact .inr ⟨rfl, he⟩
  · obtain ⟨T, N, M, _, _, _, _, hw⟩ := hG.way4
    refine (lookup_c R T N M 225 4 [186, 158] r 2 (by omega) (by omega) (by simp) (by simp) hr W (hw.below hb)).mono fun e w' ⟨he, hb'⟩ => ⟨?_, hb'⟩
    rw [hit_e1]
    unfold LookR at he
    split at he
    · rename_i hp; rw [if_pos hp]; exact .inl ⟨by omega, he⟩
    · rename_i hp; rw [if_neg hp]; exact .inr ⟨rfl, he⟩
theorem nil_ahead (b : Nat) (W : World) : (nilAhead 359 247 (.pointer (some ⟨b, 0, none⟩)) "WriteString").run Tryz.prog W = .ok (some false) W := by kernel_rfl
theorem meth (b : Nat) (W : World) : (method 359 247 (.pointer (some ⟨b, 0, none⟩)) "WriteString").run Tryz.prog W = .ok (248, .pointer (some ⟨b, 0, none⟩)) W := by kernel_rfl
def GW1 (B b : Nat) (l : List UInt8) (w : World) (e : Ending) (w' : World) : Prop := (∃ n : Int, e = .returned (.tuple #[.int .i64 n, .nilIface])) ∧ (∃ v', BufS B b (foldRep l) v' w') ∧ Below B w w'
theorem BufS.below {B b l v W W'} (h : BufS B b l v W) (hb : Below W.heap.size W W') : BufS B b l v W' := by
  refine ⟨h.le, (hb.block _ h.lt).trans h.blk, ⟨h.own.1, ?_⟩, h.ne, h.nn⟩
  rcases h.own.2 with h4 | ⟨g, cap, cur, fz, k1, k2, k3, k4⟩
  · exact .inl h4
  · exact .inr ⟨g, cap, cur, fz, k1, k2, (hb.block _ (Array.getElem?_eq_some_iff.1 k3).1).trans k3, k4⟩
/-- What stands at a round's begin. -/
structure LoopS (B b : Nat) (l : List UInt8) (w : World) (la k : Nat) (out : List UInt8) (v : Value) (wr : World) : Prop where
  kl : k ≤ l.length + 1
  lk : la ≤ k
  ll : la ≤ l.length
  buf : BufS B b out v wr
  bel : Below B w wr
  inv : out ++ (l.drop la).take (k - la) ++ foldRep (l.drop k) = foldRep l
theorem LoopS.len {B b l w la k out v wr} (h : LoopS B b l w la k out v wr) : out.length + (l.drop la).length ≤ 2 * l.length := by
  have h1 := foldRep_len l
  have h2 := congrArg List.length h.inv
  rw [List.length_append, List.length_append] at h2
  rw [List.length_drop]; omega
theorem LoopS.skip {B b l w la k out v wr wr'} (h : LoopS B b l w la k out v wr) (c : UInt8) (r : List UInt8) (hd : l.drop k = c :: r) (h0 : hit (c :: r) = 0) (hb : BufS B b out v wr') (hbel : Below B w wr') : LoopS B b l w la (k + 1) out v wr' :=
  ⟨by have := drop_lt hd; omega, by have := h.lk; omega, h.ll, hb, hbel, inv_miss l out _ la k c r hd h.lk h0 h.inv⟩
set_option maxHeartbeats 16000000 in
set_option maxRecDepth 1000000 in
theorem gen_write (B0 R b : Nat) (l : List UInt8) (v : Value) (w : World) (hG : GenB B0 R w) (B : Nat) (hB : B = w.heap.size) (w1 : World) (hb1 : Below B w w1) (hbuf : BufS B b [] v w1) (hl : l.length ≤ 1000000000) :
    Calls Tryz.prog 238 #[.pointer (some ⟨R, 0, none⟩), .iface 247 (.pointer (some ⟨b, 0, none⟩)), .string (mkB l)] w1 (GW1 B b l w) := by
  have hs := mkB_size l
  obtain ⟨T, x, y, _, _, hF⟩ := hG.fast
  have hG' := Lib.hid hG; clear hG
  have hF' := Lib.hid hF; clear hF
  have h0 : LoopS B b l w 0 0 [] v w1 := ⟨by omega, by omega, by omega, hbuf, hb1, by simp⟩
  have h0' := Lib.hid h0; clear h0 hbuf hb1
  go_enter Tryz.func238, Tryz.ntmps238
  go_wp2_with fail
  refine (getSW b w1).mono ?_
  rintro e w' ⟨rfl, hww⟩
  have hww := hww.symm
  subst hww
  go_wp2_with fail
  go_loopw [6, 7, 9, 11, 12] (fun n err last pm i wr => ∃ (nz : Int) (la k : Nat) (out : List UInt8) (v : Value), n = .int .i64 nz ∧ err = .nilIface ∧ last = .int .i64 (la : Int) ∧ pm = .bool false ∧ i = .int .i64 (k : Int) ∧ LoopS B b l w la k out v wr) (fun _ _ _ _ i _ => l.length + 2 - (intOf i).toNat)
  case atStart => exact ⟨0, 0, 0, [], v, rfl, rfl, rfl, rfl, rfl, h0'.out⟩
  case round =>
    obtain ⟨nz, la, k, out, v2, rfl, rfl, rfl, rfl, rfl, hL⟩ := hrel
    have hkl := hL.kl
    have hlk := hL.lk
    have hll := hL.ll
    have hlen := hL.len
    have hF2 := hF'.out.below (hB ▸ hL.bel)
    have hG2 : Below w.heap.size w wr := hB ▸ hL.bel
    have hG3 := Lib.hid hG2; clear hG2
    have hBwr : B ≤ wr.heap.size := by rw [hB]; exact hG3.out.size
    have hL' := Lib.hid hL; clear hL
    rcases Nat.lt_or_ge k l.length with hlt | hge
    · obtain ⟨c, r, hd⟩ : ∃ c r, l.drop k = c :: r := ⟨_, _, List.drop_eq_getElem_cons hlt⟩
      have hi : ∀ W, (Instr.index 9 (.string (mkB l)) (.int .i64 (k : Int))).run Tryz.prog W = .ok (.int .u8 (c.toNat : Int)) W := at_i l k c r hd
      have v1 := hF2.v1; have v4 := hF2.v4; have v5 := hF2.v5
      have hcl := c.toNat_lt
      rcases byte_ways hF2 c with ⟨c1, c2, hm⟩ | ⟨c1, c2, j, hj, hm, ht⟩ | ⟨cc, j, z, hj, hm, ht⟩
      · clear hF2
        have hskip := Lib.hid (hL'.out.skip c r hd (hit_other c r c1 c2) hL'.out.buf.drew hL'.out.bel.drew)
        go_wp2_with fail
        go_region
        go_wp2_with fail
        exact ⟨⟨nz, la, k + 1, out, v2, rfl, rfl, rfl, rfl, by go_num, hskip.out⟩, by simp [intOf]; omega⟩
      · clear hF2
        have hskip := Lib.hid (hL'.out.skip c r hd (hit_other c r c1 c2) hL'.out.buf.drew hL'.out.bel.drew)
        go_wp2_with fail
        go_region
        go_wp2_with fail
        exact ⟨⟨nz, la, k + 1, out, v2, rfl, rfl, rfl, rfl, by go_num, hskip.out⟩, by simp [intOf]; omega⟩
      · clear hF2
        have hsl := sl_from l k (by omega)
        rw [hd] at hsl
        have hrl : r.length ≤ 1000000000 := by
          have := drop_len hd (by omega)
          simp only [List.length_cons] at this; omega
        have hlook := Lib.hid (look_cc B0 R w wr.drew hG'.out hG3.out.drew c r cc hrl)
        go_wp2_with fail
        go_region
        go_wp2_with fail
        refine hlook.out.mono ?_
        rintro e w2 ⟨⟨hh, rfl⟩ | ⟨hh, rfl⟩, hb2⟩
        · have hbuf2 := Lib.hid (hL'.out.buf.drew.below hb2)
          have hbel2 := Lib.hid (hL'.out.bel.drew.trans (hb2.mono hBwr))
          have hBw2 : B ≤ w2.heap.size := Nat.le_trans hBwr hb2.size
          clear hb2
          have hhle := hit_le (c :: r)
          have hdl := drop_len hd (Nat.le_of_lt hlt)
          have hinv := Lib.hid (inv_hit l out _ la k (by rw [hd]; exact hh) hL'.out.inv)
          rw [hd] at hinv
          generalize hit (c :: r) = hk at *
          have hz : ((hk : Int) == 0) = false := by simp only [beq_eq_false_iff_ne]; omega
          have hmid := sl_mid l la k hlk (by omega)
          have hml : ((l.drop la).take (k - la)).length ≤ l.length := by rw [List.length_take, List.length_drop]; omega
          have hol : out.length ≤ 2 * l.length := by omega
          have hna := nil_ahead b
          have hme := meth b
          go_wp2_with fail
          go_region_with (go_at_call 248; refine (asw_write B b out ((l.drop la).take (k - la)) v2 _ (by first | exact hbuf2.out | exact hbuf2.out.drew) (by omega) (by first | exact hBw2 | simpa [World.drew] using hBw2)).mono ?_; rintro e w3 ⟨rfl, ⟨v3, hbuf3⟩, hb3⟩)
          have hbel3 : Below B w w3 := hbel2.out.trans (Below.trans (by exact (Below.refl B w2).drew) hb3)
          have hBw3 : B ≤ w3.heap.size := Nat.le_trans hBw2 hb3.size
          have hbel3' := Lib.hid hbel3; clear hbel3 hb3
          have hw4 : Calls Tryz.prog 248 #[.pointer (some ⟨b, 0, none⟩), .string ⟨#[115, 115]⟩] w3 fun e w' => e = .returned (.tuple #[.int .i64 (([115, 115] : List UInt8).length : Int), .nilIface]) ∧ (∃ v', BufS B b ((out ++ (l.drop la).take (k - la)) ++ [115, 115]) v' w') ∧ Below B w3 w' :=
            asw_write B b _ [115, 115] v3 w3 hbuf3 (by rw [List.length_append]; simp only [List.length_cons, List.length_nil]; omega) hBw3
          have hw4' := Lib.hid hw4; clear hw4 hbuf3
          go_wp2_with fail
          refine hw4'.out.mono ?_
          rintro e w4 ⟨rfl, ⟨v4, hbuf4⟩, hb4⟩
          have hnew : LoopS B b l w (k + hk) (k + hk) (out ++ (l.drop la).take (k - la) ++ [115, 115]) v4 w4 :=
            ⟨by omega, by omega, by omega, hbuf4, hbel3'.out.trans hb4, hinv.out⟩
          have hnew' := Lib.hid hnew; clear hnew hbuf4 hb4
          go_wp2_with fail
          exact ⟨⟨_, k + hk, k + hk, _, v4, rfl, rfl, by go_num, rfl, by go_num, hnew'.out⟩, by simp [intOf]; omega⟩
        · have hskip := Lib.hid (hL'.out.skip c r hd hh (hL'.out.buf.drew.below hb2) (hL'.out.bel.drew.trans (hb2.mono hBwr)))
          clear hb2
          go_wp2_with fail
          exact ⟨⟨nz, la, k + 1, out, v2, rfl, rfl, rfl, rfl, by go_num, hskip.out⟩, by simp [intOf]; omega⟩
    · rcases Nat.eq_or_lt_of_le hge with he | hgt
      · -- the text's end: nothing begins there
        subst he
        have v1 := hF2.v1
        clear hF2
        have hsl := sl_from l l.length (Nat.le_refl _)
        rw [List.drop_length] at hsl
        have hlk := Lib.hid (lookup_nil R wr v1)
        have hnew : LoopS B b l w la (l.length + 1) out v2 wr := by
          refine ⟨by omega, by omega, hll, hL'.out.buf, hL'.out.bel, ?_⟩
          have := hL'.out.inv
          rw [List.drop_length] at this
          rw [List.drop_of_length_le (show l.length ≤ l.length + 1 by omega), ← this]
          rw [List.take_of_length_le (by rw [List.length_drop]; omega), List.take_of_length_le (by rw [List.length_drop]; omega)]
        have hnew' := Lib.hid hnew; clear hnew
        go_wp2_with fail
        refine hlk.out.mono ?_
        rintro e w2 ⟨rfl, hww2⟩
        have hww2 := hww2.symm
        subst hww2
        go_wp2_with fail
        exact ⟨⟨nz, la, l.length + 1, out, v2, rfl, rfl, rfl, rfl, by go_num, hnew'.out⟩, by simp [intOf]⟩
      · have hke : k = l.length + 1 := by omega
        clear hF2
        have hend : out ++ l.drop la = foldRep l := by
          have := hL'.out.inv
          rw [List.drop_of_length_le (show l.length ≤ k by omega), List.take_of_length_le (by rw [List.length_drop]; omega)] at this
          rw [← this, foldRep_nil, List.append_nil]
        have hend' := Lib.hid hend; clear hend
        rcases Nat.eq_or_lt_of_le hll with hle | hlt2
        · have hout : out = foldRep l := by rw [← hend'.out, hle, List.drop_length, List.append_nil]
          have hbufE := Lib.hid (hout ▸ hL'.out.buf)
          clear hout
          go_wp2_with fail
          go_ret2
          exact ⟨⟨nz, rfl⟩, ⟨v2, hbufE.out⟩, hL'.out.bel⟩
        · have hsl := sl_from l la hll
          have hna := nil_ahead b
          have hme := meth b
          have hdl : (l.drop la).length = l.length - la := List.length_drop
          have hol : out.length ≤ 2 * l.length := by omega
          have hbuf2 := Lib.hid hL'.out.buf
          go_wp2_with fail
          go_region_with (go_at_call 248; refine (asw_write B b out (l.drop la) v2 _ (by first | exact hbuf2.out | exact hbuf2.out.drew) (by omega) (by first | exact hBwr | simpa [World.drew] using hBwr)).mono ?_; rintro e w3 ⟨rfl, ⟨v3, hbuf3⟩, hb3⟩)
          have hbel3 : Below B w w3 := hL'.out.bel.trans (Below.trans (by exact (Below.refl B wr).drew) hb3)
          rw [hend'.out] at hbuf3
          have hbuf3' := Lib.hid hbuf3; clear hbuf3
          have hbel3' := Lib.hid hbel3; clear hbel3 hb3
          go_wp2_with fail
          go_ret2
          exact ⟨⟨_, rfl⟩, ⟨v3, hbuf3'.out⟩, hbel3'.out⟩
end Go.Proofs.YthdlibgiejpjeaaGreatDoor.Gen

/- strings.genericReplacer.Replace; strings.Replacer of runes.Fold's four strings. -/
set_option linter.unusedVariables false
set_option linter.unusedSimpArgs false
namespace Go.Proofs.YthdlibgiejpjeaaGreatDoor.Gen
open Go Go.RowKit Go.Proofs.YthdlibgiejpjeaaGreatDoor Go.Proofs.YthdlibgiejpjeaaGreatDoorW.PrintWords Go.Proofs.YthdlibgiejpjeaaGreatDoor.Spec Go.Proofs.YthdlibgiejpjeaaGreatDoor.Given Go.Proofs.YthdlibgiejpjeaaGreatDoor.Fold Go.Proofs.YthdlibgiejpjeaaGreatDoor.PureAid

theorem buf_string {B b : Nat} {l : List UInt8} {v : Value} {W : World} (h : BufS B b l v W) : (convert 246 9 v).run Tryz.prog W = .ok (.string (mkB l)) W := by
  rcases h.own.2 with ⟨hv, _⟩ | ⟨g, cap, cur, fz, rfl, hb, hg, hf, hn, hc, hsz, ht⟩
  · exact absurd hv h.nn
  · have := run_convert_bytes_back (P := Tryz.prog) W 246 9 5 ⟨g, 0, none⟩ cap l Tryz.underlying246 Tryz.underlying5 Tryz.underlying9 (fun j hj => by
      have hk : (Lib.byteCells l)[j]? = some (.int .u8 (l[j].toNat : Int)) := by unfold Lib.byteCells; rw [List.getElem?_map, List.getElem?_eq_getElem hj]; rfl
      exact h.own.cells (g := g) rfl j _ hk)
    exact this
set_option maxHeartbeats 8000000 in
set_option maxRecDepth 1000000 in
theorem gen_replace (B0 R : Nat) (l : List UInt8) (w : World) (hG : GenB B0 R w) (hl : l.length ≤ 1000000000) :
    Calls Tryz.prog 237 #[.pointer (some ⟨R, 0, none⟩), .string (mkB l)] w fun e w' => e = .returned (.string (mkB (foldRep l))) ∧ Below w.heap.size w w' := by
  obtain ⟨i0, hi, hz0, hz1, hz2⟩ : ∃ i, Tryz.prog.info? 5 = some i ∧ i.zero = some (.int .u8 0) ∧ i.size = 1 ∧ i.bytes = 1 := by
    have := info_u8
    cases h : Tryz.prog.info? 5 with
    | none => rw [h] at this; cases this
    | some i => rw [h] at this; injection this with this; injection this with a b; injection b with b c; exact ⟨i, rfl, a, b, c⟩
  have hs := mkB_size l
  obtain ⟨W0, hmk, hown0, hg0⟩ := run_make_own (P := Tryz.prog) w w.heap.size 246 5 i0 (.int .u8 0) 1 Tryz.underlying246 hi hz0 hz1 .i64 .i64 l.length (by rw [hz2]; omega) (by unfold maxLen; omega) (Nat.le_refl _)
  have hb0 : Below w.heap.size w W0 := (Below.refl _ w).grown hg0 (Nat.le_refl _) (fun k h => by cases h)
  have hown0' := Lib.hid hown0; clear hown0
  have hb0' := Lib.hid hb0; clear hb0
  have hG' := Lib.hid hG; clear hG
  clear hg0 hi hz0 hz1 hz2
  go_enter Tryz.func237, Tryz.ntmps237
  go_wp2_with fail
  have hlt := hown0'.out.lt w.heap.size rfl
  have hbuf : BufS w.heap.size W0.heap.size [] (.slice (some ⟨w.heap.size, 0, none⟩) 0 l.length) (W0.alloc (.cells #[.slice (some ⟨w.heap.size, 0, none⟩) 0 l.length] 246)) := by
    refine ⟨by omega, ?_, (World.ownsRowF_of hown0'.out).kept (row := none) (World.grownBy_alloc W0 _ none) (.inr (by simp [Value.ownBlock])), ?_, by simp⟩
    · exact heap_alloc_new W0 _
    · simp [Value.ownBlock]; omega
  have hbel : Below w.heap.size w (W0.alloc (.cells #[.slice (some ⟨w.heap.size, 0, none⟩) 0 l.length] 246)) := hb0'.out.alloc (by omega) _
  have hw := Lib.hid (gen_write B0 R W0.heap.size l _ w hG'.out w.heap.size rfl _ hbel hbuf hl)
  clear hbuf hbel
  refine hw.out.mono ?_
  rintro e w2 ⟨⟨n, rfl⟩, ⟨v', hbuf2⟩, hb2⟩
  have hc := hbuf2.cell
  have hcv := buf_string hbuf2
  have hb2' := Lib.hid hb2; clear hb2 hbuf2
  go_wp2_with fail
  go_ret
  exact ⟨rfl, hb2'.out⟩
end Go.Proofs.YthdlibgiejpjeaaGreatDoor.Gen

/- strings.Replacer of runes.Fold's four strings. -/
set_option linter.unusedVariables false
set_option linter.unusedSimpArgs false
namespace Go.Proofs.YthdlibgiejpjeaaGreatDoor.Gen
open Go Go.RowKit Go.Proofs.YthdlibgiejpjeaaGreatDoor Go.Proofs.YthdlibgiejpjeaaGreatDoorW.PrintWords Go.Proofs.YthdlibgiejpjeaaGreatDoor.Spec Go.Proofs.YthdlibgiejpjeaaGreatDoor.Given Go.Proofs.YthdlibgiejpjeaaGreatDoor.Fold Go.Proofs.YthdlibgiejpjeaaGreatDoor.PureAid

theorem GenT.bel {w0 R W} (h : GenT w0 R W) : Below w0.heap.size w0 W := by
  obtain ⟨T, N, M, N', M', hT, hN, hN'⟩ := h
  exact hT.bel
set_option maxHeartbeats 4000000 in
set_option maxRecDepth 1000000 in
theorem build4 (p A c : Nat) (w : World) (ho : w.cell? ⟨p, 4, none⟩ = some (.slice (some ⟨A, 0, none⟩) 4 c)) (hc : ∀ j u, pairs4[j]? = some u → w.cell? ⟨A, j, none⟩ = some u) :
    Calls Tryz.prog 136 #[.pointer (some ⟨p, 0, none⟩)] w fun e w' => ∃ R, e = .returned (.iface 163 (.pointer (some ⟨R, 0, none⟩))) ∧ GenB w.heap.size R w' ∧ Below w.heap.size w w' := by
  have hm := Lib.hid (fun w1 (h1 : ∀ j u, pairs4[j]? = some u → w1.cell? ⟨A, j, none⟩ = some u) => makeGen A c w1 h1)
  have hcells := Lib.hid hc; clear hc
  go_enter Tryz.func136, Tryz.ntmps136
  go_wp2_with fail
  go_loopw [4, 5] (fun an i wr => Below w.heap.size w wr ∧ an = .bool true ∧ i = .int .i64 0) (fun _ i _ => 10 - (intOf i).toNat)
  case atStart => exact ⟨Below.refl _ w, rfl, rfl⟩
  case round =>
    obtain ⟨hbw, rfl, rfl⟩ := hrel
    have c0 := cell_below (hcells.out 0 _ rfl) hbw
    have hbw' := Lib.hid hbw; clear hbw
    go_wp2_with fail
    refine (hm.out _ (fun j u hj => cell_below (hcells.out j u hj) hbw'.out)).mono ?_
    rintro e w2 ⟨R, rfl, hG⟩
    have hB := hG.toB
    have hbel := hG.bel
    have hB' := Lib.hid (show GenB w.heap.size R w2 from hB.mono hbw'.out.size)
    have hbel' := Lib.hid (hbw'.out.trans (hbel.mono hbw'.out.size))
    clear hG hB hbel
    go_wp2_with fail
    go_ret
    exact ⟨R, rfl, hB'.out, hbel'.out⟩
set_option maxHeartbeats 4000000 in
set_option maxRecDepth 1000000 in
theorem buildOnce4 (p A c : Nat) (w : World) (ho : w.cell? ⟨p, 4, none⟩ = some (.slice (some ⟨A, 0, none⟩) 4 c)) (hc : ∀ j u, pairs4[j]? = some u → w.cell? ⟨A, j, none⟩ = some u)
    (h3 : w.cell? ⟨p, 3, none⟩ = some .nilIface) (hf : ∀ o, w.frozen? ⟨p, o, none⟩ = false) :
    Calls Tryz.prog 91 #[.pointer (some ⟨p, 0, none⟩)] w fun e w' => e = .returned (.tuple #[]) ∧ ∃ R W2, GenB w.heap.size R W2 ∧ Below w.heap.size w W2 ∧ w' = (W2.setCell ⟨p, 3, none⟩ (.iface 163 (.pointer (some ⟨R, 0, none⟩)))).setCell ⟨p, 4, none⟩ (.slice none 0 0) := by
  have hb := build4 p A c w ho hc
  have hb' := Lib.hid hb; clear hb hc
  go_enter Tryz.func91, Tryz.ntmps91
  go_wp2_with fail
  refine hb'.out.mono ?_
  rintro e w1 ⟨R, rfl, hT, hb1⟩
  have h3' := cell_below h3 hb1
  have ho' := cell_below ho hb1
  have hf3 := frozen_below h3 (hf 3) hb1
  have hf4 := frozen_below ho (hf 4) hb1
  have ho2 := (World.cell?_setCell_other w1 ⟨p, 3, none⟩ ⟨p, 4, none⟩ (.iface 163 (.pointer (some ⟨R, 0, none⟩))) (by simp)).trans ho'
  have hT' := Lib.hid hT; clear hT
  have hb1' := Lib.hid hb1; clear hb1
  clear hf h3 ho
  go_wp2_with fail
  go_end0
  exact ⟨rfl, R, w1, hT'.out, hb1'.out, rfl⟩

set_option maxHeartbeats 4000000 in
set_option maxRecDepth 1000000 in
/-- (*sync.Once).doSlow of a new Replacer's buildOnce. -/
theorem doSlow4 (B p A c : Nat) (w : World) (h : NewRep4 B p A c pairs4 w) (hpw : p < w.heap.size) :
    Calls Tryz.prog 135 #[.pointer (some ⟨p, 0, none⟩), .func (.func 91) #[.pointer (some ⟨p, 0, none⟩)] #[]] w fun e w' => e = .returned (.tuple #[]) ∧ ∃ R W2, GenB w.heap.size R W2 ∧ Below w.heap.size (w.setCell ⟨p, 1, none⟩ (.int .i32 1)) W2 ∧
      w' = ((((W2.setCell ⟨p, 3, none⟩ (.iface 163 (.pointer (some ⟨R, 0, none⟩)))).setCell ⟨p, 4, none⟩ (.slice none 0 0)).drew.setCell ⟨p, 0, none⟩ (.int .u32 1)).setCell ⟨p, 1, none⟩ (.int .i32 0)) := by
  have h0 := h.done
  have h1 := h.mu
  have f0 := h.fz 0
  have f1 := h.fz 1
  have hl := Lib.hid (load0 ⟨p, 0, none⟩ (w.setCell ⟨p, 1, none⟩ (.int .i32 1)) ((World.cell?_setCell_other w ⟨p, 1, none⟩ ⟨p, 0, none⟩ (.int .i32 1) (by simp)).trans h0))
  have hnot : ∀ (x : Bool) (w : World), (Op.unary .not (.bool x)).run Tryz.prog w = .ok (.bool (!x)) w := fun _ _ => rfl
  have hApart : A ≠ p := h.ne
  have hbo := buildOnce4 p A c (w.setCell ⟨p, 1, none⟩ (.int .i32 1)) ((World.cell?_setCell_other _ _ _ _ (by simp)).trans h.oldnew) (fun j u hj => (World.cell?_setCell_other _ _ _ _ (ne_addr (.inl (Ne.symm h.ne)))).trans (h.cells j u hj)) ((World.cell?_setCell_other _ _ _ _ (by simp)).trans h.r) (fun o => by rw [World.frozen?_setCell]; exact h.fz o)
  have hbo' := Lib.hid hbo; clear hbo
  have h' := Lib.hid h; clear h
  go_enter_defers Tryz.func135, Tryz.ntmps135
  go_wp2_with (go_at_call 161; refine (lock_free ⟨p, 1, none⟩ _ (by go_simp) (by go_simp)).mono ?_; rintro e w' ⟨rfl, rfl⟩)
  refine hl.out.mono ?_
  rintro e w1 ⟨rfl, rfl⟩
  go_wp2_with fail
  refine hbo'.out.mono ?_
  rintro e w1 ⟨rfl, R, W2, hT, hb, rfl⟩
  have hsz : (w.setCell ⟨p, 1, none⟩ (.int .i32 1)).heap.size = w.heap.size := by simp [World.setCell]
  have q0 : W2.cell? ⟨p, 0, none⟩ = some (.int .u32 0) := cell_below ((World.cell?_setCell_other _ _ _ _ (by simp)).trans h0) hb
  have q1 : W2.cell? ⟨p, 1, none⟩ = some (.int .i32 1) := cell_below (World.cell?_setCell_same _ _ _ h1) hb
  have z0 : W2.frozen? ⟨p, 0, none⟩ = false := by rw [hb.frozen (show p < _ by rw [hsz]; exact hpw), World.frozen?_setCell]; exact f0
  have z1 : W2.frozen? ⟨p, 1, none⟩ = false := by rw [hb.frozen (show p < _ by rw [hsz]; exact hpw), World.frozen?_setCell]; exact f1
  rw [hsz] at hT hb
  have hT' := Lib.hid hT; clear hT
  have hb' := Lib.hid hb; clear hb
  go_wp2_with fail
  refine leaves_cons (f := 163) (args := #[.pointer (some ⟨p, 0, none⟩), .bool true]) (by simp) (by simp [go_sem]) ?_
  refine (store_deferred ⟨p, 0, none⟩ (.int .u32 0) .returning _ ?_ (by simp [z0])).mono ?_
  · exact (World.cell?_setCell_other _ _ _ _ (by simp)).trans ((World.cell?_setCell_other _ _ _ _ (by simp)).trans q0)
  rintro e u' w'' ⟨rfl, rfl, rfl⟩
  refine leaves_cons (f := 162) (args := #[.pointer (some ⟨p, 1, none⟩)]) (by simp [settle]) (by simp [go_sem]) ?_
  refine (unlock_deferred ⟨p, 1, none⟩ _ _ ?_ (by simp [z1])).mono ?_
  · refine (World.cell?_setCell_other _ _ _ _ (by simp)).trans ?_
    rw [World.cell?_drew]
    exact (World.cell?_setCell_other _ _ _ _ (by simp)).trans ((World.cell?_setCell_other _ _ _ _ (by simp)).trans q1)
  rintro e u' w'' ⟨rfl, rfl, rfl⟩
  simp [Leaves, settle, results, Tryz.results135]
  exact ⟨R, W2, hT'.out, hb'.out, rfl⟩

set_option maxHeartbeats 4000000 in
set_option maxRecDepth 1000000 in
theorem doOnce4 (B p A c : Nat) (w : World) (h : NewRep4 B p A c pairs4 w) (hBw : B ≤ w.heap.size) :
    Calls Tryz.prog 90 #[.pointer (some ⟨p, 0, none⟩), .func (.func 91) #[.pointer (some ⟨p, 0, none⟩)] #[]] w fun e w' => e = .returned (.tuple #[]) ∧ ∃ R, GenB w.heap.size R w' ∧ Below B w w' ∧
      w'.cell? ⟨p, 3, none⟩ = some (.iface 163 (.pointer (some ⟨R, 0, none⟩))) := by
  have hpw : p < w.heap.size := lt_of_cell h.done
  have hl := Lib.hid (load0 ⟨p, 0, none⟩ w h.done)
  have hs := Lib.hid (doSlow4 B p A c w h hpw)
  have h' := Lib.hid h; clear h
  go_enter Tryz.func90, Tryz.ntmps90
  go_wp2_with fail
  refine hl.out.mono ?_
  rintro e w1 ⟨rfl, hww⟩
  have hww := hww.symm
  subst hww
  go_wp2_with fail
  refine hs.out.mono ?_
  rintro e w1 ⟨rfl, R, W2, hT, hb, hw1⟩
  have hT' := Lib.hid hT; clear hT
  have hb' := Lib.hid hb; clear hb
  have hw1' := Lib.hid hw1; clear hw1
  go_wp2_with fail
  go_end0
  have hh := h'.out
  refine ⟨rfl, R, ?_, ?_, ?_⟩
  · rw [hw1'.out]; exact ((((hT'.out.setCell hpw _).setCell hpw _).drew).setCell hpw _).setCell hpw _
  · have k1 : Below B w (w.setCell ⟨p, 1, none⟩ (.int .i32 1)) := (Below.refl B w).setCell hh.pB _
    have k2 : Below B w W2 := k1.trans (hb'.out.mono hBw)
    rw [hw1'.out]
    exact (((((k2.setCell (p := ⟨p, 3, none⟩) hh.pB _).setCell (p := ⟨p, 4, none⟩) hh.pB _).drew).setCell (p := ⟨p, 0, none⟩) hh.pB _).setCell (p := ⟨p, 1, none⟩) hh.pB _)
  · have hsz : (w.setCell ⟨p, 1, none⟩ (.int .i32 1)).heap.size = w.heap.size := by simp [World.setCell]
    have q3 : W2.cell? ⟨p, 3, none⟩ = some .nilIface := by
      rw [hb'.out.cell (show p < w.heap.size from hpw)]
      exact (World.cell?_setCell_other _ _ _ _ (by simp)).trans hh.r
    rw [hw1'.out, World.cell?_setCell_other _ _ _ _ (by simp), World.cell?_setCell_other _ _ _ _ (by simp), World.cell?_drew, World.cell?_setCell_other _ _ _ _ (by simp)]
    exact World.cell?_setCell_same _ _ _ q3

set_option maxHeartbeats 4000000 in
set_option maxRecDepth 1000000 in
theorem replReplace4 (B p A c : Nat) (l : List UInt8) (w : World) (h : NewRep4 B p A c pairs4 w) (hBw : B ≤ w.heap.size) (hs : l.length ≤ 1000000000) :
    Calls Tryz.prog 51 #[.pointer (some ⟨p, 0, none⟩), .string (mkB l)] w fun e w' => e = .returned (.string (mkB (foldRep l))) ∧ Below B w w' := by
  have hmf : ∀ (fn : Fn) (first cap : Array Value) (w : World), (Instr.makeFunc fn first cap).run Tryz.prog w = .ok (.func fn first cap) w := fun _ _ _ _ => rfl
  have hd := Lib.hid (doOnce4 B p A c w h hBw)
  have hrep := Lib.hid (fun (w1 : World) (R : Nat) (hT : GenB w.heap.size R w1) => gen_replace w.heap.size R l w1 hT hs)
  obtain ⟨LB, hL⟩ : ∃ LB, mkB l = LB := ⟨_, rfl⟩
  rw [hL] at hrep ⊢
  clear hL
  have h' := Lib.hid h; clear h
  go_enter Tryz.func51, Tryz.ntmps51
  go_wp2_with fail
  refine hd.out.mono ?_
  rintro e w1 ⟨rfl, R, hT, hb1, h3⟩
  have hr := Lib.hid (hrep.out w1 R hT)
  have hb1' := Lib.hid hb1; clear hb1 
  clear hT
  go_wp2_with fail
  refine hr.out.mono ?_
  rintro e w2 ⟨rfl, hb2⟩
  go_wp2_with fail
  go_ret
  exact ⟨rfl, hb1'.out.trans (hb2.mono (Nat.le_trans hBw hb1'.out.size))⟩

end Go.Proofs.YthdlibgiejpjeaaGreatDoor.Gen

/- The contract of runes.Fold. -/
set_option linter.unusedVariables false
set_option linter.unusedSimpArgs false
namespace Go.Proofs.YthdlibgiejpjeaaGreatDoor.Gen
open Go Go.RowKit Go.Lib Go.Proofs.YthdlibgiejpjeaaGreatDoor Go.Proofs.YthdlibgiejpjeaaGreatDoorW.PrintWords Go.Proofs.YthdlibgiejpjeaaGreatDoor.Spec Go.Proofs.YthdlibgiejpjeaaGreatDoor.Given Go.Proofs.YthdlibgiejpjeaaGreatDoor.Fold Go.Proofs.YthdlibgiejpjeaaGreatDoor.PureAid

set_option maxHeartbeats 4000000 in
set_option maxRecDepth 1000000 in
theorem space_runes (w : World) : PredAtRunes Tryz.prog 128 #[] space w := by
  intro W x hx _
  unfold FnGives
  have hin : x ∈ [9, 10, 12, 13, 32, 160, 5760, 8239, 8287, 12288] ∨ ¬ x ∈ [9, 10, 12, 13, 32, 160, 5760, 8239, 8287, 12288] := Classical.em _
  rcases hin with hin | hin
  · have hs : space x = true := by
      simp only [List.mem_cons, List.not_mem_nil, or_false] at hin
      rcases hin with rfl | rfl | rfl | rfl | rfl | rfl | rfl | rfl | rfl | rfl <;> rfl
    rw [hs]
    simp only [List.mem_cons, List.not_mem_nil, or_false] at hin
    rcases hin with rfl | rfl | rfl | rfl | rfl | rfl | rfl | rfl | rfl | rfl
    all_goals (
      show Calls Tryz.prog 128 #[.int .i32 _] W _
      go_enter Tryz.func128, Tryz.ntmps128
      go_wp2_with fail
      go_ret
      exact ⟨rfl, 0, rfl⟩)
  · simp only [List.mem_cons, List.not_mem_nil, or_false, not_or] at hin
    obtain ⟨h1, h2, h3, h4, h5, h6, h7, h8, h9, h10⟩ := hin
    have i1 : ¬ ((x : Int) = 9) := by omega
    have i2 : ¬ ((x : Int) = 10) := by omega
    have i3 : ¬ ((x : Int) = 12) := by omega
    have i4 : ¬ ((x : Int) = 13) := by omega
    have i5 : ¬ ((x : Int) = 32) := by omega
    have i6 : ¬ ((x : Int) = 160) := by omega
    have i7 : ¬ ((x : Int) = 5760) := by omega
    have i8 : ¬ ((x : Int) = 8239) := by omega
    have i9 : ¬ ((x : Int) = 8287) := by omega
    have i10 : ¬ ((x : Int) = 12288) := by omega
    have hs : space x = (decide (8192 ≤ x) && decide (x ≤ 8202)) := by
      unfold space
      simp [h1, h2, h3, h4, h5, h6, h7, h8, h9, h10]
    rw [hs]
    clear hs
    show Calls Tryz.prog 128 #[.int .i32 (x : Int)] W _
    by_cases ha : 8192 ≤ x
    · by_cases hb : x ≤ 8202
      · have hr : (decide (8192 ≤ x) && decide (x ≤ 8202)) = true := by simp [ha, hb]
        rw [hr]
        go_enter Tryz.func128, Tryz.ntmps128
        go_wp2_with fail
        go_ret
        exact ⟨congrArg (fun b => Ending.returned (Value.bool b)) (decide_eq_true (by omega)), 0, rfl⟩
      · have hr : (decide (8192 ≤ x) && decide (x ≤ 8202)) = false := by simp; omega
        rw [hr]
        go_enter Tryz.func128, Tryz.ntmps128
        go_wp2_with fail
        go_ret
        exact ⟨congrArg (fun b => Ending.returned (Value.bool b)) (decide_eq_false (by omega)), 0, rfl⟩
    · have hr : (decide (8192 ≤ x) && decide (x ≤ 8202)) = false := by simp; omega
      rw [hr]
      go_enter Tryz.func128, Tryz.ntmps128
      go_wp2_with fail
      go_ret
      exact ⟨rfl, 0, rfl⟩
set_option maxHeartbeats 4000000 in
set_option maxRecDepth 1000000 in
theorem small_runes (w : World) : MapAtRunes Tryz.prog 129 #[] small w := by
  intro W x hx _
  unfold FnGives
  show Calls Tryz.prog 129 #[.int .i32 (x : Int)] W _
  have hcases : (0 ≤ x ∧ x ≤ 64) ∨ (65 ≤ x ∧ x ≤ 90) ∨ (91 ≤ x ∧ x ≤ 191) ∨ (192 ≤ x ∧ x ≤ 214) ∨ (215 ≤ x ∧ x ≤ 215) ∨ (216 ≤ x ∧ x ≤ 222) ∨ (223 ≤ x ∧ x ≤ 912) ∨ (913 ≤ x ∧ x ≤ 937) ∨ (938 ≤ x ∧ x ≤ 1023) ∨ (1024 ≤ x ∧ x ≤ 1039) ∨ (1040 ≤ x ∧ x ≤ 1071) ∨ (1072 ≤ x ∧ x ≤ 1114111) := by omega
  rcases hcases with ⟨ha, hb⟩ | ⟨ha, hb⟩ | ⟨ha, hb⟩ | ⟨ha, hb⟩ | ⟨ha, hb⟩ | ⟨ha, hb⟩ | ⟨ha, hb⟩ | ⟨ha, hb⟩ | ⟨ha, hb⟩ | ⟨ha, hb⟩ | ⟨ha, hb⟩ | ⟨ha, hb⟩
  · have hs : small (x : Int) = (x : Int) := by unfold small; rw [if_neg (by omega), if_neg (by omega)]
    rw [hs]
    clear hs
    go_enter Tryz.func129, Tryz.ntmps129
    go_wp2_with fail
    go_ret
    exact ⟨rfl, 0, rfl⟩
  · have hs : small (x : Int) = (x : Int) + 32 := by unfold small; rw [if_pos (by omega)]
    rw [hs]
    clear hs
    go_enter Tryz.func129, Tryz.ntmps129
    go_wp2_with fail
    go_ret
    exact ⟨rfl, 0, rfl⟩
  · have hs : small (x : Int) = (x : Int) := by unfold small; rw [if_neg (by omega), if_neg (by omega)]
    rw [hs]
    clear hs
    go_enter Tryz.func129, Tryz.ntmps129
    go_wp2_with fail
    go_ret
    exact ⟨rfl, 0, rfl⟩
  · have hs : small (x : Int) = (x : Int) + 32 := by unfold small; rw [if_pos (by omega)]
    rw [hs]
    clear hs
    go_enter Tryz.func129, Tryz.ntmps129
    go_wp2_with fail
    go_ret
    exact ⟨rfl, 0, rfl⟩
  · have hs : small (x : Int) = (x : Int) := by unfold small; rw [if_neg (by omega), if_neg (by omega)]
    rw [hs]
    clear hs
    go_enter Tryz.func129, Tryz.ntmps129
    go_wp2_with fail
    go_ret
    exact ⟨rfl, 0, rfl⟩
  · have hs : small (x : Int) = (x : Int) + 32 := by unfold small; rw [if_pos (by omega)]
    rw [hs]
    clear hs
    go_enter Tryz.func129, Tryz.ntmps129
    go_wp2_with fail
    go_ret
    exact ⟨rfl, 0, rfl⟩
  · have hs : small (x : Int) = (x : Int) := by unfold small; rw [if_neg (by omega), if_neg (by omega)]
    rw [hs]
    clear hs
    go_enter Tryz.func129, Tryz.ntmps129
    go_wp2_with fail
    go_ret
    exact ⟨rfl, 0, rfl⟩
  · have hs : small (x : Int) = (x : Int) + 32 := by unfold small; rw [if_pos (by omega)]
    rw [hs]
    clear hs
    go_enter Tryz.func129, Tryz.ntmps129
    go_wp2_with fail
    go_ret
    exact ⟨rfl, 0, rfl⟩
  · have hs : small (x : Int) = (x : Int) := by unfold small; rw [if_neg (by omega), if_neg (by omega)]
    rw [hs]
    clear hs
    go_enter Tryz.func129, Tryz.ntmps129
    go_wp2_with fail
    go_ret
    exact ⟨rfl, 0, rfl⟩
  · have hs : small (x : Int) = (x : Int) + 80 := by unfold small; rw [if_neg (by omega), if_pos (by omega)]
    rw [hs]
    clear hs
    go_enter Tryz.func129, Tryz.ntmps129
    go_wp2_with fail
    go_ret
    exact ⟨rfl, 0, rfl⟩
  · have hs : small (x : Int) = (x : Int) + 32 := by unfold small; rw [if_pos (by omega)]
    rw [hs]
    clear hs
    go_enter Tryz.func129, Tryz.ntmps129
    go_wp2_with fail
    go_ret
    exact ⟨rfl, 0, rfl⟩
  · have hs : small (x : Int) = (x : Int) := by unfold small; rw [if_neg (by omega), if_neg (by omega)]
    rw [hs]
    clear hs
    go_enter Tryz.func129, Tryz.ntmps129
    go_wp2_with fail
    go_ret
    exact ⟨rfl, 0, rfl⟩

theorem join_ne (A : Nat) : True := trivial
def foldWords (l : List UInt8) : List ByteArray := Lib.goFieldsP space (mkB l)
set_option maxHeartbeats 8000000 in
set_option maxRecDepth 1000000 in
theorem fold_calls (l : List UInt8) (w : World) (hG : GW w) (hl : l.length ≤ 10000000) :
    Calls Tryz.prog 83 #[.string (mkB l)] w fun e w' => e = .returned (.string (mkB (fold l))) ∧ Below w.heap.size w w' := by
  obtain ⟨FB0, hFB⟩ : ∃ FB0, mkB (fold l) = FB0 := ⟨_, rfl⟩
  rw [hFB]
  have hFB' := Lib.hid hFB; clear hFB
  have hs := mkB_size l
  have eg := enters_of Tryz.func128 (by kernel_rfl) rfl
  have eg2 := enters_of Tryz.func129 (by kernel_rfl) rfl
  have hF := Lib.hid (Tryz.strings_FieldsFunc_runes 128 #[] eg space (mkB l) w (by rw [mkB_size]; omega) (space_runes w))
  go_enter Tryz.func83, Tryz.ntmps83
  go_wp2_with fail
  refine hF.out.mono ?_
  rintro e w1 ⟨A, rfl, hA, hrow, hb1⟩
  have hAl := (hrow.lt A rfl).2
  obtain ⟨hw1, hw2⟩ := words_size l
  have hwl : (Lib.goFieldsP space (mkB l)).length ≤ l.length := by
    have : (words l).length = (Lib.goFieldsP space (mkB l)).length := by unfold words; rw [List.length_map]; rfl
    omega
  have hjl := joined_len l
  have hml := mapped_len l
  have hJ : Calls Tryz.prog 130 #[.slice (some ⟨A, 0, none⟩) (Lib.goFieldsP space (mkB l)).length (Lib.goFieldsP space (mkB l)).length, .string ⟨#[32]⟩] w1 fun e w' => e = .returned (.string (mkB (joined l))) ∧ Below w1.heap.size w1 w' :=
    Tryz.strings_Join A 0 _ (Lib.goFieldsP space (mkB l)) ⟨#[32]⟩ w1 (fun j x hj => by
      have hjl : j < (Lib.goFieldsP space (mkB l)).length := (List.getElem?_eq_some_iff.1 hj).1
      rw [Nat.zero_add]
      exact (hrow.cellAt j (by omega)).trans (by rw [List.getElem?_map, hj]; rfl)) hAl (by omega) (Nat.le_refl _) (by show (joined l).length ≤ _; omega)
  have hJ' := Lib.hid hJ; clear hJ
  have hG1 := hG.below hb1
  have hb1' := Lib.hid hb1; clear hb1 hrow
  generalize (Lib.goFieldsP space (mkB l)).length = nw at *
  have hMap := Lib.hid (fun (w2 : World) (h2 : GW w2) => Tryz.strings_Map_runes 129 #[] eg2 small (mkB (joined l)) w2 (by rw [mkB_size]; omega) (small_runes w2) (fun x hx => small_in x hx) h2.u8)
  have hmj : (⟨(Lib.mapD small (mkB (joined l)).data.toList).toArray⟩ : ByteArray) = mkB (Lib.mapD small (joined l)) := by rw [mkB_data]; rfl
  rw [hmj] at hMap
  generalize hmd0 : Lib.mapD small (joined l) = md at *
  have hmd0' := Lib.hid hmd0; clear hmd0
  have hmd : md.length ≤ 1000000000 := by omega
  generalize hJB : mkB (joined l) = JB at *
  clear hF hJB hmj
  go_wp2_with fail
  refine hJ'.out.mono ?_
  rintro e w2 ⟨rfl, hb2⟩
  have hM2 := Lib.hid (hMap.out w2 (hG1.below hb2))
  have hb12 := Lib.hid (hb1'.out.trans (hb2.mono hb1'.out.size))
  clear hb2 hMap
  go_wp2_with fail
  refine hM2.out.mono ?_
  rintro e w3 ⟨rfl, hb3⟩
  have hb13 := Lib.hid (hb12.out.trans (hb3.mono hb12.out.size))
  clear hb3
  have hba := (Below.refl _ w3).alloc (Nat.le_refl _) (.cells #[.string ⟨#[195, 159]⟩, .string ⟨#[115, 115]⟩, .string ⟨#[225, 186, 158]⟩, .string ⟨#[115, 115]⟩] 9)
  have hn := Lib.hid (newReplacer4 w3.heap.size pairs4 rfl (w3.alloc (.cells #[.string ⟨#[195, 159]⟩, .string ⟨#[115, 115]⟩, .string ⟨#[225, 186, 158]⟩, .string ⟨#[115, 115]⟩] 9)) (fun j u hj => by rw [World.cell?_alloc_new]; simpa [pairs4] using hj) (by decide))
  have hr := Lib.hid (fun (w1 : World) (B p A c : Nat) (h : NewRep4 B p A c pairs4 w1) (hB : B ≤ w1.heap.size) => replReplace4 B p A c md w1 h hB hmd)
  generalize hFB2 : mkB (foldRep md) = FB at *
  have hFB2' := Lib.hid hFB2; clear hFB2
  generalize mkB md = MB at *
  have hba' := Lib.hid hba; clear hba
  go_wp2_with fail
  refine hn.out.mono ?_
  rintro e w4 ⟨p, A2, c, rfl, hN, hb4⟩
  have hr2 := Lib.hid (hr.out w4 _ p A2 c hN hb4.size)
  have hb4' := Lib.hid hb4; clear hb4 hN
  go_wp2_with fail
  refine hr2.out.mono ?_
  rintro e w5 ⟨rfl, hb5⟩
  go_wp2_with fail
  go_ret
  refine ⟨by rw [← hFB'.out, ← hFB2'.out, ← hmd0'.out]; rfl, ?_⟩
  have q1 := hba'.out.trans (hb4'.out.mono hba'.out.size)
  have q2 := q1.trans (hb5.mono hba'.out.size)
  exact hb13.out.trans (q2.mono hb13.out.size)
end Go.Proofs.YthdlibgiejpjeaaGreatDoor.Gen

