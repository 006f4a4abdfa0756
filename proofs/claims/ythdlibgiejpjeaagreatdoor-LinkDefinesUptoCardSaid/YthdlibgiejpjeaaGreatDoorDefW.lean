import Derived.Test.YthdlibgiejpjeaaGreatDoorLinkC
import Derived.Deep.RegionHeld3
import Derived.Deep.DeepCutAuto
import Derived.BigRegion
/- LinkDefines: the statement that draws its order over three new rows of strings: whatever the order, the text is one. -/
set_option linter.unusedVariables false
set_option linter.unusedSimpArgs false
namespace Go.Proofs.YthdlibgiejpjeaaGreatDoor.DefR
open Go Go.RowKit Go.Proofs.YthdlibgiejpjeaaGreatDoor Go.Proofs.YthdlibgiejpjeaaGreatDoor.Given Go.Proofs.YthdlibgiejpjeaaGreatDoorW.PrintWords Go.Proofs.YthdlibgiejpjeaaGreatDoor.Spec Go.Proofs.YthdlibgiejpjeaaGreatDoor.PureAid
@[reducible] def o0 : Oper := { dst := some 31, op := Op.buildSlice 42 3 #[(0, Operand.const (Value.string { data := #[] })), (1, Operand.const (Value.string { data := #[32] })), (2, Operand.const (Value.string { data := #[32, 32, 32] }))], type := 42, pos := "law.go:99", after := #[], guard := none }
@[reducible] def o1 : Oper := { dst := some 32, op := Op.move (Operand.tmp 13), type := 41, pos := "law.go:99", after := #[], guard := none }
@[reducible] def o2 : Oper := { dst := some 33, op := Op.indexAddr 41 (Operand.tmp 32) (Operand.const (Value.int IntKind.i64 0)), type := 0, pos := "law.go:99", after := #[{ on := 1, ground := Ground.data }], guard := none }
@[reducible] def o3 : Oper := { dst := some 34, op := Op.load 3 (Operand.tmp 33), type := 3, pos := "law.go:99", after := #[{ on := 2, ground := Ground.data }], guard := none }
@[reducible] def o4 : Oper := { dst := some 35, op := Op.binOp BinOp.rem 3 (Operand.tmp 34) (Operand.const (Value.int IntKind.i64 3)) 3, type := 3, pos := "law.go:99", after := #[{ on := 3, ground := Ground.data }], guard := none }
@[reducible] def o5 : Oper := { dst := some 36, op := Op.indexAddr 42 (Operand.tmp 31) (Operand.tmp 35), type := 0, pos := "law.go:99", after := #[{ on := 0, ground := Ground.data }, { on := 4, ground := Ground.data }], guard := none }
@[reducible] def o6 : Oper := { dst := some 37, op := Op.load 9 (Operand.tmp 36), type := 9, pos := "law.go:99", after := #[{ on := 5, ground := Ground.data }], guard := none }
@[reducible] def o7 : Oper := { dst := some 38, op := Op.binOp BinOp.add 9 (Operand.tmp 37) (Operand.const (Value.string { data := #[91] })) 9, type := 9, pos := "law.go:99", after := #[{ on := 6, ground := Ground.data }], guard := none }
@[reducible] def o8 : Oper := { dst := some 39, op := Op.move (Operand.tmp 10), type := 9, pos := "law.go:99", after := #[], guard := none }
@[reducible] def o9 : Oper := { dst := some 40, op := Op.binOp BinOp.add 9 (Operand.tmp 38) (Operand.tmp 39) 9, type := 9, pos := "law.go:99", after := #[{ on := 7, ground := Ground.data }, { on := 8, ground := Ground.data }], guard := none }
@[reducible] def o10 : Oper := { dst := some 41, op := Op.binOp BinOp.add 9 (Operand.tmp 40) (Operand.const (Value.string { data := #[93, 58] })) 9, type := 9, pos := "law.go:99", after := #[{ on := 9, ground := Ground.data }], guard := none }
@[reducible] def o11 : Oper := { dst := some 42, op := Op.buildSlice 42 4 #[(0, Operand.const (Value.string { data := #[] })), (1, Operand.const (Value.string { data := #[32] })), (2, Operand.const (Value.string { data := #[10] })), (3, Operand.const (Value.string { data := #[32, 9, 10, 32, 32] }))], type := 42, pos := "law.go:99", after := #[], guard := none }
@[reducible] def o12 : Oper := { dst := some 43, op := Op.move (Operand.tmp 13), type := 41, pos := "law.go:99", after := #[], guard := none }
@[reducible] def o13 : Oper := { dst := some 44, op := Op.indexAddr 41 (Operand.tmp 43) (Operand.const (Value.int IntKind.i64 1)), type := 0, pos := "law.go:99", after := #[{ on := 12, ground := Ground.data }], guard := none }
@[reducible] def o14 : Oper := { dst := some 45, op := Op.load 3 (Operand.tmp 44), type := 3, pos := "law.go:99", after := #[{ on := 13, ground := Ground.data }], guard := none }
@[reducible] def o15 : Oper := { dst := some 46, op := Op.binOp BinOp.rem 3 (Operand.tmp 45) (Operand.const (Value.int IntKind.i64 4)) 3, type := 3, pos := "law.go:99", after := #[{ on := 14, ground := Ground.data }], guard := none }
@[reducible] def o16 : Oper := { dst := some 47, op := Op.indexAddr 42 (Operand.tmp 42) (Operand.tmp 46), type := 0, pos := "law.go:99", after := #[{ on := 11, ground := Ground.data }, { on := 15, ground := Ground.data }], guard := none }
@[reducible] def o17 : Oper := { dst := some 48, op := Op.load 9 (Operand.tmp 47), type := 9, pos := "law.go:99", after := #[{ on := 16, ground := Ground.data }], guard := none }
@[reducible] def o18 : Oper := { dst := some 49, op := Op.binOp BinOp.add 9 (Operand.tmp 41) (Operand.tmp 48) 9, type := 9, pos := "law.go:99", after := #[{ on := 10, ground := Ground.data }, { on := 17, ground := Ground.data }], guard := none }
@[reducible] def o19 : Oper := { dst := some 50, op := Op.move (Operand.tmp 11), type := 9, pos := "law.go:99", after := #[], guard := none }
@[reducible] def o20 : Oper := { dst := some 51, op := Op.move (Operand.tmp 11), type := 9, pos := "law.go:99", after := #[], guard := none }
@[reducible] def o21 : Oper := { dst := some 52, op := Op.binOp BinOp.add 9 (Operand.const (Value.string { data := #[60] })) (Operand.tmp 51) 9, type := 9, pos := "law.go:99", after := #[{ on := 20, ground := Ground.data }], guard := none }
@[reducible] def o22 : Oper := { dst := some 53, op := Op.binOp BinOp.add 9 (Operand.tmp 52) (Operand.const (Value.string { data := #[62] })) 9, type := 9, pos := "law.go:99", after := #[{ on := 21, ground := Ground.data }], guard := none }
@[reducible] def o23 : Oper := { dst := some 54, op := Op.buildSlice 42 2 #[(0, Operand.tmp 50), (1, Operand.tmp 53)], type := 42, pos := "law.go:99", after := #[{ on := 19, ground := Ground.data }, { on := 22, ground := Ground.data }], guard := none }
@[reducible] def o24 : Oper := { dst := some 55, op := Op.move (Operand.tmp 13), type := 41, pos := "law.go:99", after := #[], guard := none }
@[reducible] def o25 : Oper := { dst := some 56, op := Op.indexAddr 41 (Operand.tmp 55) (Operand.const (Value.int IntKind.i64 2)), type := 0, pos := "law.go:99", after := #[{ on := 24, ground := Ground.data }], guard := none }
@[reducible] def o26 : Oper := { dst := some 57, op := Op.load 3 (Operand.tmp 56), type := 3, pos := "law.go:99", after := #[{ on := 25, ground := Ground.data }], guard := none }
@[reducible] def o27 : Oper := { dst := some 58, op := Op.binOp BinOp.rem 3 (Operand.tmp 57) (Operand.const (Value.int IntKind.i64 2)) 3, type := 3, pos := "law.go:99", after := #[{ on := 26, ground := Ground.data }], guard := none }
@[reducible] def o28 : Oper := { dst := some 59, op := Op.indexAddr 42 (Operand.tmp 54) (Operand.tmp 58), type := 0, pos := "law.go:99", after := #[{ on := 23, ground := Ground.data }, { on := 27, ground := Ground.data }], guard := none }
@[reducible] def o29 : Oper := { dst := some 60, op := Op.load 9 (Operand.tmp 59), type := 9, pos := "law.go:99", after := #[{ on := 28, ground := Ground.data }], guard := none }
@[reducible] def o30 : Oper := { dst := some 61, op := Op.binOp BinOp.add 9 (Operand.tmp 49) (Operand.tmp 60) 9, type := 9, pos := "law.go:99", after := #[{ on := 18, ground := Ground.data }, { on := 29, ground := Ground.data }], guard := none }
@[reducible] def o31 : Oper := { dst := some 14, op := Op.assign (Operand.tmp 61), type := 9, pos := "law.go:99", after := #[{ on := 30, ground := Ground.data }, { on := 0, ground := Ground.phase }, { on := 1, ground := Ground.phase }, { on := 2, ground := Ground.phase }, { on := 3, ground := Ground.phase }, { on := 4, ground := Ground.phase }, { on := 5, ground := Ground.phase }, { on := 6, ground := Ground.phase }, { on := 7, ground := Ground.phase }, { on := 8, ground := Ground.phase }, { on := 9, ground := Ground.phase }, { on := 10, ground := Ground.phase }, { on := 11, ground := Ground.phase }, { on := 12, ground := Ground.phase }, { on := 13, ground := Ground.phase }, { on := 14, ground := Ground.phase }, { on := 15, ground := Ground.phase }, { on := 16, ground := Ground.phase }, { on := 17, ground := Ground.phase }, { on := 18, ground := Ground.phase }, { on := 19, ground := Ground.phase }, { on := 20, ground := Ground.phase }, { on := 21, ground := Ground.phase }, { on := 22, ground := Ground.phase }, { on := 23, ground := Ground.phase }, { on := 24, ground := Ground.phase }, { on := 25, ground := Ground.phase }, { on := 26, ground := Ground.phase }, { on := 27, ground := Ground.phase }, { on := 28, ground := Ground.phase }, { on := 29, ground := Ground.phase }, { on := 30, ground := Ground.phase }], guard := none }
def opsR : Array Oper := #[o0, o1, o2, o3, o4, o5, o6, o7, o8, o9, o10, o11, o12, o13, o14, o15, o16, o17, o18, o19, o20, o21, o22, o23, o24, o25, o26, o27, o28, o29, o30, o31]
theorem strong {P : Program} {ops : Array Oper} {Q : Exit → Act → World → Prop} {md : Region.Mode} {S S2 : World → Prop} (hs : ∀ W, S2 W → S W) : ∀ (fuel : Nat) (listed : Array Bool) (a : Act) (w : World), wpAnyH P md ops Q S2 fuel listed a w → wpAnyH P md ops Q S fuel listed a w
  | 0, _, _, _, h => h
  | fuel + 1, _, _, _, h => ⟨h.1, fun i hi => wpOp_mono (fun a' w' h' => ⟨hs _ h'.1, strong hs fuel _ a' w' h'.2⟩) (h.2 i hi)⟩
theorem keep3 {W : World} {a b c : Addr} {x y z : Value} (o : Obj) (h : W.cell? a = some x ∧ W.cell? b = some y ∧ W.cell? c = some z) : (W.alloc o).cell? a = some x ∧ (W.alloc o).cell? b = some y ∧ (W.alloc o).cell? c = some z :=
  ⟨cell_below h.1 ((Below.refl _ W).alloc (Nat.le_refl _) o), cell_below h.2.1 ((Below.refl _ W).alloc (Nat.le_refl _) o), cell_below h.2.2 ((Below.refl _ W).alloc (Nat.le_refl _) o)⟩
theorem keep4 {W : World} {a : Addr} {x : Value} {R : World → Prop} (o : Obj) (h : W.cell? a = some x ∧ R W) (hR : R W → R (W.alloc o)) : (W.alloc o).cell? a = some x ∧ R (W.alloc o) :=
  ⟨cell_below h.1 ((Below.refl _ W).alloc (Nat.le_refl _) o), hR h.2⟩
theorem row_at (W : World) (g : Nat) (L : List Value) (t : TypeId) (r : Nat) (v : Value) (hg : g = W.heap.size) (h : L.toArray[r]? = some v) : (W.alloc (.cells L.toArray t)).cell? ⟨g, r, none⟩ = some v := by subst hg; rw [World.cell?_alloc_new]; exact h
set_option maxHeartbeats 8000000 in
set_option maxRecDepth 1000000 in
theorem region6 (V0 V1 V2 LB DB : ByteArray) (b cp : Nat) (z0 z1 z2 : Int) (r0 r1 r2 : Nat) (w : World) (Q : Exit → Act → World → Prop) (hQ : ∀ c a (d : Nat) v W, Q (.panic c) (Act.put a (some d) v) W → Q (.panic c) a W)
    (c0 : w.cell? ⟨b, 0, none⟩ = some (.int .i64 z0)) (c1 : w.cell? ⟨b, 1, none⟩ = some (.int .i64 z1)) (c2 : w.cell? ⟨b, 2, none⟩ = some (.int .i64 z2))
    (e0 : Int.tmod z0 3 = (r0 : Int)) (e1 : Int.tmod z1 4 = (r1 : Int)) (e2 : Int.tmod z2 2 = (r2 : Int)) (u0 : r0 < 3) (u1 : r1 < 4) (u2 : r2 < 2)
    (v0 : #[Value.string ⟨#[]⟩, .string ⟨#[32]⟩, .string ⟨#[32, 32, 32]⟩][r0]? = some (.string V0)) (v1 : #[Value.string ⟨#[]⟩, .string ⟨#[32]⟩, .string ⟨#[10]⟩, .string ⟨#[32, 9, 10, 32, 32]⟩][r1]? = some (.string V1)) (v2 : #[Value.string DB, .string (((⟨#[60]⟩ : ByteArray) ++ DB) ++ (⟨#[62]⟩ : ByteArray))][r2]? = some (.string V2))
    (y0 : LB.size ≤ 1000) (y1 : DB.size ≤ 1000) (a0 : V0.size ≤ 1000) (a1 : V1.size ≤ 1000) (a2 : V2.size ≤ 1000)
    (s0 s1 s2 s3 s4 s5 s6 s7 s8 s9 s12 s14 s15 s16 s17 s18 s19 s20 s21 s22 s23 s24 s25 s26 s27 s28 s29 s30 s31 s32 s33 s34 s35 s36 s37 s38 s39 s40 s41 s42 s43 s44 s45 s46 s47 s48 s49 s50 s51 s52 s53 s54 s55 s56 s57 s58 s59 s60 s61 s62 s63 s64 s65 s66 s67 s68 s69 s70 s71 s72 s73 s74 s75 s76 s77 s78 s79 s80 s81 s82 s83 s84 s85 s86 s87 s88 s89 s90 s91 s92 s93 s94 s95 s96 s97 s98 s99 s100 s101 s102 s103 s104 s105 s106 s107 s108 s109 s110 s111 s112 s113 s114 s115 s116 s117 s118 s119 s120 s121 s122 s123 s124 s125 s126 s127 s128 s129 s130 s131 s132 s133 s134 s135 s136 s137 s138 : Value)
    (hpost : ∀ (u31 u32 u33 u34 u35 u36 u37 u38 u39 u40 u41 u42 u43 u44 u45 u46 u47 u48 u49 u50 u51 u52 u53 u54 u55 u56 u57 u58 u59 u60 u61 : Value) (W : World), Below w.heap.size w W → Q .normal ⟨List.toArray (s0 :: s1 :: s2 :: s3 :: s4 :: s5 :: s6 :: s7 :: s8 :: s9 :: (.string LB) :: (.string DB) :: s12 :: (.slice (some ⟨b, 0, none⟩) 6 cp) :: (.string (((((V0 ++ (⟨#[91]⟩ : ByteArray)) ++ LB) ++ (⟨#[93, 58]⟩ : ByteArray)) ++ V1) ++ V2)) :: s15 :: s16 :: s17 :: s18 :: s19 :: s20 :: s21 :: s22 :: s23 :: s24 :: s25 :: s26 :: s27 :: s28 :: s29 :: s30 :: u31 :: u32 :: u33 :: u34 :: u35 :: u36 :: u37 :: u38 :: u39 :: u40 :: u41 :: u42 :: u43 :: u44 :: u45 :: u46 :: u47 :: u48 :: u49 :: u50 :: u51 :: u52 :: u53 :: u54 :: u55 :: u56 :: u57 :: u58 :: u59 :: u60 :: u61 :: s62 :: s63 :: s64 :: s65 :: s66 :: s67 :: s68 :: s69 :: s70 :: s71 :: s72 :: s73 :: s74 :: s75 :: s76 :: s77 :: s78 :: s79 :: s80 :: s81 :: s82 :: s83 :: s84 :: s85 :: s86 :: s87 :: s88 :: s89 :: s90 :: s91 :: s92 :: s93 :: s94 :: s95 :: s96 :: s97 :: s98 :: s99 :: s100 :: s101 :: s102 :: s103 :: s104 :: s105 :: s106 :: s107 :: s108 :: s109 :: s110 :: s111 :: s112 :: s113 :: s114 :: s115 :: s116 :: s117 :: s118 :: s119 :: s120 :: s121 :: s122 :: s123 :: s124 :: s125 :: s126 :: s127 :: s128 :: s129 :: s130 :: s131 :: s132 :: s133 :: s134 :: s135 :: s136 :: s137 :: s138 :: []), []⟩ W) :
    (Code.region 6 opsR true).wp Tryz.prog Q ⟨List.toArray (s0 :: s1 :: s2 :: s3 :: s4 :: s5 :: s6 :: s7 :: s8 :: s9 :: (.string LB) :: (.string DB) :: s12 :: (.slice (some ⟨b, 0, none⟩) 6 cp) :: s14 :: s15 :: s16 :: s17 :: s18 :: s19 :: s20 :: s21 :: s22 :: s23 :: s24 :: s25 :: s26 :: s27 :: s28 :: s29 :: s30 :: s31 :: s32 :: s33 :: s34 :: s35 :: s36 :: s37 :: s38 :: s39 :: s40 :: s41 :: s42 :: s43 :: s44 :: s45 :: s46 :: s47 :: s48 :: s49 :: s50 :: s51 :: s52 :: s53 :: s54 :: s55 :: s56 :: s57 :: s58 :: s59 :: s60 :: s61 :: s62 :: s63 :: s64 :: s65 :: s66 :: s67 :: s68 :: s69 :: s70 :: s71 :: s72 :: s73 :: s74 :: s75 :: s76 :: s77 :: s78 :: s79 :: s80 :: s81 :: s82 :: s83 :: s84 :: s85 :: s86 :: s87 :: s88 :: s89 :: s90 :: s91 :: s92 :: s93 :: s94 :: s95 :: s96 :: s97 :: s98 :: s99 :: s100 :: s101 :: s102 :: s103 :: s104 :: s105 :: s106 :: s107 :: s108 :: s109 :: s110 :: s111 :: s112 :: s113 :: s114 :: s115 :: s116 :: s117 :: s118 :: s119 :: s120 :: s121 :: s122 :: s123 :: s124 :: s125 :: s126 :: s127 :: s128 :: s129 :: s130 :: s131 :: s132 :: s133 :: s134 :: s135 :: s136 :: s137 :: s138 :: []), []⟩ w := by
  have i0 : (0 : Int) ≤ (r0 : Int) := by omega
  have i1 : (0 : Int) ≤ (r1 : Int) := by omega
  have i2 : (0 : Int) ≤ (r2 : Int) := by omega
  have j0 : (r0 : Int) < 3 := by omega
  have j1 : (r1 : Int) < 4 := by omega
  have j2 : (r2 : Int) < 2 := by omega
  have k0 : ¬ 9223372036854775807 < V0.size + 1 := by omega
  have k1 : ¬ 9223372036854775807 < V0.size + 1 + LB.size := by omega
  have k2 : ¬ 9223372036854775807 < V0.size + 1 + LB.size + 2 := by omega
  have k3 : ¬ 9223372036854775807 < V0.size + 1 + LB.size + 2 + V1.size := by omega
  have k4 : ¬ 9223372036854775807 < 1 + DB.size := by omega
  have k5 : ¬ 9223372036854775807 < 1 + DB.size + 1 := by omega
  have k6 : ¬ 9223372036854775807 < V0.size + 1 + LB.size + 2 + V1.size + V2.size := by omega
  clear y0 y1 a0 a1 a2
  have hH : (fun W => W.cell? ⟨b, 0, none⟩ = some (.int .i64 z0) ∧ W.cell? ⟨b, 1, none⟩ = some (.int .i64 z1) ∧ W.cell? ⟨b, 2, none⟩ = some (.int .i64 z2)) w.drew := ⟨cell_below c0 (Below.refl _ w).drew, cell_below c1 (Below.refl _ w).drew, cell_below c2 (Below.refl _ w).drew⟩
  clear c0 c1 c2
  refine wp_region_held_drew (S := fun W => W.cell? ⟨b, 0, none⟩ = some (.int .i64 z0) ∧ W.cell? ⟨b, 1, none⟩ = some (.int .i64 z1) ∧ W.cell? ⟨b, 2, none⟩ = some (.int .i64 z2)) (by kernel_rfl) hH (fun hHeld => ?_)
  clear hHeld
  show wpAnyH _ _ _ _ _ 32 _ _ _
  refine wpAnyH_take (fuel := 31) (i := 1) (oi := o1) (v := ?v1) rfl (by kernel_rfl) (by kernel_rfl) (by kernel_rfl) (fun _ _ _ h => hQ _ _ _ _ _ h) (.inl ⟨by rfl, ?h1⟩) hH ?r1
  case h1 => intro W hW; (try dsimp only at hW); go_simp; try with_reducible rfl
  simp only [o1, Act.put, List.setIfInBounds_toArray, List.set_cons_zero, List.set_cons_succ]
  refine wpAnyH_take (fuel := 30) (i := 2) (oi := o2) (v := ?v2) rfl (by kernel_rfl) (by kernel_rfl) (by kernel_rfl) (fun _ _ _ h => hQ _ _ _ _ _ h) (.inl ⟨by rfl, ?h2⟩) hH ?r2
  case h2 => intro W hW; (try dsimp only at hW); go_simp; try with_reducible rfl
  simp only [o2, Act.put, List.setIfInBounds_toArray, List.set_cons_zero, List.set_cons_succ]
  refine wpAnyH_take (fuel := 29) (i := 3) (oi := o3) (v := ?v3) rfl (by kernel_rfl) (by kernel_rfl) (by kernel_rfl) (fun _ _ _ h => hQ _ _ _ _ _ h) (.inl ⟨by rfl, ?h3⟩) hH ?r3
  case h3 => intro W hW; (try dsimp only at hW); go_simp; try with_reducible rfl
  simp only [o3, Act.put, List.setIfInBounds_toArray, List.set_cons_zero, List.set_cons_succ]
  refine wpAnyH_take (fuel := 28) (i := 4) (oi := o4) (v := ?v4) rfl (by kernel_rfl) (by kernel_rfl) (by kernel_rfl) (fun _ _ _ h => hQ _ _ _ _ _ h) (.inl ⟨by rfl, ?h4⟩) hH ?r4
  case h4 => intro W hW; (try dsimp only at hW); go_simp; try with_reducible rfl
  simp only [o4, Act.put, List.setIfInBounds_toArray, List.set_cons_zero, List.set_cons_succ]
  refine wpAnyH_take (fuel := 27) (i := 8) (oi := o8) (v := ?v5) rfl (by kernel_rfl) (by kernel_rfl) (by kernel_rfl) (fun _ _ _ h => hQ _ _ _ _ _ h) (.inl ⟨by rfl, ?h5⟩) hH ?r5
  case h5 => intro W hW; (try dsimp only at hW); go_simp; try with_reducible rfl
  simp only [o8, Act.put, List.setIfInBounds_toArray, List.set_cons_zero, List.set_cons_succ]
  refine wpAnyH_take (fuel := 26) (i := 12) (oi := o12) (v := ?v6) rfl (by kernel_rfl) (by kernel_rfl) (by kernel_rfl) (fun _ _ _ h => hQ _ _ _ _ _ h) (.inl ⟨by rfl, ?h6⟩) hH ?r6
  case h6 => intro W hW; (try dsimp only at hW); go_simp; try with_reducible rfl
  simp only [o12, Act.put, List.setIfInBounds_toArray, List.set_cons_zero, List.set_cons_succ]
  refine wpAnyH_take (fuel := 25) (i := 13) (oi := o13) (v := ?v7) rfl (by kernel_rfl) (by kernel_rfl) (by kernel_rfl) (fun _ _ _ h => hQ _ _ _ _ _ h) (.inl ⟨by rfl, ?h7⟩) hH ?r7
  case h7 => intro W hW; (try dsimp only at hW); go_simp; try with_reducible rfl
  simp only [o13, Act.put, List.setIfInBounds_toArray, List.set_cons_zero, List.set_cons_succ]
  refine wpAnyH_take (fuel := 24) (i := 14) (oi := o14) (v := ?v8) rfl (by kernel_rfl) (by kernel_rfl) (by kernel_rfl) (fun _ _ _ h => hQ _ _ _ _ _ h) (.inl ⟨by rfl, ?h8⟩) hH ?r8
  case h8 => intro W hW; (try dsimp only at hW); go_simp; try with_reducible rfl
  simp only [o14, Act.put, List.setIfInBounds_toArray, List.set_cons_zero, List.set_cons_succ]
  refine wpAnyH_take (fuel := 23) (i := 15) (oi := o15) (v := ?v9) rfl (by kernel_rfl) (by kernel_rfl) (by kernel_rfl) (fun _ _ _ h => hQ _ _ _ _ _ h) (.inl ⟨by rfl, ?h9⟩) hH ?r9
  case h9 => intro W hW; (try dsimp only at hW); go_simp; try with_reducible rfl
  simp only [o15, Act.put, List.setIfInBounds_toArray, List.set_cons_zero, List.set_cons_succ]
  refine wpAnyH_take (fuel := 22) (i := 19) (oi := o19) (v := ?v10) rfl (by kernel_rfl) (by kernel_rfl) (by kernel_rfl) (fun _ _ _ h => hQ _ _ _ _ _ h) (.inl ⟨by rfl, ?h10⟩) hH ?r10
  case h10 => intro W hW; (try dsimp only at hW); go_simp; try with_reducible rfl
  simp only [o19, Act.put, List.setIfInBounds_toArray, List.set_cons_zero, List.set_cons_succ]
  refine wpAnyH_take (fuel := 21) (i := 20) (oi := o20) (v := ?v11) rfl (by kernel_rfl) (by kernel_rfl) (by kernel_rfl) (fun _ _ _ h => hQ _ _ _ _ _ h) (.inl ⟨by rfl, ?h11⟩) hH ?r11
  case h11 => intro W hW; (try dsimp only at hW); go_simp; try with_reducible rfl
  simp only [o20, Act.put, List.setIfInBounds_toArray, List.set_cons_zero, List.set_cons_succ]
  refine wpAnyH_take (fuel := 20) (i := 21) (oi := o21) (v := ?v12) rfl (by kernel_rfl) (by kernel_rfl) (by kernel_rfl) (fun _ _ _ h => hQ _ _ _ _ _ h) (.inl ⟨by rfl, ?h12⟩) hH ?r12
  case h12 => intro W hW; (try dsimp only at hW); go_simp; try with_reducible rfl
  simp only [o21, Act.put, List.setIfInBounds_toArray, List.set_cons_zero, List.set_cons_succ]
  refine wpAnyH_take (fuel := 19) (i := 22) (oi := o22) (v := ?v13) rfl (by kernel_rfl) (by kernel_rfl) (by kernel_rfl) (fun _ _ _ h => hQ _ _ _ _ _ h) (.inl ⟨by rfl, ?h13⟩) hH ?r13
  case h13 => intro W hW; (try dsimp only at hW); go_simp; try with_reducible rfl
  simp only [o22, Act.put, List.setIfInBounds_toArray, List.set_cons_zero, List.set_cons_succ]
  refine wpAnyH_take (fuel := 18) (i := 24) (oi := o24) (v := ?v14) rfl (by kernel_rfl) (by kernel_rfl) (by kernel_rfl) (fun _ _ _ h => hQ _ _ _ _ _ h) (.inl ⟨by rfl, ?h14⟩) hH ?r14
  case h14 => intro W hW; (try dsimp only at hW); go_simp; try with_reducible rfl
  simp only [o24, Act.put, List.setIfInBounds_toArray, List.set_cons_zero, List.set_cons_succ]
  refine wpAnyH_take (fuel := 17) (i := 25) (oi := o25) (v := ?v15) rfl (by kernel_rfl) (by kernel_rfl) (by kernel_rfl) (fun _ _ _ h => hQ _ _ _ _ _ h) (.inl ⟨by rfl, ?h15⟩) hH ?r15
  case h15 => intro W hW; (try dsimp only at hW); go_simp; try with_reducible rfl
  simp only [o25, Act.put, List.setIfInBounds_toArray, List.set_cons_zero, List.set_cons_succ]
  refine wpAnyH_take (fuel := 16) (i := 26) (oi := o26) (v := ?v16) rfl (by kernel_rfl) (by kernel_rfl) (by kernel_rfl) (fun _ _ _ h => hQ _ _ _ _ _ h) (.inl ⟨by rfl, ?h16⟩) hH ?r16
  case h16 => intro W hW; (try dsimp only at hW); go_simp; try with_reducible rfl
  simp only [o26, Act.put, List.setIfInBounds_toArray, List.set_cons_zero, List.set_cons_succ]
  refine wpAnyH_take (fuel := 15) (i := 27) (oi := o27) (v := ?v17) rfl (by kernel_rfl) (by kernel_rfl) (by kernel_rfl) (fun _ _ _ h => hQ _ _ _ _ _ h) (.inl ⟨by rfl, ?h17⟩) hH ?r17
  case h17 => intro W hW; (try dsimp only at hW); go_simp; try with_reducible rfl
  simp only [o27, Act.put, List.setIfInBounds_toArray, List.set_cons_zero, List.set_cons_succ]
  refine wpAnyH_ready (fuel := 14) (rs := [0, 11, 23]) (by kernel_rfl) (by simp) ?_
  refine AllReadyH.cons (o := o0) rfl (fun K hK => ?_) ?_
  · go_simp
    refine hK.out _ _ ?_ (fun hHeld => ?_)
    · exact (keep3 _) hH
    clear hK K
    try simp only [o0, Act.put, List.setIfInBounds_toArray, List.set_cons_zero, List.set_cons_succ]
    have hN : ((w.drew.alloc (.cells #[Value.string ⟨#[]⟩, .string ⟨#[32]⟩, .string ⟨#[32, 32, 32]⟩] 9))).cell? ⟨w.heap.size, r0, none⟩ = some (.string V0) := row_at w.drew _ _ _ _ _ (by simp) v0
    refine strong (S2 := fun W => W.cell? ⟨w.heap.size, r0, none⟩ = some (.string V0) ∧ (W.cell? ⟨b, 0, none⟩ = some (.int .i64 z0) ∧ W.cell? ⟨b, 1, none⟩ = some (.int .i64 z1) ∧ W.cell? ⟨b, 2, none⟩ = some (.int .i64 z2))) (fun _ h => h.2) _ _ _ _ ?_
    replace hH : (fun W => W.cell? ⟨w.heap.size, r0, none⟩ = some (.string V0) ∧ (W.cell? ⟨b, 0, none⟩ = some (.int .i64 z0) ∧ W.cell? ⟨b, 1, none⟩ = some (.int .i64 z1) ∧ W.cell? ⟨b, 2, none⟩ = some (.int .i64 z2))) (w.drew.alloc (.cells #[Value.string ⟨#[]⟩, .string ⟨#[32]⟩, .string ⟨#[32, 32, 32]⟩] 9)) := ⟨hN, hHeld⟩
    clear hN hHeld
    refine wpAnyH_take (fuel := 13) (i := 5) (oi := o5) (v := ?v18) rfl (by kernel_rfl) (by kernel_rfl) (by kernel_rfl) (fun _ _ _ h => hQ _ _ _ _ _ h) (.inl ⟨by rfl, ?h18⟩) hH ?r18
    case h18 => intro W hW; (try dsimp only at hW); go_simp; try with_reducible rfl
    simp only [o5, Act.put, List.setIfInBounds_toArray, List.set_cons_zero, List.set_cons_succ]
    refine wpAnyH_take (fuel := 12) (i := 6) (oi := o6) (v := ?v19) rfl (by kernel_rfl) (by kernel_rfl) (by kernel_rfl) (fun _ _ _ h => hQ _ _ _ _ _ h) (.inl ⟨by rfl, ?h19⟩) hH ?r19
    case h19 => intro W hW; (try dsimp only at hW); go_simp; try with_reducible rfl
    simp only [o6, Act.put, List.setIfInBounds_toArray, List.set_cons_zero, List.set_cons_succ]
    refine wpAnyH_take (fuel := 11) (i := 7) (oi := o7) (v := ?v20) rfl (by kernel_rfl) (by kernel_rfl) (by kernel_rfl) (fun _ _ _ h => hQ _ _ _ _ _ h) (.inl ⟨by rfl, ?h20⟩) hH ?r20
    case h20 => intro W hW; (try dsimp only at hW); go_simp; try with_reducible rfl
    simp only [o7, Act.put, List.setIfInBounds_toArray, List.set_cons_zero, List.set_cons_succ]
    refine wpAnyH_take (fuel := 10) (i := 9) (oi := o9) (v := ?v21) rfl (by kernel_rfl) (by kernel_rfl) (by kernel_rfl) (fun _ _ _ h => hQ _ _ _ _ _ h) (.inl ⟨by rfl, ?h21⟩) hH ?r21
    case h21 => intro W hW; (try dsimp only at hW); go_simp; try with_reducible rfl
    simp only [o9, Act.put, List.setIfInBounds_toArray, List.set_cons_zero, List.set_cons_succ]
    refine wpAnyH_take (fuel := 9) (i := 10) (oi := o10) (v := ?v22) rfl (by kernel_rfl) (by kernel_rfl) (by kernel_rfl) (fun _ _ _ h => hQ _ _ _ _ _ h) (.inl ⟨by rfl, ?h22⟩) hH ?r22
    case h22 => intro W hW; (try dsimp only at hW); go_simp; try with_reducible rfl
    simp only [o10, Act.put, List.setIfInBounds_toArray, List.set_cons_zero, List.set_cons_succ]
    refine wpAnyH_ready (fuel := 8) (rs := [11, 23]) (by kernel_rfl) (by simp) ?_
    refine AllReadyH.cons (o := o11) rfl (fun K hK => ?_) ?_
    · go_simp
      refine hK.out _ _ ?_ (fun hHeld => ?_)
      · exact (fun h => keep4 (R := fun W => W.cell? ⟨b, 0, none⟩ = some (.int .i64 z0) ∧ W.cell? ⟨b, 1, none⟩ = some (.int .i64 z1) ∧ W.cell? ⟨b, 2, none⟩ = some (.int .i64 z2)) _ h (keep3 _)) hH
      clear hK K
      try simp only [o11, Act.put, List.setIfInBounds_toArray, List.set_cons_zero, List.set_cons_succ]
      have hN : (((w.drew.alloc (.cells #[Value.string ⟨#[]⟩, .string ⟨#[32]⟩, .string ⟨#[32, 32, 32]⟩] 9)).alloc (.cells #[Value.string ⟨#[]⟩, .string ⟨#[32]⟩, .string ⟨#[10]⟩, .string ⟨#[32, 9, 10, 32, 32]⟩] 9))).cell? ⟨w.heap.size + 1, r1, none⟩ = some (.string V1) := row_at (w.drew.alloc (.cells #[Value.string ⟨#[]⟩, .string ⟨#[32]⟩, .string ⟨#[32, 32, 32]⟩] 9)) _ _ _ _ _ (by simp) v1
      refine strong (S2 := fun W => W.cell? ⟨w.heap.size + 1, r1, none⟩ = some (.string V1) ∧ (W.cell? ⟨w.heap.size, r0, none⟩ = some (.string V0) ∧ (W.cell? ⟨b, 0, none⟩ = some (.int .i64 z0) ∧ W.cell? ⟨b, 1, none⟩ = some (.int .i64 z1) ∧ W.cell? ⟨b, 2, none⟩ = some (.int .i64 z2)))) (fun _ h => h.2) _ _ _ _ ?_
      replace hH : (fun W => W.cell? ⟨w.heap.size + 1, r1, none⟩ = some (.string V1) ∧ (W.cell? ⟨w.heap.size, r0, none⟩ = some (.string V0) ∧ (W.cell? ⟨b, 0, none⟩ = some (.int .i64 z0) ∧ W.cell? ⟨b, 1, none⟩ = some (.int .i64 z1) ∧ W.cell? ⟨b, 2, none⟩ = some (.int .i64 z2)))) ((w.drew.alloc (.cells #[Value.string ⟨#[]⟩, .string ⟨#[32]⟩, .string ⟨#[32, 32, 32]⟩] 9)).alloc (.cells #[Value.string ⟨#[]⟩, .string ⟨#[32]⟩, .string ⟨#[10]⟩, .string ⟨#[32, 9, 10, 32, 32]⟩] 9)) := ⟨hN, hHeld⟩
      clear hN hHeld
      refine wpAnyH_take (fuel := 7) (i := 16) (oi := o16) (v := ?v23) rfl (by kernel_rfl) (by kernel_rfl) (by kernel_rfl) (fun _ _ _ h => hQ _ _ _ _ _ h) (.inl ⟨by rfl, ?h23⟩) hH ?r23
      case h23 => intro W hW; (try dsimp only at hW); go_simp; try with_reducible rfl
      simp only [o16, Act.put, List.setIfInBounds_toArray, List.set_cons_zero, List.set_cons_succ]
      refine wpAnyH_take (fuel := 6) (i := 17) (oi := o17) (v := ?v24) rfl (by kernel_rfl) (by kernel_rfl) (by kernel_rfl) (fun _ _ _ h => hQ _ _ _ _ _ h) (.inl ⟨by rfl, ?h24⟩) hH ?r24
      case h24 => intro W hW; (try dsimp only at hW); go_simp; try with_reducible rfl
      simp only [o17, Act.put, List.setIfInBounds_toArray, List.set_cons_zero, List.set_cons_succ]
      refine wpAnyH_take (fuel := 5) (i := 18) (oi := o18) (v := ?v25) rfl (by kernel_rfl) (by kernel_rfl) (by kernel_rfl) (fun _ _ _ h => hQ _ _ _ _ _ h) (.inl ⟨by rfl, ?h25⟩) hH ?r25
      case h25 => intro W hW; (try dsimp only at hW); go_simp; try with_reducible rfl
      simp only [o18, Act.put, List.setIfInBounds_toArray, List.set_cons_zero, List.set_cons_succ]
      refine wpAnyH_ready (fuel := 4) (rs := [23]) (by kernel_rfl) (by simp) ?_
      refine AllReadyH.cons (o := o23) rfl (fun K hK => ?_) ?_
      · go_simp
        refine hK.out _ _ ?_ (fun hHeld => ?_)
        · exact (fun h => keep4 (R := fun W => W.cell? ⟨w.heap.size, r0, none⟩ = some (.string V0) ∧ (W.cell? ⟨b, 0, none⟩ = some (.int .i64 z0) ∧ W.cell? ⟨b, 1, none⟩ = some (.int .i64 z1) ∧ W.cell? ⟨b, 2, none⟩ = some (.int .i64 z2))) _ h (fun h => keep4 (R := fun W => W.cell? ⟨b, 0, none⟩ = some (.int .i64 z0) ∧ W.cell? ⟨b, 1, none⟩ = some (.int .i64 z1) ∧ W.cell? ⟨b, 2, none⟩ = some (.int .i64 z2)) _ h (keep3 _))) hH
        clear hK K
        try simp only [o23, Act.put, List.setIfInBounds_toArray, List.set_cons_zero, List.set_cons_succ]
        have hN : ((((w.drew.alloc (.cells #[Value.string ⟨#[]⟩, .string ⟨#[32]⟩, .string ⟨#[32, 32, 32]⟩] 9)).alloc (.cells #[Value.string ⟨#[]⟩, .string ⟨#[32]⟩, .string ⟨#[10]⟩, .string ⟨#[32, 9, 10, 32, 32]⟩] 9)).alloc (.cells #[Value.string DB, .string (((⟨#[60]⟩ : ByteArray) ++ DB) ++ (⟨#[62]⟩ : ByteArray))] 9))).cell? ⟨w.heap.size + 2, r2, none⟩ = some (.string V2) := row_at ((w.drew.alloc (.cells #[Value.string ⟨#[]⟩, .string ⟨#[32]⟩, .string ⟨#[32, 32, 32]⟩] 9)).alloc (.cells #[Value.string ⟨#[]⟩, .string ⟨#[32]⟩, .string ⟨#[10]⟩, .string ⟨#[32, 9, 10, 32, 32]⟩] 9)) _ _ _ _ _ (by simp) v2
        refine strong (S2 := fun W => W.cell? ⟨w.heap.size + 2, r2, none⟩ = some (.string V2) ∧ (W.cell? ⟨w.heap.size + 1, r1, none⟩ = some (.string V1) ∧ (W.cell? ⟨w.heap.size, r0, none⟩ = some (.string V0) ∧ (W.cell? ⟨b, 0, none⟩ = some (.int .i64 z0) ∧ W.cell? ⟨b, 1, none⟩ = some (.int .i64 z1) ∧ W.cell? ⟨b, 2, none⟩ = some (.int .i64 z2))))) (fun _ h => h.2) _ _ _ _ ?_
        replace hH : (fun W => W.cell? ⟨w.heap.size + 2, r2, none⟩ = some (.string V2) ∧ (W.cell? ⟨w.heap.size + 1, r1, none⟩ = some (.string V1) ∧ (W.cell? ⟨w.heap.size, r0, none⟩ = some (.string V0) ∧ (W.cell? ⟨b, 0, none⟩ = some (.int .i64 z0) ∧ W.cell? ⟨b, 1, none⟩ = some (.int .i64 z1) ∧ W.cell? ⟨b, 2, none⟩ = some (.int .i64 z2))))) (((w.drew.alloc (.cells #[Value.string ⟨#[]⟩, .string ⟨#[32]⟩, .string ⟨#[32, 32, 32]⟩] 9)).alloc (.cells #[Value.string ⟨#[]⟩, .string ⟨#[32]⟩, .string ⟨#[10]⟩, .string ⟨#[32, 9, 10, 32, 32]⟩] 9)).alloc (.cells #[Value.string DB, .string (((⟨#[60]⟩ : ByteArray) ++ DB) ++ (⟨#[62]⟩ : ByteArray))] 9)) := ⟨hN, hHeld⟩
        clear hN hHeld
        refine wpAnyH_take (fuel := 3) (i := 28) (oi := o28) (v := ?v26) rfl (by kernel_rfl) (by kernel_rfl) (by kernel_rfl) (fun _ _ _ h => hQ _ _ _ _ _ h) (.inl ⟨by rfl, ?h26⟩) hH ?r26
        case h26 => intro W hW; (try dsimp only at hW); go_simp; try with_reducible rfl
        simp only [o28, Act.put, List.setIfInBounds_toArray, List.set_cons_zero, List.set_cons_succ]
        refine wpAnyH_take (fuel := 2) (i := 29) (oi := o29) (v := ?v27) rfl (by kernel_rfl) (by kernel_rfl) (by kernel_rfl) (fun _ _ _ h => hQ _ _ _ _ _ h) (.inl ⟨by rfl, ?h27⟩) hH ?r27
        case h27 => intro W hW; (try dsimp only at hW); go_simp; try with_reducible rfl
        simp only [o29, Act.put, List.setIfInBounds_toArray, List.set_cons_zero, List.set_cons_succ]
        refine wpAnyH_take (fuel := 1) (i := 30) (oi := o30) (v := ?v28) rfl (by kernel_rfl) (by kernel_rfl) (by kernel_rfl) (fun _ _ _ h => hQ _ _ _ _ _ h) (.inl ⟨by rfl, ?h28⟩) hH ?r28
        case h28 => intro W hW; (try dsimp only at hW); go_simp; try with_reducible rfl
        simp only [o30, Act.put, List.setIfInBounds_toArray, List.set_cons_zero, List.set_cons_succ]
        refine wpAnyH_take (fuel := 0) (i := 31) (oi := o31) (v := ?v29) rfl (by kernel_rfl) (by kernel_rfl) (by kernel_rfl) (fun _ _ _ h => hQ _ _ _ _ _ h) (.inl ⟨by rfl, ?h29⟩) hH ?r29
        case h29 => intro W hW; (try dsimp only at hW); go_simp; try with_reducible rfl
        simp only [o31, Act.put, List.setIfInBounds_toArray, List.set_cons_zero, List.set_cons_succ]
        refine wpAnyH_done (by kernel_rfl) ?_ _
        exact hpost _ _ _ _ _ _ _ _ _ _ _ _ _ _ _ _ _ _ _ _ _ _ _ _ _ _ _ _ _ _ _ _ (by repeat (first | exact Below.refl _ _ | refine Below.drew ?_ | refine Below.alloc ?_ (by first | (simp; done) | (simp; omega)) _))
      exact AllReadyH.nil
    refine AllReadyH.cons (o := o23) rfl (fun K hK => ?_) ?_
    · go_simp
      refine hK.out _ _ ?_ (fun hHeld => ?_)
      · exact (fun h => keep4 (R := fun W => W.cell? ⟨b, 0, none⟩ = some (.int .i64 z0) ∧ W.cell? ⟨b, 1, none⟩ = some (.int .i64 z1) ∧ W.cell? ⟨b, 2, none⟩ = some (.int .i64 z2)) _ h (keep3 _)) hH
      clear hK K
      try simp only [o23, Act.put, List.setIfInBounds_toArray, List.set_cons_zero, List.set_cons_succ]
      have hN : (((w.drew.alloc (.cells #[Value.string ⟨#[]⟩, .string ⟨#[32]⟩, .string ⟨#[32, 32, 32]⟩] 9)).alloc (.cells #[Value.string DB, .string (((⟨#[60]⟩ : ByteArray) ++ DB) ++ (⟨#[62]⟩ : ByteArray))] 9))).cell? ⟨w.heap.size + 1, r2, none⟩ = some (.string V2) := row_at (w.drew.alloc (.cells #[Value.string ⟨#[]⟩, .string ⟨#[32]⟩, .string ⟨#[32, 32, 32]⟩] 9)) _ _ _ _ _ (by simp) v2
      refine strong (S2 := fun W => W.cell? ⟨w.heap.size + 1, r2, none⟩ = some (.string V2) ∧ (W.cell? ⟨w.heap.size, r0, none⟩ = some (.string V0) ∧ (W.cell? ⟨b, 0, none⟩ = some (.int .i64 z0) ∧ W.cell? ⟨b, 1, none⟩ = some (.int .i64 z1) ∧ W.cell? ⟨b, 2, none⟩ = some (.int .i64 z2)))) (fun _ h => h.2) _ _ _ _ ?_
      replace hH : (fun W => W.cell? ⟨w.heap.size + 1, r2, none⟩ = some (.string V2) ∧ (W.cell? ⟨w.heap.size, r0, none⟩ = some (.string V0) ∧ (W.cell? ⟨b, 0, none⟩ = some (.int .i64 z0) ∧ W.cell? ⟨b, 1, none⟩ = some (.int .i64 z1) ∧ W.cell? ⟨b, 2, none⟩ = some (.int .i64 z2)))) ((w.drew.alloc (.cells #[Value.string ⟨#[]⟩, .string ⟨#[32]⟩, .string ⟨#[32, 32, 32]⟩] 9)).alloc (.cells #[Value.string DB, .string (((⟨#[60]⟩ : ByteArray) ++ DB) ++ (⟨#[62]⟩ : ByteArray))] 9)) := ⟨hN, hHeld⟩
      clear hN hHeld
      refine wpAnyH_take (fuel := 7) (i := 28) (oi := o28) (v := ?v30) rfl (by kernel_rfl) (by kernel_rfl) (by kernel_rfl) (fun _ _ _ h => hQ _ _ _ _ _ h) (.inl ⟨by rfl, ?h30⟩) hH ?r30
      case h30 => intro W hW; (try dsimp only at hW); go_simp; try with_reducible rfl
      simp only [o28, Act.put, List.setIfInBounds_toArray, List.set_cons_zero, List.set_cons_succ]
      refine wpAnyH_take (fuel := 6) (i := 29) (oi := o29) (v := ?v31) rfl (by kernel_rfl) (by kernel_rfl) (by kernel_rfl) (fun _ _ _ h => hQ _ _ _ _ _ h) (.inl ⟨by rfl, ?h31⟩) hH ?r31
      case h31 => intro W hW; (try dsimp only at hW); go_simp; try with_reducible rfl
      simp only [o29, Act.put, List.setIfInBounds_toArray, List.set_cons_zero, List.set_cons_succ]
      refine wpAnyH_ready (fuel := 5) (rs := [11]) (by kernel_rfl) (by simp) ?_
      refine AllReadyH.cons (o := o11) rfl (fun K hK => ?_) ?_
      · go_simp
        refine hK.out _ _ ?_ (fun hHeld => ?_)
        · exact (fun h => keep4 (R := fun W => W.cell? ⟨w.heap.size, r0, none⟩ = some (.string V0) ∧ (W.cell? ⟨b, 0, none⟩ = some (.int .i64 z0) ∧ W.cell? ⟨b, 1, none⟩ = some (.int .i64 z1) ∧ W.cell? ⟨b, 2, none⟩ = some (.int .i64 z2))) _ h (fun h => keep4 (R := fun W => W.cell? ⟨b, 0, none⟩ = some (.int .i64 z0) ∧ W.cell? ⟨b, 1, none⟩ = some (.int .i64 z1) ∧ W.cell? ⟨b, 2, none⟩ = some (.int .i64 z2)) _ h (keep3 _))) hH
        clear hK K
        try simp only [o11, Act.put, List.setIfInBounds_toArray, List.set_cons_zero, List.set_cons_succ]
        have hN : ((((w.drew.alloc (.cells #[Value.string ⟨#[]⟩, .string ⟨#[32]⟩, .string ⟨#[32, 32, 32]⟩] 9)).alloc (.cells #[Value.string DB, .string (((⟨#[60]⟩ : ByteArray) ++ DB) ++ (⟨#[62]⟩ : ByteArray))] 9)).alloc (.cells #[Value.string ⟨#[]⟩, .string ⟨#[32]⟩, .string ⟨#[10]⟩, .string ⟨#[32, 9, 10, 32, 32]⟩] 9))).cell? ⟨w.heap.size + 2, r1, none⟩ = some (.string V1) := row_at ((w.drew.alloc (.cells #[Value.string ⟨#[]⟩, .string ⟨#[32]⟩, .string ⟨#[32, 32, 32]⟩] 9)).alloc (.cells #[Value.string DB, .string (((⟨#[60]⟩ : ByteArray) ++ DB) ++ (⟨#[62]⟩ : ByteArray))] 9)) _ _ _ _ _ (by simp) v1
        refine strong (S2 := fun W => W.cell? ⟨w.heap.size + 2, r1, none⟩ = some (.string V1) ∧ (W.cell? ⟨w.heap.size + 1, r2, none⟩ = some (.string V2) ∧ (W.cell? ⟨w.heap.size, r0, none⟩ = some (.string V0) ∧ (W.cell? ⟨b, 0, none⟩ = some (.int .i64 z0) ∧ W.cell? ⟨b, 1, none⟩ = some (.int .i64 z1) ∧ W.cell? ⟨b, 2, none⟩ = some (.int .i64 z2))))) (fun _ h => h.2) _ _ _ _ ?_
        replace hH : (fun W => W.cell? ⟨w.heap.size + 2, r1, none⟩ = some (.string V1) ∧ (W.cell? ⟨w.heap.size + 1, r2, none⟩ = some (.string V2) ∧ (W.cell? ⟨w.heap.size, r0, none⟩ = some (.string V0) ∧ (W.cell? ⟨b, 0, none⟩ = some (.int .i64 z0) ∧ W.cell? ⟨b, 1, none⟩ = some (.int .i64 z1) ∧ W.cell? ⟨b, 2, none⟩ = some (.int .i64 z2))))) (((w.drew.alloc (.cells #[Value.string ⟨#[]⟩, .string ⟨#[32]⟩, .string ⟨#[32, 32, 32]⟩] 9)).alloc (.cells #[Value.string DB, .string (((⟨#[60]⟩ : ByteArray) ++ DB) ++ (⟨#[62]⟩ : ByteArray))] 9)).alloc (.cells #[Value.string ⟨#[]⟩, .string ⟨#[32]⟩, .string ⟨#[10]⟩, .string ⟨#[32, 9, 10, 32, 32]⟩] 9)) := ⟨hN, hHeld⟩
        clear hN hHeld
        refine wpAnyH_take (fuel := 4) (i := 16) (oi := o16) (v := ?v32) rfl (by kernel_rfl) (by kernel_rfl) (by kernel_rfl) (fun _ _ _ h => hQ _ _ _ _ _ h) (.inl ⟨by rfl, ?h32⟩) hH ?r32
        case h32 => intro W hW; (try dsimp only at hW); go_simp; try with_reducible rfl
        simp only [o16, Act.put, List.setIfInBounds_toArray, List.set_cons_zero, List.set_cons_succ]
        refine wpAnyH_take (fuel := 3) (i := 17) (oi := o17) (v := ?v33) rfl (by kernel_rfl) (by kernel_rfl) (by kernel_rfl) (fun _ _ _ h => hQ _ _ _ _ _ h) (.inl ⟨by rfl, ?h33⟩) hH ?r33
        case h33 => intro W hW; (try dsimp only at hW); go_simp; try with_reducible rfl
        simp only [o17, Act.put, List.setIfInBounds_toArray, List.set_cons_zero, List.set_cons_succ]
        refine wpAnyH_take (fuel := 2) (i := 18) (oi := o18) (v := ?v34) rfl (by kernel_rfl) (by kernel_rfl) (by kernel_rfl) (fun _ _ _ h => hQ _ _ _ _ _ h) (.inl ⟨by rfl, ?h34⟩) hH ?r34
        case h34 => intro W hW; (try dsimp only at hW); go_simp; try with_reducible rfl
        simp only [o18, Act.put, List.setIfInBounds_toArray, List.set_cons_zero, List.set_cons_succ]
        refine wpAnyH_take (fuel := 1) (i := 30) (oi := o30) (v := ?v35) rfl (by kernel_rfl) (by kernel_rfl) (by kernel_rfl) (fun _ _ _ h => hQ _ _ _ _ _ h) (.inl ⟨by rfl, ?h35⟩) hH ?r35
        case h35 => intro W hW; (try dsimp only at hW); go_simp; try with_reducible rfl
        simp only [o30, Act.put, List.setIfInBounds_toArray, List.set_cons_zero, List.set_cons_succ]
        refine wpAnyH_take (fuel := 0) (i := 31) (oi := o31) (v := ?v36) rfl (by kernel_rfl) (by kernel_rfl) (by kernel_rfl) (fun _ _ _ h => hQ _ _ _ _ _ h) (.inl ⟨by rfl, ?h36⟩) hH ?r36
        case h36 => intro W hW; (try dsimp only at hW); go_simp; try with_reducible rfl
        simp only [o31, Act.put, List.setIfInBounds_toArray, List.set_cons_zero, List.set_cons_succ]
        refine wpAnyH_done (by kernel_rfl) ?_ _
        exact hpost _ _ _ _ _ _ _ _ _ _ _ _ _ _ _ _ _ _ _ _ _ _ _ _ _ _ _ _ _ _ _ _ (by repeat (first | exact Below.refl _ _ | refine Below.drew ?_ | refine Below.alloc ?_ (by first | (simp; done) | (simp; omega)) _))
      exact AllReadyH.nil
    exact AllReadyH.nil
  refine AllReadyH.cons (o := o11) rfl (fun K hK => ?_) ?_
  · go_simp
    refine hK.out _ _ ?_ (fun hHeld => ?_)
    · exact (keep3 _) hH
    clear hK K
    try simp only [o11, Act.put, List.setIfInBounds_toArray, List.set_cons_zero, List.set_cons_succ]
    have hN : ((w.drew.alloc (.cells #[Value.string ⟨#[]⟩, .string ⟨#[32]⟩, .string ⟨#[10]⟩, .string ⟨#[32, 9, 10, 32, 32]⟩] 9))).cell? ⟨w.heap.size, r1, none⟩ = some (.string V1) := row_at w.drew _ _ _ _ _ (by simp) v1
    refine strong (S2 := fun W => W.cell? ⟨w.heap.size, r1, none⟩ = some (.string V1) ∧ (W.cell? ⟨b, 0, none⟩ = some (.int .i64 z0) ∧ W.cell? ⟨b, 1, none⟩ = some (.int .i64 z1) ∧ W.cell? ⟨b, 2, none⟩ = some (.int .i64 z2))) (fun _ h => h.2) _ _ _ _ ?_
    replace hH : (fun W => W.cell? ⟨w.heap.size, r1, none⟩ = some (.string V1) ∧ (W.cell? ⟨b, 0, none⟩ = some (.int .i64 z0) ∧ W.cell? ⟨b, 1, none⟩ = some (.int .i64 z1) ∧ W.cell? ⟨b, 2, none⟩ = some (.int .i64 z2))) (w.drew.alloc (.cells #[Value.string ⟨#[]⟩, .string ⟨#[32]⟩, .string ⟨#[10]⟩, .string ⟨#[32, 9, 10, 32, 32]⟩] 9)) := ⟨hN, hHeld⟩
    clear hN hHeld
    refine wpAnyH_take (fuel := 13) (i := 16) (oi := o16) (v := ?v37) rfl (by kernel_rfl) (by kernel_rfl) (by kernel_rfl) (fun _ _ _ h => hQ _ _ _ _ _ h) (.inl ⟨by rfl, ?h37⟩) hH ?r37
    case h37 => intro W hW; (try dsimp only at hW); go_simp; try with_reducible rfl
    simp only [o16, Act.put, List.setIfInBounds_toArray, List.set_cons_zero, List.set_cons_succ]
    refine wpAnyH_take (fuel := 12) (i := 17) (oi := o17) (v := ?v38) rfl (by kernel_rfl) (by kernel_rfl) (by kernel_rfl) (fun _ _ _ h => hQ _ _ _ _ _ h) (.inl ⟨by rfl, ?h38⟩) hH ?r38
    case h38 => intro W hW; (try dsimp only at hW); go_simp; try with_reducible rfl
    simp only [o17, Act.put, List.setIfInBounds_toArray, List.set_cons_zero, List.set_cons_succ]
    refine wpAnyH_ready (fuel := 11) (rs := [0, 23]) (by kernel_rfl) (by simp) ?_
    refine AllReadyH.cons (o := o0) rfl (fun K hK => ?_) ?_
    · go_simp
      refine hK.out _ _ ?_ (fun hHeld => ?_)
      · exact (fun h => keep4 (R := fun W => W.cell? ⟨b, 0, none⟩ = some (.int .i64 z0) ∧ W.cell? ⟨b, 1, none⟩ = some (.int .i64 z1) ∧ W.cell? ⟨b, 2, none⟩ = some (.int .i64 z2)) _ h (keep3 _)) hH
      clear hK K
      try simp only [o0, Act.put, List.setIfInBounds_toArray, List.set_cons_zero, List.set_cons_succ]
      have hN : (((w.drew.alloc (.cells #[Value.string ⟨#[]⟩, .string ⟨#[32]⟩, .string ⟨#[10]⟩, .string ⟨#[32, 9, 10, 32, 32]⟩] 9)).alloc (.cells #[Value.string ⟨#[]⟩, .string ⟨#[32]⟩, .string ⟨#[32, 32, 32]⟩] 9))).cell? ⟨w.heap.size + 1, r0, none⟩ = some (.string V0) := row_at (w.drew.alloc (.cells #[Value.string ⟨#[]⟩, .string ⟨#[32]⟩, .string ⟨#[10]⟩, .string ⟨#[32, 9, 10, 32, 32]⟩] 9)) _ _ _ _ _ (by simp) v0
      refine strong (S2 := fun W => W.cell? ⟨w.heap.size + 1, r0, none⟩ = some (.string V0) ∧ (W.cell? ⟨w.heap.size, r1, none⟩ = some (.string V1) ∧ (W.cell? ⟨b, 0, none⟩ = some (.int .i64 z0) ∧ W.cell? ⟨b, 1, none⟩ = some (.int .i64 z1) ∧ W.cell? ⟨b, 2, none⟩ = some (.int .i64 z2)))) (fun _ h => h.2) _ _ _ _ ?_
      replace hH : (fun W => W.cell? ⟨w.heap.size + 1, r0, none⟩ = some (.string V0) ∧ (W.cell? ⟨w.heap.size, r1, none⟩ = some (.string V1) ∧ (W.cell? ⟨b, 0, none⟩ = some (.int .i64 z0) ∧ W.cell? ⟨b, 1, none⟩ = some (.int .i64 z1) ∧ W.cell? ⟨b, 2, none⟩ = some (.int .i64 z2)))) ((w.drew.alloc (.cells #[Value.string ⟨#[]⟩, .string ⟨#[32]⟩, .string ⟨#[10]⟩, .string ⟨#[32, 9, 10, 32, 32]⟩] 9)).alloc (.cells #[Value.string ⟨#[]⟩, .string ⟨#[32]⟩, .string ⟨#[32, 32, 32]⟩] 9)) := ⟨hN, hHeld⟩
      clear hN hHeld
      refine wpAnyH_take (fuel := 10) (i := 5) (oi := o5) (v := ?v39) rfl (by kernel_rfl) (by kernel_rfl) (by kernel_rfl) (fun _ _ _ h => hQ _ _ _ _ _ h) (.inl ⟨by rfl, ?h39⟩) hH ?r39
      case h39 => intro W hW; (try dsimp only at hW); go_simp; try with_reducible rfl
      simp only [o5, Act.put, List.setIfInBounds_toArray, List.set_cons_zero, List.set_cons_succ]
      refine wpAnyH_take (fuel := 9) (i := 6) (oi := o6) (v := ?v40) rfl (by kernel_rfl) (by kernel_rfl) (by kernel_rfl) (fun _ _ _ h => hQ _ _ _ _ _ h) (.inl ⟨by rfl, ?h40⟩) hH ?r40
      case h40 => intro W hW; (try dsimp only at hW); go_simp; try with_reducible rfl
      simp only [o6, Act.put, List.setIfInBounds_toArray, List.set_cons_zero, List.set_cons_succ]
      refine wpAnyH_take (fuel := 8) (i := 7) (oi := o7) (v := ?v41) rfl (by kernel_rfl) (by kernel_rfl) (by kernel_rfl) (fun _ _ _ h => hQ _ _ _ _ _ h) (.inl ⟨by rfl, ?h41⟩) hH ?r41
      case h41 => intro W hW; (try dsimp only at hW); go_simp; try with_reducible rfl
      simp only [o7, Act.put, List.setIfInBounds_toArray, List.set_cons_zero, List.set_cons_succ]
      refine wpAnyH_take (fuel := 7) (i := 9) (oi := o9) (v := ?v42) rfl (by kernel_rfl) (by kernel_rfl) (by kernel_rfl) (fun _ _ _ h => hQ _ _ _ _ _ h) (.inl ⟨by rfl, ?h42⟩) hH ?r42
      case h42 => intro W hW; (try dsimp only at hW); go_simp; try with_reducible rfl
      simp only [o9, Act.put, List.setIfInBounds_toArray, List.set_cons_zero, List.set_cons_succ]
      refine wpAnyH_take (fuel := 6) (i := 10) (oi := o10) (v := ?v43) rfl (by kernel_rfl) (by kernel_rfl) (by kernel_rfl) (fun _ _ _ h => hQ _ _ _ _ _ h) (.inl ⟨by rfl, ?h43⟩) hH ?r43
      case h43 => intro W hW; (try dsimp only at hW); go_simp; try with_reducible rfl
      simp only [o10, Act.put, List.setIfInBounds_toArray, List.set_cons_zero, List.set_cons_succ]
      refine wpAnyH_take (fuel := 5) (i := 18) (oi := o18) (v := ?v44) rfl (by kernel_rfl) (by kernel_rfl) (by kernel_rfl) (fun _ _ _ h => hQ _ _ _ _ _ h) (.inl ⟨by rfl, ?h44⟩) hH ?r44
      case h44 => intro W hW; (try dsimp only at hW); go_simp; try with_reducible rfl
      simp only [o18, Act.put, List.setIfInBounds_toArray, List.set_cons_zero, List.set_cons_succ]
      refine wpAnyH_ready (fuel := 4) (rs := [23]) (by kernel_rfl) (by simp) ?_
      refine AllReadyH.cons (o := o23) rfl (fun K hK => ?_) ?_
      · go_simp
        refine hK.out _ _ ?_ (fun hHeld => ?_)
        · exact (fun h => keep4 (R := fun W => W.cell? ⟨w.heap.size, r1, none⟩ = some (.string V1) ∧ (W.cell? ⟨b, 0, none⟩ = some (.int .i64 z0) ∧ W.cell? ⟨b, 1, none⟩ = some (.int .i64 z1) ∧ W.cell? ⟨b, 2, none⟩ = some (.int .i64 z2))) _ h (fun h => keep4 (R := fun W => W.cell? ⟨b, 0, none⟩ = some (.int .i64 z0) ∧ W.cell? ⟨b, 1, none⟩ = some (.int .i64 z1) ∧ W.cell? ⟨b, 2, none⟩ = some (.int .i64 z2)) _ h (keep3 _))) hH
        clear hK K
        try simp only [o23, Act.put, List.setIfInBounds_toArray, List.set_cons_zero, List.set_cons_succ]
        have hN : ((((w.drew.alloc (.cells #[Value.string ⟨#[]⟩, .string ⟨#[32]⟩, .string ⟨#[10]⟩, .string ⟨#[32, 9, 10, 32, 32]⟩] 9)).alloc (.cells #[Value.string ⟨#[]⟩, .string ⟨#[32]⟩, .string ⟨#[32, 32, 32]⟩] 9)).alloc (.cells #[Value.string DB, .string (((⟨#[60]⟩ : ByteArray) ++ DB) ++ (⟨#[62]⟩ : ByteArray))] 9))).cell? ⟨w.heap.size + 2, r2, none⟩ = some (.string V2) := row_at ((w.drew.alloc (.cells #[Value.string ⟨#[]⟩, .string ⟨#[32]⟩, .string ⟨#[10]⟩, .string ⟨#[32, 9, 10, 32, 32]⟩] 9)).alloc (.cells #[Value.string ⟨#[]⟩, .string ⟨#[32]⟩, .string ⟨#[32, 32, 32]⟩] 9)) _ _ _ _ _ (by simp) v2
        refine strong (S2 := fun W => W.cell? ⟨w.heap.size + 2, r2, none⟩ = some (.string V2) ∧ (W.cell? ⟨w.heap.size + 1, r0, none⟩ = some (.string V0) ∧ (W.cell? ⟨w.heap.size, r1, none⟩ = some (.string V1) ∧ (W.cell? ⟨b, 0, none⟩ = some (.int .i64 z0) ∧ W.cell? ⟨b, 1, none⟩ = some (.int .i64 z1) ∧ W.cell? ⟨b, 2, none⟩ = some (.int .i64 z2))))) (fun _ h => h.2) _ _ _ _ ?_
        replace hH : (fun W => W.cell? ⟨w.heap.size + 2, r2, none⟩ = some (.string V2) ∧ (W.cell? ⟨w.heap.size + 1, r0, none⟩ = some (.string V0) ∧ (W.cell? ⟨w.heap.size, r1, none⟩ = some (.string V1) ∧ (W.cell? ⟨b, 0, none⟩ = some (.int .i64 z0) ∧ W.cell? ⟨b, 1, none⟩ = some (.int .i64 z1) ∧ W.cell? ⟨b, 2, none⟩ = some (.int .i64 z2))))) (((w.drew.alloc (.cells #[Value.string ⟨#[]⟩, .string ⟨#[32]⟩, .string ⟨#[10]⟩, .string ⟨#[32, 9, 10, 32, 32]⟩] 9)).alloc (.cells #[Value.string ⟨#[]⟩, .string ⟨#[32]⟩, .string ⟨#[32, 32, 32]⟩] 9)).alloc (.cells #[Value.string DB, .string (((⟨#[60]⟩ : ByteArray) ++ DB) ++ (⟨#[62]⟩ : ByteArray))] 9)) := ⟨hN, hHeld⟩
        clear hN hHeld
        refine wpAnyH_take (fuel := 3) (i := 28) (oi := o28) (v := ?v45) rfl (by kernel_rfl) (by kernel_rfl) (by kernel_rfl) (fun _ _ _ h => hQ _ _ _ _ _ h) (.inl ⟨by rfl, ?h45⟩) hH ?r45
        case h45 => intro W hW; (try dsimp only at hW); go_simp; try with_reducible rfl
        simp only [o28, Act.put, List.setIfInBounds_toArray, List.set_cons_zero, List.set_cons_succ]
        refine wpAnyH_take (fuel := 2) (i := 29) (oi := o29) (v := ?v46) rfl (by kernel_rfl) (by kernel_rfl) (by kernel_rfl) (fun _ _ _ h => hQ _ _ _ _ _ h) (.inl ⟨by rfl, ?h46⟩) hH ?r46
        case h46 => intro W hW; (try dsimp only at hW); go_simp; try with_reducible rfl
        simp only [o29, Act.put, List.setIfInBounds_toArray, List.set_cons_zero, List.set_cons_succ]
        refine wpAnyH_take (fuel := 1) (i := 30) (oi := o30) (v := ?v47) rfl (by kernel_rfl) (by kernel_rfl) (by kernel_rfl) (fun _ _ _ h => hQ _ _ _ _ _ h) (.inl ⟨by rfl, ?h47⟩) hH ?r47
        case h47 => intro W hW; (try dsimp only at hW); go_simp; try with_reducible rfl
        simp only [o30, Act.put, List.setIfInBounds_toArray, List.set_cons_zero, List.set_cons_succ]
        refine wpAnyH_take (fuel := 0) (i := 31) (oi := o31) (v := ?v48) rfl (by kernel_rfl) (by kernel_rfl) (by kernel_rfl) (fun _ _ _ h => hQ _ _ _ _ _ h) (.inl ⟨by rfl, ?h48⟩) hH ?r48
        case h48 => intro W hW; (try dsimp only at hW); go_simp; try with_reducible rfl
        simp only [o31, Act.put, List.setIfInBounds_toArray, List.set_cons_zero, List.set_cons_succ]
        refine wpAnyH_done (by kernel_rfl) ?_ _
        exact hpost _ _ _ _ _ _ _ _ _ _ _ _ _ _ _ _ _ _ _ _ _ _ _ _ _ _ _ _ _ _ _ _ (by repeat (first | exact Below.refl _ _ | refine Below.drew ?_ | refine Below.alloc ?_ (by first | (simp; done) | (simp; omega)) _))
      exact AllReadyH.nil
    refine AllReadyH.cons (o := o23) rfl (fun K hK => ?_) ?_
    · go_simp
      refine hK.out _ _ ?_ (fun hHeld => ?_)
      · exact (fun h => keep4 (R := fun W => W.cell? ⟨b, 0, none⟩ = some (.int .i64 z0) ∧ W.cell? ⟨b, 1, none⟩ = some (.int .i64 z1) ∧ W.cell? ⟨b, 2, none⟩ = some (.int .i64 z2)) _ h (keep3 _)) hH
      clear hK K
      try simp only [o23, Act.put, List.setIfInBounds_toArray, List.set_cons_zero, List.set_cons_succ]
      have hN : (((w.drew.alloc (.cells #[Value.string ⟨#[]⟩, .string ⟨#[32]⟩, .string ⟨#[10]⟩, .string ⟨#[32, 9, 10, 32, 32]⟩] 9)).alloc (.cells #[Value.string DB, .string (((⟨#[60]⟩ : ByteArray) ++ DB) ++ (⟨#[62]⟩ : ByteArray))] 9))).cell? ⟨w.heap.size + 1, r2, none⟩ = some (.string V2) := row_at (w.drew.alloc (.cells #[Value.string ⟨#[]⟩, .string ⟨#[32]⟩, .string ⟨#[10]⟩, .string ⟨#[32, 9, 10, 32, 32]⟩] 9)) _ _ _ _ _ (by simp) v2
      refine strong (S2 := fun W => W.cell? ⟨w.heap.size + 1, r2, none⟩ = some (.string V2) ∧ (W.cell? ⟨w.heap.size, r1, none⟩ = some (.string V1) ∧ (W.cell? ⟨b, 0, none⟩ = some (.int .i64 z0) ∧ W.cell? ⟨b, 1, none⟩ = some (.int .i64 z1) ∧ W.cell? ⟨b, 2, none⟩ = some (.int .i64 z2)))) (fun _ h => h.2) _ _ _ _ ?_
      replace hH : (fun W => W.cell? ⟨w.heap.size + 1, r2, none⟩ = some (.string V2) ∧ (W.cell? ⟨w.heap.size, r1, none⟩ = some (.string V1) ∧ (W.cell? ⟨b, 0, none⟩ = some (.int .i64 z0) ∧ W.cell? ⟨b, 1, none⟩ = some (.int .i64 z1) ∧ W.cell? ⟨b, 2, none⟩ = some (.int .i64 z2)))) ((w.drew.alloc (.cells #[Value.string ⟨#[]⟩, .string ⟨#[32]⟩, .string ⟨#[10]⟩, .string ⟨#[32, 9, 10, 32, 32]⟩] 9)).alloc (.cells #[Value.string DB, .string (((⟨#[60]⟩ : ByteArray) ++ DB) ++ (⟨#[62]⟩ : ByteArray))] 9)) := ⟨hN, hHeld⟩
      clear hN hHeld
      refine wpAnyH_take (fuel := 10) (i := 28) (oi := o28) (v := ?v49) rfl (by kernel_rfl) (by kernel_rfl) (by kernel_rfl) (fun _ _ _ h => hQ _ _ _ _ _ h) (.inl ⟨by rfl, ?h49⟩) hH ?r49
      case h49 => intro W hW; (try dsimp only at hW); go_simp; try with_reducible rfl
      simp only [o28, Act.put, List.setIfInBounds_toArray, List.set_cons_zero, List.set_cons_succ]
      refine wpAnyH_take (fuel := 9) (i := 29) (oi := o29) (v := ?v50) rfl (by kernel_rfl) (by kernel_rfl) (by kernel_rfl) (fun _ _ _ h => hQ _ _ _ _ _ h) (.inl ⟨by rfl, ?h50⟩) hH ?r50
      case h50 => intro W hW; (try dsimp only at hW); go_simp; try with_reducible rfl
      simp only [o29, Act.put, List.setIfInBounds_toArray, List.set_cons_zero, List.set_cons_succ]
      refine wpAnyH_ready (fuel := 8) (rs := [0]) (by kernel_rfl) (by simp) ?_
      refine AllReadyH.cons (o := o0) rfl (fun K hK => ?_) ?_
      · go_simp
        refine hK.out _ _ ?_ (fun hHeld => ?_)
        · exact (fun h => keep4 (R := fun W => W.cell? ⟨w.heap.size, r1, none⟩ = some (.string V1) ∧ (W.cell? ⟨b, 0, none⟩ = some (.int .i64 z0) ∧ W.cell? ⟨b, 1, none⟩ = some (.int .i64 z1) ∧ W.cell? ⟨b, 2, none⟩ = some (.int .i64 z2))) _ h (fun h => keep4 (R := fun W => W.cell? ⟨b, 0, none⟩ = some (.int .i64 z0) ∧ W.cell? ⟨b, 1, none⟩ = some (.int .i64 z1) ∧ W.cell? ⟨b, 2, none⟩ = some (.int .i64 z2)) _ h (keep3 _))) hH
        clear hK K
        try simp only [o0, Act.put, List.setIfInBounds_toArray, List.set_cons_zero, List.set_cons_succ]
        have hN : ((((w.drew.alloc (.cells #[Value.string ⟨#[]⟩, .string ⟨#[32]⟩, .string ⟨#[10]⟩, .string ⟨#[32, 9, 10, 32, 32]⟩] 9)).alloc (.cells #[Value.string DB, .string (((⟨#[60]⟩ : ByteArray) ++ DB) ++ (⟨#[62]⟩ : ByteArray))] 9)).alloc (.cells #[Value.string ⟨#[]⟩, .string ⟨#[32]⟩, .string ⟨#[32, 32, 32]⟩] 9))).cell? ⟨w.heap.size + 2, r0, none⟩ = some (.string V0) := row_at ((w.drew.alloc (.cells #[Value.string ⟨#[]⟩, .string ⟨#[32]⟩, .string ⟨#[10]⟩, .string ⟨#[32, 9, 10, 32, 32]⟩] 9)).alloc (.cells #[Value.string DB, .string (((⟨#[60]⟩ : ByteArray) ++ DB) ++ (⟨#[62]⟩ : ByteArray))] 9)) _ _ _ _ _ (by simp) v0
        refine strong (S2 := fun W => W.cell? ⟨w.heap.size + 2, r0, none⟩ = some (.string V0) ∧ (W.cell? ⟨w.heap.size + 1, r2, none⟩ = some (.string V2) ∧ (W.cell? ⟨w.heap.size, r1, none⟩ = some (.string V1) ∧ (W.cell? ⟨b, 0, none⟩ = some (.int .i64 z0) ∧ W.cell? ⟨b, 1, none⟩ = some (.int .i64 z1) ∧ W.cell? ⟨b, 2, none⟩ = some (.int .i64 z2))))) (fun _ h => h.2) _ _ _ _ ?_
        replace hH : (fun W => W.cell? ⟨w.heap.size + 2, r0, none⟩ = some (.string V0) ∧ (W.cell? ⟨w.heap.size + 1, r2, none⟩ = some (.string V2) ∧ (W.cell? ⟨w.heap.size, r1, none⟩ = some (.string V1) ∧ (W.cell? ⟨b, 0, none⟩ = some (.int .i64 z0) ∧ W.cell? ⟨b, 1, none⟩ = some (.int .i64 z1) ∧ W.cell? ⟨b, 2, none⟩ = some (.int .i64 z2))))) (((w.drew.alloc (.cells #[Value.string ⟨#[]⟩, .string ⟨#[32]⟩, .string ⟨#[10]⟩, .string ⟨#[32, 9, 10, 32, 32]⟩] 9)).alloc (.cells #[Value.string DB, .string (((⟨#[60]⟩ : ByteArray) ++ DB) ++ (⟨#[62]⟩ : ByteArray))] 9)).alloc (.cells #[Value.string ⟨#[]⟩, .string ⟨#[32]⟩, .string ⟨#[32, 32, 32]⟩] 9)) := ⟨hN, hHeld⟩
        clear hN hHeld
        refine wpAnyH_take (fuel := 7) (i := 5) (oi := o5) (v := ?v51) rfl (by kernel_rfl) (by kernel_rfl) (by kernel_rfl) (fun _ _ _ h => hQ _ _ _ _ _ h) (.inl ⟨by rfl, ?h51⟩) hH ?r51
        case h51 => intro W hW; (try dsimp only at hW); go_simp; try with_reducible rfl
        simp only [o5, Act.put, List.setIfInBounds_toArray, List.set_cons_zero, List.set_cons_succ]
        refine wpAnyH_take (fuel := 6) (i := 6) (oi := o6) (v := ?v52) rfl (by kernel_rfl) (by kernel_rfl) (by kernel_rfl) (fun _ _ _ h => hQ _ _ _ _ _ h) (.inl ⟨by rfl, ?h52⟩) hH ?r52
        case h52 => intro W hW; (try dsimp only at hW); go_simp; try with_reducible rfl
        simp only [o6, Act.put, List.setIfInBounds_toArray, List.set_cons_zero, List.set_cons_succ]
        refine wpAnyH_take (fuel := 5) (i := 7) (oi := o7) (v := ?v53) rfl (by kernel_rfl) (by kernel_rfl) (by kernel_rfl) (fun _ _ _ h => hQ _ _ _ _ _ h) (.inl ⟨by rfl, ?h53⟩) hH ?r53
        case h53 => intro W hW; (try dsimp only at hW); go_simp; try with_reducible rfl
        simp only [o7, Act.put, List.setIfInBounds_toArray, List.set_cons_zero, List.set_cons_succ]
        refine wpAnyH_take (fuel := 4) (i := 9) (oi := o9) (v := ?v54) rfl (by kernel_rfl) (by kernel_rfl) (by kernel_rfl) (fun _ _ _ h => hQ _ _ _ _ _ h) (.inl ⟨by rfl, ?h54⟩) hH ?r54
        case h54 => intro W hW; (try dsimp only at hW); go_simp; try with_reducible rfl
        simp only [o9, Act.put, List.setIfInBounds_toArray, List.set_cons_zero, List.set_cons_succ]
        refine wpAnyH_take (fuel := 3) (i := 10) (oi := o10) (v := ?v55) rfl (by kernel_rfl) (by kernel_rfl) (by kernel_rfl) (fun _ _ _ h => hQ _ _ _ _ _ h) (.inl ⟨by rfl, ?h55⟩) hH ?r55
        case h55 => intro W hW; (try dsimp only at hW); go_simp; try with_reducible rfl
        simp only [o10, Act.put, List.setIfInBounds_toArray, List.set_cons_zero, List.set_cons_succ]
        refine wpAnyH_take (fuel := 2) (i := 18) (oi := o18) (v := ?v56) rfl (by kernel_rfl) (by kernel_rfl) (by kernel_rfl) (fun _ _ _ h => hQ _ _ _ _ _ h) (.inl ⟨by rfl, ?h56⟩) hH ?r56
        case h56 => intro W hW; (try dsimp only at hW); go_simp; try with_reducible rfl
        simp only [o18, Act.put, List.setIfInBounds_toArray, List.set_cons_zero, List.set_cons_succ]
        refine wpAnyH_take (fuel := 1) (i := 30) (oi := o30) (v := ?v57) rfl (by kernel_rfl) (by kernel_rfl) (by kernel_rfl) (fun _ _ _ h => hQ _ _ _ _ _ h) (.inl ⟨by rfl, ?h57⟩) hH ?r57
        case h57 => intro W hW; (try dsimp only at hW); go_simp; try with_reducible rfl
        simp only [o30, Act.put, List.setIfInBounds_toArray, List.set_cons_zero, List.set_cons_succ]
        refine wpAnyH_take (fuel := 0) (i := 31) (oi := o31) (v := ?v58) rfl (by kernel_rfl) (by kernel_rfl) (by kernel_rfl) (fun _ _ _ h => hQ _ _ _ _ _ h) (.inl ⟨by rfl, ?h58⟩) hH ?r58
        case h58 => intro W hW; (try dsimp only at hW); go_simp; try with_reducible rfl
        simp only [o31, Act.put, List.setIfInBounds_toArray, List.set_cons_zero, List.set_cons_succ]
        refine wpAnyH_done (by kernel_rfl) ?_ _
        exact hpost _ _ _ _ _ _ _ _ _ _ _ _ _ _ _ _ _ _ _ _ _ _ _ _ _ _ _ _ _ _ _ _ (by repeat (first | exact Below.refl _ _ | refine Below.drew ?_ | refine Below.alloc ?_ (by first | (simp; done) | (simp; omega)) _))
      exact AllReadyH.nil
    exact AllReadyH.nil
  refine AllReadyH.cons (o := o23) rfl (fun K hK => ?_) ?_
  · go_simp
    refine hK.out _ _ ?_ (fun hHeld => ?_)
    · exact (keep3 _) hH
    clear hK K
    try simp only [o23, Act.put, List.setIfInBounds_toArray, List.set_cons_zero, List.set_cons_succ]
    have hN : ((w.drew.alloc (.cells #[Value.string DB, .string (((⟨#[60]⟩ : ByteArray) ++ DB) ++ (⟨#[62]⟩ : ByteArray))] 9))).cell? ⟨w.heap.size, r2, none⟩ = some (.string V2) := row_at w.drew _ _ _ _ _ (by simp) v2
    refine strong (S2 := fun W => W.cell? ⟨w.heap.size, r2, none⟩ = some (.string V2) ∧ (W.cell? ⟨b, 0, none⟩ = some (.int .i64 z0) ∧ W.cell? ⟨b, 1, none⟩ = some (.int .i64 z1) ∧ W.cell? ⟨b, 2, none⟩ = some (.int .i64 z2))) (fun _ h => h.2) _ _ _ _ ?_
    replace hH : (fun W => W.cell? ⟨w.heap.size, r2, none⟩ = some (.string V2) ∧ (W.cell? ⟨b, 0, none⟩ = some (.int .i64 z0) ∧ W.cell? ⟨b, 1, none⟩ = some (.int .i64 z1) ∧ W.cell? ⟨b, 2, none⟩ = some (.int .i64 z2))) (w.drew.alloc (.cells #[Value.string DB, .string (((⟨#[60]⟩ : ByteArray) ++ DB) ++ (⟨#[62]⟩ : ByteArray))] 9)) := ⟨hN, hHeld⟩
    clear hN hHeld
    refine wpAnyH_take (fuel := 13) (i := 28) (oi := o28) (v := ?v59) rfl (by kernel_rfl) (by kernel_rfl) (by kernel_rfl) (fun _ _ _ h => hQ _ _ _ _ _ h) (.inl ⟨by rfl, ?h59⟩) hH ?r59
    case h59 => intro W hW; (try dsimp only at hW); go_simp; try with_reducible rfl
    simp only [o28, Act.put, List.setIfInBounds_toArray, List.set_cons_zero, List.set_cons_succ]
    refine wpAnyH_take (fuel := 12) (i := 29) (oi := o29) (v := ?v60) rfl (by kernel_rfl) (by kernel_rfl) (by kernel_rfl) (fun _ _ _ h => hQ _ _ _ _ _ h) (.inl ⟨by rfl, ?h60⟩) hH ?r60
    case h60 => intro W hW; (try dsimp only at hW); go_simp; try with_reducible rfl
    simp only [o29, Act.put, List.setIfInBounds_toArray, List.set_cons_zero, List.set_cons_succ]
    refine wpAnyH_ready (fuel := 11) (rs := [0, 11]) (by kernel_rfl) (by simp) ?_
    refine AllReadyH.cons (o := o0) rfl (fun K hK => ?_) ?_
    · go_simp
      refine hK.out _ _ ?_ (fun hHeld => ?_)
      · exact (fun h => keep4 (R := fun W => W.cell? ⟨b, 0, none⟩ = some (.int .i64 z0) ∧ W.cell? ⟨b, 1, none⟩ = some (.int .i64 z1) ∧ W.cell? ⟨b, 2, none⟩ = some (.int .i64 z2)) _ h (keep3 _)) hH
      clear hK K
      try simp only [o0, Act.put, List.setIfInBounds_toArray, List.set_cons_zero, List.set_cons_succ]
      have hN : (((w.drew.alloc (.cells #[Value.string DB, .string (((⟨#[60]⟩ : ByteArray) ++ DB) ++ (⟨#[62]⟩ : ByteArray))] 9)).alloc (.cells #[Value.string ⟨#[]⟩, .string ⟨#[32]⟩, .string ⟨#[32, 32, 32]⟩] 9))).cell? ⟨w.heap.size + 1, r0, none⟩ = some (.string V0) := row_at (w.drew.alloc (.cells #[Value.string DB, .string (((⟨#[60]⟩ : ByteArray) ++ DB) ++ (⟨#[62]⟩ : ByteArray))] 9)) _ _ _ _ _ (by simp) v0
      refine strong (S2 := fun W => W.cell? ⟨w.heap.size + 1, r0, none⟩ = some (.string V0) ∧ (W.cell? ⟨w.heap.size, r2, none⟩ = some (.string V2) ∧ (W.cell? ⟨b, 0, none⟩ = some (.int .i64 z0) ∧ W.cell? ⟨b, 1, none⟩ = some (.int .i64 z1) ∧ W.cell? ⟨b, 2, none⟩ = some (.int .i64 z2)))) (fun _ h => h.2) _ _ _ _ ?_
      replace hH : (fun W => W.cell? ⟨w.heap.size + 1, r0, none⟩ = some (.string V0) ∧ (W.cell? ⟨w.heap.size, r2, none⟩ = some (.string V2) ∧ (W.cell? ⟨b, 0, none⟩ = some (.int .i64 z0) ∧ W.cell? ⟨b, 1, none⟩ = some (.int .i64 z1) ∧ W.cell? ⟨b, 2, none⟩ = some (.int .i64 z2)))) ((w.drew.alloc (.cells #[Value.string DB, .string (((⟨#[60]⟩ : ByteArray) ++ DB) ++ (⟨#[62]⟩ : ByteArray))] 9)).alloc (.cells #[Value.string ⟨#[]⟩, .string ⟨#[32]⟩, .string ⟨#[32, 32, 32]⟩] 9)) := ⟨hN, hHeld⟩
      clear hN hHeld
      refine wpAnyH_take (fuel := 10) (i := 5) (oi := o5) (v := ?v61) rfl (by kernel_rfl) (by kernel_rfl) (by kernel_rfl) (fun _ _ _ h => hQ _ _ _ _ _ h) (.inl ⟨by rfl, ?h61⟩) hH ?r61
      case h61 => intro W hW; (try dsimp only at hW); go_simp; try with_reducible rfl
      simp only [o5, Act.put, List.setIfInBounds_toArray, List.set_cons_zero, List.set_cons_succ]
      refine wpAnyH_take (fuel := 9) (i := 6) (oi := o6) (v := ?v62) rfl (by kernel_rfl) (by kernel_rfl) (by kernel_rfl) (fun _ _ _ h => hQ _ _ _ _ _ h) (.inl ⟨by rfl, ?h62⟩) hH ?r62
      case h62 => intro W hW; (try dsimp only at hW); go_simp; try with_reducible rfl
      simp only [o6, Act.put, List.setIfInBounds_toArray, List.set_cons_zero, List.set_cons_succ]
      refine wpAnyH_take (fuel := 8) (i := 7) (oi := o7) (v := ?v63) rfl (by kernel_rfl) (by kernel_rfl) (by kernel_rfl) (fun _ _ _ h => hQ _ _ _ _ _ h) (.inl ⟨by rfl, ?h63⟩) hH ?r63
      case h63 => intro W hW; (try dsimp only at hW); go_simp; try with_reducible rfl
      simp only [o7, Act.put, List.setIfInBounds_toArray, List.set_cons_zero, List.set_cons_succ]
      refine wpAnyH_take (fuel := 7) (i := 9) (oi := o9) (v := ?v64) rfl (by kernel_rfl) (by kernel_rfl) (by kernel_rfl) (fun _ _ _ h => hQ _ _ _ _ _ h) (.inl ⟨by rfl, ?h64⟩) hH ?r64
      case h64 => intro W hW; (try dsimp only at hW); go_simp; try with_reducible rfl
      simp only [o9, Act.put, List.setIfInBounds_toArray, List.set_cons_zero, List.set_cons_succ]
      refine wpAnyH_take (fuel := 6) (i := 10) (oi := o10) (v := ?v65) rfl (by kernel_rfl) (by kernel_rfl) (by kernel_rfl) (fun _ _ _ h => hQ _ _ _ _ _ h) (.inl ⟨by rfl, ?h65⟩) hH ?r65
      case h65 => intro W hW; (try dsimp only at hW); go_simp; try with_reducible rfl
      simp only [o10, Act.put, List.setIfInBounds_toArray, List.set_cons_zero, List.set_cons_succ]
      refine wpAnyH_ready (fuel := 5) (rs := [11]) (by kernel_rfl) (by simp) ?_
      refine AllReadyH.cons (o := o11) rfl (fun K hK => ?_) ?_
      · go_simp
        refine hK.out _ _ ?_ (fun hHeld => ?_)
        · exact (fun h => keep4 (R := fun W => W.cell? ⟨w.heap.size, r2, none⟩ = some (.string V2) ∧ (W.cell? ⟨b, 0, none⟩ = some (.int .i64 z0) ∧ W.cell? ⟨b, 1, none⟩ = some (.int .i64 z1) ∧ W.cell? ⟨b, 2, none⟩ = some (.int .i64 z2))) _ h (fun h => keep4 (R := fun W => W.cell? ⟨b, 0, none⟩ = some (.int .i64 z0) ∧ W.cell? ⟨b, 1, none⟩ = some (.int .i64 z1) ∧ W.cell? ⟨b, 2, none⟩ = some (.int .i64 z2)) _ h (keep3 _))) hH
        clear hK K
        try simp only [o11, Act.put, List.setIfInBounds_toArray, List.set_cons_zero, List.set_cons_succ]
        have hN : ((((w.drew.alloc (.cells #[Value.string DB, .string (((⟨#[60]⟩ : ByteArray) ++ DB) ++ (⟨#[62]⟩ : ByteArray))] 9)).alloc (.cells #[Value.string ⟨#[]⟩, .string ⟨#[32]⟩, .string ⟨#[32, 32, 32]⟩] 9)).alloc (.cells #[Value.string ⟨#[]⟩, .string ⟨#[32]⟩, .string ⟨#[10]⟩, .string ⟨#[32, 9, 10, 32, 32]⟩] 9))).cell? ⟨w.heap.size + 2, r1, none⟩ = some (.string V1) := row_at ((w.drew.alloc (.cells #[Value.string DB, .string (((⟨#[60]⟩ : ByteArray) ++ DB) ++ (⟨#[62]⟩ : ByteArray))] 9)).alloc (.cells #[Value.string ⟨#[]⟩, .string ⟨#[32]⟩, .string ⟨#[32, 32, 32]⟩] 9)) _ _ _ _ _ (by simp) v1
        refine strong (S2 := fun W => W.cell? ⟨w.heap.size + 2, r1, none⟩ = some (.string V1) ∧ (W.cell? ⟨w.heap.size + 1, r0, none⟩ = some (.string V0) ∧ (W.cell? ⟨w.heap.size, r2, none⟩ = some (.string V2) ∧ (W.cell? ⟨b, 0, none⟩ = some (.int .i64 z0) ∧ W.cell? ⟨b, 1, none⟩ = some (.int .i64 z1) ∧ W.cell? ⟨b, 2, none⟩ = some (.int .i64 z2))))) (fun _ h => h.2) _ _ _ _ ?_
        replace hH : (fun W => W.cell? ⟨w.heap.size + 2, r1, none⟩ = some (.string V1) ∧ (W.cell? ⟨w.heap.size + 1, r0, none⟩ = some (.string V0) ∧ (W.cell? ⟨w.heap.size, r2, none⟩ = some (.string V2) ∧ (W.cell? ⟨b, 0, none⟩ = some (.int .i64 z0) ∧ W.cell? ⟨b, 1, none⟩ = some (.int .i64 z1) ∧ W.cell? ⟨b, 2, none⟩ = some (.int .i64 z2))))) (((w.drew.alloc (.cells #[Value.string DB, .string (((⟨#[60]⟩ : ByteArray) ++ DB) ++ (⟨#[62]⟩ : ByteArray))] 9)).alloc (.cells #[Value.string ⟨#[]⟩, .string ⟨#[32]⟩, .string ⟨#[32, 32, 32]⟩] 9)).alloc (.cells #[Value.string ⟨#[]⟩, .string ⟨#[32]⟩, .string ⟨#[10]⟩, .string ⟨#[32, 9, 10, 32, 32]⟩] 9)) := ⟨hN, hHeld⟩
        clear hN hHeld
        refine wpAnyH_take (fuel := 4) (i := 16) (oi := o16) (v := ?v66) rfl (by kernel_rfl) (by kernel_rfl) (by kernel_rfl) (fun _ _ _ h => hQ _ _ _ _ _ h) (.inl ⟨by rfl, ?h66⟩) hH ?r66
        case h66 => intro W hW; (try dsimp only at hW); go_simp; try with_reducible rfl
        simp only [o16, Act.put, List.setIfInBounds_toArray, List.set_cons_zero, List.set_cons_succ]
        refine wpAnyH_take (fuel := 3) (i := 17) (oi := o17) (v := ?v67) rfl (by kernel_rfl) (by kernel_rfl) (by kernel_rfl) (fun _ _ _ h => hQ _ _ _ _ _ h) (.inl ⟨by rfl, ?h67⟩) hH ?r67
        case h67 => intro W hW; (try dsimp only at hW); go_simp; try with_reducible rfl
        simp only [o17, Act.put, List.setIfInBounds_toArray, List.set_cons_zero, List.set_cons_succ]
        refine wpAnyH_take (fuel := 2) (i := 18) (oi := o18) (v := ?v68) rfl (by kernel_rfl) (by kernel_rfl) (by kernel_rfl) (fun _ _ _ h => hQ _ _ _ _ _ h) (.inl ⟨by rfl, ?h68⟩) hH ?r68
        case h68 => intro W hW; (try dsimp only at hW); go_simp; try with_reducible rfl
        simp only [o18, Act.put, List.setIfInBounds_toArray, List.set_cons_zero, List.set_cons_succ]
        refine wpAnyH_take (fuel := 1) (i := 30) (oi := o30) (v := ?v69) rfl (by kernel_rfl) (by kernel_rfl) (by kernel_rfl) (fun _ _ _ h => hQ _ _ _ _ _ h) (.inl ⟨by rfl, ?h69⟩) hH ?r69
        case h69 => intro W hW; (try dsimp only at hW); go_simp; try with_reducible rfl
        simp only [o30, Act.put, List.setIfInBounds_toArray, List.set_cons_zero, List.set_cons_succ]
        refine wpAnyH_take (fuel := 0) (i := 31) (oi := o31) (v := ?v70) rfl (by kernel_rfl) (by kernel_rfl) (by kernel_rfl) (fun _ _ _ h => hQ _ _ _ _ _ h) (.inl ⟨by rfl, ?h70⟩) hH ?r70
        case h70 => intro W hW; (try dsimp only at hW); go_simp; try with_reducible rfl
        simp only [o31, Act.put, List.setIfInBounds_toArray, List.set_cons_zero, List.set_cons_succ]
        refine wpAnyH_done (by kernel_rfl) ?_ _
        exact hpost _ _ _ _ _ _ _ _ _ _ _ _ _ _ _ _ _ _ _ _ _ _ _ _ _ _ _ _ _ _ _ _ (by repeat (first | exact Below.refl _ _ | refine Below.drew ?_ | refine Below.alloc ?_ (by first | (simp; done) | (simp; omega)) _))
      exact AllReadyH.nil
    refine AllReadyH.cons (o := o11) rfl (fun K hK => ?_) ?_
    · go_simp
      refine hK.out _ _ ?_ (fun hHeld => ?_)
      · exact (fun h => keep4 (R := fun W => W.cell? ⟨b, 0, none⟩ = some (.int .i64 z0) ∧ W.cell? ⟨b, 1, none⟩ = some (.int .i64 z1) ∧ W.cell? ⟨b, 2, none⟩ = some (.int .i64 z2)) _ h (keep3 _)) hH
      clear hK K
      try simp only [o11, Act.put, List.setIfInBounds_toArray, List.set_cons_zero, List.set_cons_succ]
      have hN : (((w.drew.alloc (.cells #[Value.string DB, .string (((⟨#[60]⟩ : ByteArray) ++ DB) ++ (⟨#[62]⟩ : ByteArray))] 9)).alloc (.cells #[Value.string ⟨#[]⟩, .string ⟨#[32]⟩, .string ⟨#[10]⟩, .string ⟨#[32, 9, 10, 32, 32]⟩] 9))).cell? ⟨w.heap.size + 1, r1, none⟩ = some (.string V1) := row_at (w.drew.alloc (.cells #[Value.string DB, .string (((⟨#[60]⟩ : ByteArray) ++ DB) ++ (⟨#[62]⟩ : ByteArray))] 9)) _ _ _ _ _ (by simp) v1
      refine strong (S2 := fun W => W.cell? ⟨w.heap.size + 1, r1, none⟩ = some (.string V1) ∧ (W.cell? ⟨w.heap.size, r2, none⟩ = some (.string V2) ∧ (W.cell? ⟨b, 0, none⟩ = some (.int .i64 z0) ∧ W.cell? ⟨b, 1, none⟩ = some (.int .i64 z1) ∧ W.cell? ⟨b, 2, none⟩ = some (.int .i64 z2)))) (fun _ h => h.2) _ _ _ _ ?_
      replace hH : (fun W => W.cell? ⟨w.heap.size + 1, r1, none⟩ = some (.string V1) ∧ (W.cell? ⟨w.heap.size, r2, none⟩ = some (.string V2) ∧ (W.cell? ⟨b, 0, none⟩ = some (.int .i64 z0) ∧ W.cell? ⟨b, 1, none⟩ = some (.int .i64 z1) ∧ W.cell? ⟨b, 2, none⟩ = some (.int .i64 z2)))) ((w.drew.alloc (.cells #[Value.string DB, .string (((⟨#[60]⟩ : ByteArray) ++ DB) ++ (⟨#[62]⟩ : ByteArray))] 9)).alloc (.cells #[Value.string ⟨#[]⟩, .string ⟨#[32]⟩, .string ⟨#[10]⟩, .string ⟨#[32, 9, 10, 32, 32]⟩] 9)) := ⟨hN, hHeld⟩
      clear hN hHeld
      refine wpAnyH_take (fuel := 10) (i := 16) (oi := o16) (v := ?v71) rfl (by kernel_rfl) (by kernel_rfl) (by kernel_rfl) (fun _ _ _ h => hQ _ _ _ _ _ h) (.inl ⟨by rfl, ?h71⟩) hH ?r71
      case h71 => intro W hW; (try dsimp only at hW); go_simp; try with_reducible rfl
      simp only [o16, Act.put, List.setIfInBounds_toArray, List.set_cons_zero, List.set_cons_succ]
      refine wpAnyH_take (fuel := 9) (i := 17) (oi := o17) (v := ?v72) rfl (by kernel_rfl) (by kernel_rfl) (by kernel_rfl) (fun _ _ _ h => hQ _ _ _ _ _ h) (.inl ⟨by rfl, ?h72⟩) hH ?r72
      case h72 => intro W hW; (try dsimp only at hW); go_simp; try with_reducible rfl
      simp only [o17, Act.put, List.setIfInBounds_toArray, List.set_cons_zero, List.set_cons_succ]
      refine wpAnyH_ready (fuel := 8) (rs := [0]) (by kernel_rfl) (by simp) ?_
      refine AllReadyH.cons (o := o0) rfl (fun K hK => ?_) ?_
      · go_simp
        refine hK.out _ _ ?_ (fun hHeld => ?_)
        · exact (fun h => keep4 (R := fun W => W.cell? ⟨w.heap.size, r2, none⟩ = some (.string V2) ∧ (W.cell? ⟨b, 0, none⟩ = some (.int .i64 z0) ∧ W.cell? ⟨b, 1, none⟩ = some (.int .i64 z1) ∧ W.cell? ⟨b, 2, none⟩ = some (.int .i64 z2))) _ h (fun h => keep4 (R := fun W => W.cell? ⟨b, 0, none⟩ = some (.int .i64 z0) ∧ W.cell? ⟨b, 1, none⟩ = some (.int .i64 z1) ∧ W.cell? ⟨b, 2, none⟩ = some (.int .i64 z2)) _ h (keep3 _))) hH
        clear hK K
        try simp only [o0, Act.put, List.setIfInBounds_toArray, List.set_cons_zero, List.set_cons_succ]
        have hN : ((((w.drew.alloc (.cells #[Value.string DB, .string (((⟨#[60]⟩ : ByteArray) ++ DB) ++ (⟨#[62]⟩ : ByteArray))] 9)).alloc (.cells #[Value.string ⟨#[]⟩, .string ⟨#[32]⟩, .string ⟨#[10]⟩, .string ⟨#[32, 9, 10, 32, 32]⟩] 9)).alloc (.cells #[Value.string ⟨#[]⟩, .string ⟨#[32]⟩, .string ⟨#[32, 32, 32]⟩] 9))).cell? ⟨w.heap.size + 2, r0, none⟩ = some (.string V0) := row_at ((w.drew.alloc (.cells #[Value.string DB, .string (((⟨#[60]⟩ : ByteArray) ++ DB) ++ (⟨#[62]⟩ : ByteArray))] 9)).alloc (.cells #[Value.string ⟨#[]⟩, .string ⟨#[32]⟩, .string ⟨#[10]⟩, .string ⟨#[32, 9, 10, 32, 32]⟩] 9)) _ _ _ _ _ (by simp) v0
        refine strong (S2 := fun W => W.cell? ⟨w.heap.size + 2, r0, none⟩ = some (.string V0) ∧ (W.cell? ⟨w.heap.size + 1, r1, none⟩ = some (.string V1) ∧ (W.cell? ⟨w.heap.size, r2, none⟩ = some (.string V2) ∧ (W.cell? ⟨b, 0, none⟩ = some (.int .i64 z0) ∧ W.cell? ⟨b, 1, none⟩ = some (.int .i64 z1) ∧ W.cell? ⟨b, 2, none⟩ = some (.int .i64 z2))))) (fun _ h => h.2) _ _ _ _ ?_
        replace hH : (fun W => W.cell? ⟨w.heap.size + 2, r0, none⟩ = some (.string V0) ∧ (W.cell? ⟨w.heap.size + 1, r1, none⟩ = some (.string V1) ∧ (W.cell? ⟨w.heap.size, r2, none⟩ = some (.string V2) ∧ (W.cell? ⟨b, 0, none⟩ = some (.int .i64 z0) ∧ W.cell? ⟨b, 1, none⟩ = some (.int .i64 z1) ∧ W.cell? ⟨b, 2, none⟩ = some (.int .i64 z2))))) (((w.drew.alloc (.cells #[Value.string DB, .string (((⟨#[60]⟩ : ByteArray) ++ DB) ++ (⟨#[62]⟩ : ByteArray))] 9)).alloc (.cells #[Value.string ⟨#[]⟩, .string ⟨#[32]⟩, .string ⟨#[10]⟩, .string ⟨#[32, 9, 10, 32, 32]⟩] 9)).alloc (.cells #[Value.string ⟨#[]⟩, .string ⟨#[32]⟩, .string ⟨#[32, 32, 32]⟩] 9)) := ⟨hN, hHeld⟩
        clear hN hHeld
        refine wpAnyH_take (fuel := 7) (i := 5) (oi := o5) (v := ?v73) rfl (by kernel_rfl) (by kernel_rfl) (by kernel_rfl) (fun _ _ _ h => hQ _ _ _ _ _ h) (.inl ⟨by rfl, ?h73⟩) hH ?r73
        case h73 => intro W hW; (try dsimp only at hW); go_simp; try with_reducible rfl
        simp only [o5, Act.put, List.setIfInBounds_toArray, List.set_cons_zero, List.set_cons_succ]
        refine wpAnyH_take (fuel := 6) (i := 6) (oi := o6) (v := ?v74) rfl (by kernel_rfl) (by kernel_rfl) (by kernel_rfl) (fun _ _ _ h => hQ _ _ _ _ _ h) (.inl ⟨by rfl, ?h74⟩) hH ?r74
        case h74 => intro W hW; (try dsimp only at hW); go_simp; try with_reducible rfl
        simp only [o6, Act.put, List.setIfInBounds_toArray, List.set_cons_zero, List.set_cons_succ]
        refine wpAnyH_take (fuel := 5) (i := 7) (oi := o7) (v := ?v75) rfl (by kernel_rfl) (by kernel_rfl) (by kernel_rfl) (fun _ _ _ h => hQ _ _ _ _ _ h) (.inl ⟨by rfl, ?h75⟩) hH ?r75
        case h75 => intro W hW; (try dsimp only at hW); go_simp; try with_reducible rfl
        simp only [o7, Act.put, List.setIfInBounds_toArray, List.set_cons_zero, List.set_cons_succ]
        refine wpAnyH_take (fuel := 4) (i := 9) (oi := o9) (v := ?v76) rfl (by kernel_rfl) (by kernel_rfl) (by kernel_rfl) (fun _ _ _ h => hQ _ _ _ _ _ h) (.inl ⟨by rfl, ?h76⟩) hH ?r76
        case h76 => intro W hW; (try dsimp only at hW); go_simp; try with_reducible rfl
        simp only [o9, Act.put, List.setIfInBounds_toArray, List.set_cons_zero, List.set_cons_succ]
        refine wpAnyH_take (fuel := 3) (i := 10) (oi := o10) (v := ?v77) rfl (by kernel_rfl) (by kernel_rfl) (by kernel_rfl) (fun _ _ _ h => hQ _ _ _ _ _ h) (.inl ⟨by rfl, ?h77⟩) hH ?r77
        case h77 => intro W hW; (try dsimp only at hW); go_simp; try with_reducible rfl
        simp only [o10, Act.put, List.setIfInBounds_toArray, List.set_cons_zero, List.set_cons_succ]
        refine wpAnyH_take (fuel := 2) (i := 18) (oi := o18) (v := ?v78) rfl (by kernel_rfl) (by kernel_rfl) (by kernel_rfl) (fun _ _ _ h => hQ _ _ _ _ _ h) (.inl ⟨by rfl, ?h78⟩) hH ?r78
        case h78 => intro W hW; (try dsimp only at hW); go_simp; try with_reducible rfl
        simp only [o18, Act.put, List.setIfInBounds_toArray, List.set_cons_zero, List.set_cons_succ]
        refine wpAnyH_take (fuel := 1) (i := 30) (oi := o30) (v := ?v79) rfl (by kernel_rfl) (by kernel_rfl) (by kernel_rfl) (fun _ _ _ h => hQ _ _ _ _ _ h) (.inl ⟨by rfl, ?h79⟩) hH ?r79
        case h79 => intro W hW; (try dsimp only at hW); go_simp; try with_reducible rfl
        simp only [o30, Act.put, List.setIfInBounds_toArray, List.set_cons_zero, List.set_cons_succ]
        refine wpAnyH_take (fuel := 0) (i := 31) (oi := o31) (v := ?v80) rfl (by kernel_rfl) (by kernel_rfl) (by kernel_rfl) (fun _ _ _ h => hQ _ _ _ _ _ h) (.inl ⟨by rfl, ?h80⟩) hH ?r80
        case h80 => intro W hW; (try dsimp only at hW); go_simp; try with_reducible rfl
        simp only [o31, Act.put, List.setIfInBounds_toArray, List.set_cons_zero, List.set_cons_succ]
        refine wpAnyH_done (by kernel_rfl) ?_ _
        exact hpost _ _ _ _ _ _ _ _ _ _ _ _ _ _ _ _ _ _ _ _ _ _ _ _ _ _ _ _ _ _ _ _ (by repeat (first | exact Below.refl _ _ | refine Below.drew ?_ | refine Below.alloc ?_ (by first | (simp; done) | (simp; omega)) _))
      exact AllReadyH.nil
    exact AllReadyH.nil
  exact AllReadyH.nil
end Go.Proofs.YthdlibgiejpjeaaGreatDoor.DefR

/- LinkDefines: the statement that draws its order over three new rows of strings: whatever the order, the text is one. -/
set_option linter.unusedVariables false
set_option linter.unusedSimpArgs false
namespace Go.Proofs.YthdlibgiejpjeaaGreatDoor.DefS
open Go Go.RowKit Go.Proofs.YthdlibgiejpjeaaGreatDoor Go.Proofs.YthdlibgiejpjeaaGreatDoor.Given Go.Proofs.YthdlibgiejpjeaaGreatDoorW.PrintWords Go.Proofs.YthdlibgiejpjeaaGreatDoor.Spec Go.Proofs.YthdlibgiejpjeaaGreatDoor.PureAid
@[reducible] def o0 : Oper := { dst := some 64, op := Op.move (Operand.tmp 14), type := 9, pos := "law.go:101", after := #[], guard := none }
@[reducible] def o1 : Oper := { dst := some 65, op := Op.buildSlice 42 3 #[(0, Operand.const (Value.string { data := #[32] })), (1, Operand.const (Value.string { data := #[10] })), (2, Operand.const (Value.string { data := #[9, 32, 10, 32] }))], type := 42, pos := "law.go:101", after := #[], guard := none }
@[reducible] def o2 : Oper := { dst := some 66, op := Op.move (Operand.tmp 13), type := 41, pos := "law.go:101", after := #[], guard := none }
@[reducible] def o3 : Oper := { dst := some 67, op := Op.indexAddr 41 (Operand.tmp 66) (Operand.const (Value.int IntKind.i64 3)), type := 0, pos := "law.go:101", after := #[{ on := 2, ground := Ground.data }], guard := none }
@[reducible] def o4 : Oper := { dst := some 68, op := Op.load 3 (Operand.tmp 67), type := 3, pos := "law.go:101", after := #[{ on := 3, ground := Ground.data }], guard := none }
@[reducible] def o5 : Oper := { dst := some 69, op := Op.binOp BinOp.rem 3 (Operand.tmp 68) (Operand.const (Value.int IntKind.i64 3)) 3, type := 3, pos := "law.go:101", after := #[{ on := 4, ground := Ground.data }], guard := none }
@[reducible] def o6 : Oper := { dst := some 70, op := Op.indexAddr 42 (Operand.tmp 65) (Operand.tmp 69), type := 0, pos := "law.go:101", after := #[{ on := 1, ground := Ground.data }, { on := 5, ground := Ground.data }], guard := none }
@[reducible] def o7 : Oper := { dst := some 71, op := Op.load 9 (Operand.tmp 70), type := 9, pos := "law.go:101", after := #[{ on := 6, ground := Ground.data }], guard := none }
@[reducible] def o8 : Oper := { dst := some 72, op := Op.binOp BinOp.add 9 (Operand.tmp 64) (Operand.tmp 71) 9, type := 9, pos := "law.go:101", after := #[{ on := 0, ground := Ground.data }, { on := 7, ground := Ground.data }], guard := none }
@[reducible] def o9 : Oper := { dst := some 73, op := Op.move (Operand.tmp 12), type := 9, pos := "law.go:101", after := #[], guard := none }
@[reducible] def o10 : Oper := { dst := some 74, op := Op.binOp BinOp.add 9 (Operand.const (Value.string { data := #[34] })) (Operand.tmp 73) 9, type := 9, pos := "law.go:101", after := #[{ on := 9, ground := Ground.data }], guard := none }
@[reducible] def o11 : Oper := { dst := some 75, op := Op.binOp BinOp.add 9 (Operand.tmp 74) (Operand.const (Value.string { data := #[34] })) 9, type := 9, pos := "law.go:101", after := #[{ on := 10, ground := Ground.data }], guard := none }
@[reducible] def o12 : Oper := { dst := some 76, op := Op.move (Operand.tmp 12), type := 9, pos := "law.go:101", after := #[], guard := none }
@[reducible] def o13 : Oper := { dst := some 77, op := Op.binOp BinOp.add 9 (Operand.const (Value.string { data := #[39] })) (Operand.tmp 76) 9, type := 9, pos := "law.go:101", after := #[{ on := 12, ground := Ground.data }], guard := none }
@[reducible] def o14 : Oper := { dst := some 78, op := Op.binOp BinOp.add 9 (Operand.tmp 77) (Operand.const (Value.string { data := #[39] })) 9, type := 9, pos := "law.go:101", after := #[{ on := 13, ground := Ground.data }], guard := none }
@[reducible] def o15 : Oper := { dst := some 79, op := Op.move (Operand.tmp 12), type := 9, pos := "law.go:101", after := #[], guard := none }
@[reducible] def o16 : Oper := { dst := some 80, op := Op.binOp BinOp.add 9 (Operand.const (Value.string { data := #[40] })) (Operand.tmp 79) 9, type := 9, pos := "law.go:101", after := #[{ on := 15, ground := Ground.data }], guard := none }
@[reducible] def o17 : Oper := { dst := some 81, op := Op.binOp BinOp.add 9 (Operand.tmp 80) (Operand.const (Value.string { data := #[41] })) 9, type := 9, pos := "law.go:101", after := #[{ on := 16, ground := Ground.data }], guard := none }
@[reducible] def o18 : Oper := { dst := some 82, op := Op.buildSlice 42 3 #[(0, Operand.tmp 75), (1, Operand.tmp 78), (2, Operand.tmp 81)], type := 42, pos := "law.go:101", after := #[{ on := 11, ground := Ground.data }, { on := 14, ground := Ground.data }, { on := 17, ground := Ground.data }], guard := none }
@[reducible] def o19 : Oper := { dst := some 83, op := Op.move (Operand.tmp 13), type := 41, pos := "law.go:101", after := #[], guard := none }
@[reducible] def o20 : Oper := { dst := some 84, op := Op.indexAddr 41 (Operand.tmp 83) (Operand.const (Value.int IntKind.i64 4)), type := 0, pos := "law.go:101", after := #[{ on := 19, ground := Ground.data }], guard := none }
@[reducible] def o21 : Oper := { dst := some 85, op := Op.load 3 (Operand.tmp 84), type := 3, pos := "law.go:101", after := #[{ on := 20, ground := Ground.data }], guard := none }
@[reducible] def o22 : Oper := { dst := some 86, op := Op.binOp BinOp.rem 3 (Operand.tmp 85) (Operand.const (Value.int IntKind.i64 3)) 3, type := 3, pos := "law.go:101", after := #[{ on := 21, ground := Ground.data }], guard := none }
@[reducible] def o23 : Oper := { dst := some 87, op := Op.indexAddr 42 (Operand.tmp 82) (Operand.tmp 86), type := 0, pos := "law.go:101", after := #[{ on := 18, ground := Ground.data }, { on := 22, ground := Ground.data }], guard := none }
@[reducible] def o24 : Oper := { dst := some 88, op := Op.load 9 (Operand.tmp 87), type := 9, pos := "law.go:101", after := #[{ on := 23, ground := Ground.data }], guard := none }
@[reducible] def o25 : Oper := { dst := some 89, op := Op.binOp BinOp.add 9 (Operand.tmp 72) (Operand.tmp 88) 9, type := 9, pos := "law.go:101", after := #[{ on := 8, ground := Ground.data }, { on := 24, ground := Ground.data }], guard := none }
@[reducible] def o26 : Oper := { dst := some 14, op := Op.assign (Operand.tmp 89), type := 9, pos := "law.go:101", after := #[{ on := 25, ground := Ground.data }, { on := 0, ground := Ground.phase }, { on := 1, ground := Ground.phase }, { on := 2, ground := Ground.phase }, { on := 3, ground := Ground.phase }, { on := 4, ground := Ground.phase }, { on := 5, ground := Ground.phase }, { on := 6, ground := Ground.phase }, { on := 7, ground := Ground.phase }, { on := 8, ground := Ground.phase }, { on := 9, ground := Ground.phase }, { on := 10, ground := Ground.phase }, { on := 11, ground := Ground.phase }, { on := 12, ground := Ground.phase }, { on := 13, ground := Ground.phase }, { on := 14, ground := Ground.phase }, { on := 15, ground := Ground.phase }, { on := 16, ground := Ground.phase }, { on := 17, ground := Ground.phase }, { on := 18, ground := Ground.phase }, { on := 19, ground := Ground.phase }, { on := 20, ground := Ground.phase }, { on := 21, ground := Ground.phase }, { on := 22, ground := Ground.phase }, { on := 23, ground := Ground.phase }, { on := 24, ground := Ground.phase }, { on := 25, ground := Ground.phase }], guard := none }
def opsS : Array Oper := #[o0, o1, o2, o3, o4, o5, o6, o7, o8, o9, o10, o11, o12, o13, o14, o15, o16, o17, o18, o19, o20, o21, o22, o23, o24, o25, o26]
theorem strong {P : Program} {ops : Array Oper} {Q : Exit → Act → World → Prop} {md : Region.Mode} {S S2 : World → Prop} (hs : ∀ W, S2 W → S W) : ∀ (fuel : Nat) (listed : Array Bool) (a : Act) (w : World), wpAnyH P md ops Q S2 fuel listed a w → wpAnyH P md ops Q S fuel listed a w
  | 0, _, _, _, h => h
  | fuel + 1, _, _, _, h => ⟨h.1, fun i hi => wpOp_mono (fun a' w' h' => ⟨hs _ h'.1, strong hs fuel _ a' w' h'.2⟩) (h.2 i hi)⟩
theorem keep3 {W : World} {a b : Addr} {x y : Value} (o : Obj) (h : W.cell? a = some x ∧ W.cell? b = some y) : (W.alloc o).cell? a = some x ∧ (W.alloc o).cell? b = some y :=
  ⟨cell_below h.1 ((Below.refl _ W).alloc (Nat.le_refl _) o), cell_below h.2 ((Below.refl _ W).alloc (Nat.le_refl _) o)⟩
theorem keep4 {W : World} {a : Addr} {x : Value} {R : World → Prop} (o : Obj) (h : W.cell? a = some x ∧ R W) (hR : R W → R (W.alloc o)) : (W.alloc o).cell? a = some x ∧ R (W.alloc o) :=
  ⟨cell_below h.1 ((Below.refl _ W).alloc (Nat.le_refl _) o), hR h.2⟩
theorem row_at (W : World) (g : Nat) (L : List Value) (t : TypeId) (r : Nat) (v : Value) (hg : g = W.heap.size) (h : L.toArray[r]? = some v) : (W.alloc (.cells L.toArray t)).cell? ⟨g, r, none⟩ = some v := by subst hg; rw [World.cell?_alloc_new]; exact h
set_option maxHeartbeats 8000000 in
set_option maxRecDepth 1000000 in
theorem region8 (V0 V1 SB TB : ByteArray) (b cp : Nat) (z0 z1 : Int) (r0 r1 : Nat) (w : World) (Q : Exit → Act → World → Prop) (hQ : ∀ c a (d : Nat) v W, Q (.panic c) (Act.put a (some d) v) W → Q (.panic c) a W)
    (c0 : w.cell? ⟨b, 3, none⟩ = some (.int .i64 z0)) (c1 : w.cell? ⟨b, 4, none⟩ = some (.int .i64 z1))
    (e0 : Int.tmod z0 3 = (r0 : Int)) (e1 : Int.tmod z1 3 = (r1 : Int)) (u0 : r0 < 3) (u1 : r1 < 3)
    (v0 : #[Value.string ⟨#[32]⟩, .string ⟨#[10]⟩, .string ⟨#[9, 32, 10, 32]⟩][r0]? = some (.string V0)) (v1 : #[Value.string (((⟨#[34]⟩ : ByteArray) ++ TB) ++ (⟨#[34]⟩ : ByteArray)), .string (((⟨#[39]⟩ : ByteArray) ++ TB) ++ (⟨#[39]⟩ : ByteArray)), .string (((⟨#[40]⟩ : ByteArray) ++ TB) ++ (⟨#[41]⟩ : ByteArray))][r1]? = some (.string V1))
    (y0 : SB.size ≤ 100000) (y1 : TB.size ≤ 1000) (a0 : V0.size ≤ 1000) (a1 : V1.size ≤ 1000)
    (s0 s1 s2 s3 s4 s5 s6 s7 s8 s9 s10 s11 s15 s16 s17 s18 s19 s20 s21 s22 s23 s24 s25 s26 s27 s28 s29 s30 s31 s32 s33 s34 s35 s36 s37 s38 s39 s40 s41 s42 s43 s44 s45 s46 s47 s48 s49 s50 s51 s52 s53 s54 s55 s56 s57 s58 s59 s60 s61 s62 s63 s64 s65 s66 s67 s68 s69 s70 s71 s72 s73 s74 s75 s76 s77 s78 s79 s80 s81 s82 s83 s84 s85 s86 s87 s88 s89 s90 s91 s92 s93 s94 s95 s96 s97 s98 s99 s100 s101 s102 s103 s104 s105 s106 s107 s108 s109 s110 s111 s112 s113 s114 s115 s116 s117 s118 s119 s120 s121 s122 s123 s124 s125 s126 s127 s128 s129 s130 s131 s132 s133 s134 s135 s136 s137 s138 : Value)
    (hpost : ∀ (u64 u65 u66 u67 u68 u69 u70 u71 u72 u73 u74 u75 u76 u77 u78 u79 u80 u81 u82 u83 u84 u85 u86 u87 u88 u89 : Value) (W : World), Below w.heap.size w W → Q .normal ⟨List.toArray (s0 :: s1 :: s2 :: s3 :: s4 :: s5 :: s6 :: s7 :: s8 :: s9 :: s10 :: s11 :: (.string TB) :: (.slice (some ⟨b, 0, none⟩) 6 cp) :: (.string ((SB ++ V0) ++ V1)) :: s15 :: s16 :: s17 :: s18 :: s19 :: s20 :: s21 :: s22 :: s23 :: s24 :: s25 :: s26 :: s27 :: s28 :: s29 :: s30 :: s31 :: s32 :: s33 :: s34 :: s35 :: s36 :: s37 :: s38 :: s39 :: s40 :: s41 :: s42 :: s43 :: s44 :: s45 :: s46 :: s47 :: s48 :: s49 :: s50 :: s51 :: s52 :: s53 :: s54 :: s55 :: s56 :: s57 :: s58 :: s59 :: s60 :: s61 :: s62 :: s63 :: u64 :: u65 :: u66 :: u67 :: u68 :: u69 :: u70 :: u71 :: u72 :: u73 :: u74 :: u75 :: u76 :: u77 :: u78 :: u79 :: u80 :: u81 :: u82 :: u83 :: u84 :: u85 :: u86 :: u87 :: u88 :: u89 :: s90 :: s91 :: s92 :: s93 :: s94 :: s95 :: s96 :: s97 :: s98 :: s99 :: s100 :: s101 :: s102 :: s103 :: s104 :: s105 :: s106 :: s107 :: s108 :: s109 :: s110 :: s111 :: s112 :: s113 :: s114 :: s115 :: s116 :: s117 :: s118 :: s119 :: s120 :: s121 :: s122 :: s123 :: s124 :: s125 :: s126 :: s127 :: s128 :: s129 :: s130 :: s131 :: s132 :: s133 :: s134 :: s135 :: s136 :: s137 :: s138 :: []), []⟩ W) :
    (Code.region 8 opsS true).wp Tryz.prog Q ⟨List.toArray (s0 :: s1 :: s2 :: s3 :: s4 :: s5 :: s6 :: s7 :: s8 :: s9 :: s10 :: s11 :: (.string TB) :: (.slice (some ⟨b, 0, none⟩) 6 cp) :: (.string SB) :: s15 :: s16 :: s17 :: s18 :: s19 :: s20 :: s21 :: s22 :: s23 :: s24 :: s25 :: s26 :: s27 :: s28 :: s29 :: s30 :: s31 :: s32 :: s33 :: s34 :: s35 :: s36 :: s37 :: s38 :: s39 :: s40 :: s41 :: s42 :: s43 :: s44 :: s45 :: s46 :: s47 :: s48 :: s49 :: s50 :: s51 :: s52 :: s53 :: s54 :: s55 :: s56 :: s57 :: s58 :: s59 :: s60 :: s61 :: s62 :: s63 :: s64 :: s65 :: s66 :: s67 :: s68 :: s69 :: s70 :: s71 :: s72 :: s73 :: s74 :: s75 :: s76 :: s77 :: s78 :: s79 :: s80 :: s81 :: s82 :: s83 :: s84 :: s85 :: s86 :: s87 :: s88 :: s89 :: s90 :: s91 :: s92 :: s93 :: s94 :: s95 :: s96 :: s97 :: s98 :: s99 :: s100 :: s101 :: s102 :: s103 :: s104 :: s105 :: s106 :: s107 :: s108 :: s109 :: s110 :: s111 :: s112 :: s113 :: s114 :: s115 :: s116 :: s117 :: s118 :: s119 :: s120 :: s121 :: s122 :: s123 :: s124 :: s125 :: s126 :: s127 :: s128 :: s129 :: s130 :: s131 :: s132 :: s133 :: s134 :: s135 :: s136 :: s137 :: s138 :: []), []⟩ w := by
  have i0 : (0 : Int) ≤ (r0 : Int) := by omega
  have i1 : (0 : Int) ≤ (r1 : Int) := by omega
  have j0 : (r0 : Int) < 3 := by omega
  have j1 : (r1 : Int) < 3 := by omega
  have k0 : ¬ 9223372036854775807 < SB.size + V0.size := by omega
  have k1 : ¬ 9223372036854775807 < 1 + TB.size := by omega
  have k2 : ¬ 9223372036854775807 < 1 + TB.size + 1 := by omega
  have k3 : ¬ 9223372036854775807 < SB.size + V0.size + V1.size := by omega
  clear y0 y1 a0 a1
  have hH : (fun W => W.cell? ⟨b, 3, none⟩ = some (.int .i64 z0) ∧ W.cell? ⟨b, 4, none⟩ = some (.int .i64 z1)) w.drew := ⟨cell_below c0 (Below.refl _ w).drew, cell_below c1 (Below.refl _ w).drew⟩
  clear c0 c1
  refine wp_region_held_drew (S := fun W => W.cell? ⟨b, 3, none⟩ = some (.int .i64 z0) ∧ W.cell? ⟨b, 4, none⟩ = some (.int .i64 z1)) (by kernel_rfl) hH (fun hHeld => ?_)
  clear hHeld
  show wpAnyH _ _ _ _ _ 27 _ _ _
  refine wpAnyH_take (fuel := 26) (i := 0) (oi := o0) (v := ?v1) rfl (by kernel_rfl) (by kernel_rfl) (by kernel_rfl) (fun _ _ _ h => hQ _ _ _ _ _ h) (.inl ⟨by rfl, ?h1⟩) hH ?r1
  case h1 => intro W hW; (try dsimp only at hW); go_simp; try with_reducible rfl
  simp only [o0, Act.put, List.setIfInBounds_toArray, List.set_cons_zero, List.set_cons_succ]
  refine wpAnyH_take (fuel := 25) (i := 2) (oi := o2) (v := ?v2) rfl (by kernel_rfl) (by kernel_rfl) (by kernel_rfl) (fun _ _ _ h => hQ _ _ _ _ _ h) (.inl ⟨by rfl, ?h2⟩) hH ?r2
  case h2 => intro W hW; (try dsimp only at hW); go_simp; try with_reducible rfl
  simp only [o2, Act.put, List.setIfInBounds_toArray, List.set_cons_zero, List.set_cons_succ]
  refine wpAnyH_take (fuel := 24) (i := 3) (oi := o3) (v := ?v3) rfl (by kernel_rfl) (by kernel_rfl) (by kernel_rfl) (fun _ _ _ h => hQ _ _ _ _ _ h) (.inl ⟨by rfl, ?h3⟩) hH ?r3
  case h3 => intro W hW; (try dsimp only at hW); go_simp; try with_reducible rfl
  simp only [o3, Act.put, List.setIfInBounds_toArray, List.set_cons_zero, List.set_cons_succ]
  refine wpAnyH_take (fuel := 23) (i := 4) (oi := o4) (v := ?v4) rfl (by kernel_rfl) (by kernel_rfl) (by kernel_rfl) (fun _ _ _ h => hQ _ _ _ _ _ h) (.inl ⟨by rfl, ?h4⟩) hH ?r4
  case h4 => intro W hW; (try dsimp only at hW); go_simp; try with_reducible rfl
  simp only [o4, Act.put, List.setIfInBounds_toArray, List.set_cons_zero, List.set_cons_succ]
  refine wpAnyH_take (fuel := 22) (i := 5) (oi := o5) (v := ?v5) rfl (by kernel_rfl) (by kernel_rfl) (by kernel_rfl) (fun _ _ _ h => hQ _ _ _ _ _ h) (.inl ⟨by rfl, ?h5⟩) hH ?r5
  case h5 => intro W hW; (try dsimp only at hW); go_simp; try with_reducible rfl
  simp only [o5, Act.put, List.setIfInBounds_toArray, List.set_cons_zero, List.set_cons_succ]
  refine wpAnyH_take (fuel := 21) (i := 9) (oi := o9) (v := ?v6) rfl (by kernel_rfl) (by kernel_rfl) (by kernel_rfl) (fun _ _ _ h => hQ _ _ _ _ _ h) (.inl ⟨by rfl, ?h6⟩) hH ?r6
  case h6 => intro W hW; (try dsimp only at hW); go_simp; try with_reducible rfl
  simp only [o9, Act.put, List.setIfInBounds_toArray, List.set_cons_zero, List.set_cons_succ]
  refine wpAnyH_take (fuel := 20) (i := 10) (oi := o10) (v := ?v7) rfl (by kernel_rfl) (by kernel_rfl) (by kernel_rfl) (fun _ _ _ h => hQ _ _ _ _ _ h) (.inl ⟨by rfl, ?h7⟩) hH ?r7
  case h7 => intro W hW; (try dsimp only at hW); go_simp; try with_reducible rfl
  simp only [o10, Act.put, List.setIfInBounds_toArray, List.set_cons_zero, List.set_cons_succ]
  refine wpAnyH_take (fuel := 19) (i := 11) (oi := o11) (v := ?v8) rfl (by kernel_rfl) (by kernel_rfl) (by kernel_rfl) (fun _ _ _ h => hQ _ _ _ _ _ h) (.inl ⟨by rfl, ?h8⟩) hH ?r8
  case h8 => intro W hW; (try dsimp only at hW); go_simp; try with_reducible rfl
  simp only [o11, Act.put, List.setIfInBounds_toArray, List.set_cons_zero, List.set_cons_succ]
  refine wpAnyH_take (fuel := 18) (i := 12) (oi := o12) (v := ?v9) rfl (by kernel_rfl) (by kernel_rfl) (by kernel_rfl) (fun _ _ _ h => hQ _ _ _ _ _ h) (.inl ⟨by rfl, ?h9⟩) hH ?r9
  case h9 => intro W hW; (try dsimp only at hW); go_simp; try with_reducible rfl
  simp only [o12, Act.put, List.setIfInBounds_toArray, List.set_cons_zero, List.set_cons_succ]
  refine wpAnyH_take (fuel := 17) (i := 13) (oi := o13) (v := ?v10) rfl (by kernel_rfl) (by kernel_rfl) (by kernel_rfl) (fun _ _ _ h => hQ _ _ _ _ _ h) (.inl ⟨by rfl, ?h10⟩) hH ?r10
  case h10 => intro W hW; (try dsimp only at hW); go_simp; try with_reducible rfl
  simp only [o13, Act.put, List.setIfInBounds_toArray, List.set_cons_zero, List.set_cons_succ]
  refine wpAnyH_take (fuel := 16) (i := 14) (oi := o14) (v := ?v11) rfl (by kernel_rfl) (by kernel_rfl) (by kernel_rfl) (fun _ _ _ h => hQ _ _ _ _ _ h) (.inl ⟨by rfl, ?h11⟩) hH ?r11
  case h11 => intro W hW; (try dsimp only at hW); go_simp; try with_reducible rfl
  simp only [o14, Act.put, List.setIfInBounds_toArray, List.set_cons_zero, List.set_cons_succ]
  refine wpAnyH_take (fuel := 15) (i := 15) (oi := o15) (v := ?v12) rfl (by kernel_rfl) (by kernel_rfl) (by kernel_rfl) (fun _ _ _ h => hQ _ _ _ _ _ h) (.inl ⟨by rfl, ?h12⟩) hH ?r12
  case h12 => intro W hW; (try dsimp only at hW); go_simp; try with_reducible rfl
  simp only [o15, Act.put, List.setIfInBounds_toArray, List.set_cons_zero, List.set_cons_succ]
  refine wpAnyH_take (fuel := 14) (i := 16) (oi := o16) (v := ?v13) rfl (by kernel_rfl) (by kernel_rfl) (by kernel_rfl) (fun _ _ _ h => hQ _ _ _ _ _ h) (.inl ⟨by rfl, ?h13⟩) hH ?r13
  case h13 => intro W hW; (try dsimp only at hW); go_simp; try with_reducible rfl
  simp only [o16, Act.put, List.setIfInBounds_toArray, List.set_cons_zero, List.set_cons_succ]
  refine wpAnyH_take (fuel := 13) (i := 17) (oi := o17) (v := ?v14) rfl (by kernel_rfl) (by kernel_rfl) (by kernel_rfl) (fun _ _ _ h => hQ _ _ _ _ _ h) (.inl ⟨by rfl, ?h14⟩) hH ?r14
  case h14 => intro W hW; (try dsimp only at hW); go_simp; try with_reducible rfl
  simp only [o17, Act.put, List.setIfInBounds_toArray, List.set_cons_zero, List.set_cons_succ]
  refine wpAnyH_take (fuel := 12) (i := 19) (oi := o19) (v := ?v15) rfl (by kernel_rfl) (by kernel_rfl) (by kernel_rfl) (fun _ _ _ h => hQ _ _ _ _ _ h) (.inl ⟨by rfl, ?h15⟩) hH ?r15
  case h15 => intro W hW; (try dsimp only at hW); go_simp; try with_reducible rfl
  simp only [o19, Act.put, List.setIfInBounds_toArray, List.set_cons_zero, List.set_cons_succ]
  refine wpAnyH_take (fuel := 11) (i := 20) (oi := o20) (v := ?v16) rfl (by kernel_rfl) (by kernel_rfl) (by kernel_rfl) (fun _ _ _ h => hQ _ _ _ _ _ h) (.inl ⟨by rfl, ?h16⟩) hH ?r16
  case h16 => intro W hW; (try dsimp only at hW); go_simp; try with_reducible rfl
  simp only [o20, Act.put, List.setIfInBounds_toArray, List.set_cons_zero, List.set_cons_succ]
  refine wpAnyH_take (fuel := 10) (i := 21) (oi := o21) (v := ?v17) rfl (by kernel_rfl) (by kernel_rfl) (by kernel_rfl) (fun _ _ _ h => hQ _ _ _ _ _ h) (.inl ⟨by rfl, ?h17⟩) hH ?r17
  case h17 => intro W hW; (try dsimp only at hW); go_simp; try with_reducible rfl
  simp only [o21, Act.put, List.setIfInBounds_toArray, List.set_cons_zero, List.set_cons_succ]
  refine wpAnyH_take (fuel := 9) (i := 22) (oi := o22) (v := ?v18) rfl (by kernel_rfl) (by kernel_rfl) (by kernel_rfl) (fun _ _ _ h => hQ _ _ _ _ _ h) (.inl ⟨by rfl, ?h18⟩) hH ?r18
  case h18 => intro W hW; (try dsimp only at hW); go_simp; try with_reducible rfl
  simp only [o22, Act.put, List.setIfInBounds_toArray, List.set_cons_zero, List.set_cons_succ]
  refine wpAnyH_ready (fuel := 8) (rs := [1, 18]) (by kernel_rfl) (by simp) ?_
  refine AllReadyH.cons (o := o1) rfl (fun K hK => ?_) ?_
  · go_simp
    refine hK.out _ _ ?_ (fun hHeld => ?_)
    · exact (keep3 _) hH
    clear hK K
    try simp only [o1, Act.put, List.setIfInBounds_toArray, List.set_cons_zero, List.set_cons_succ]
    have hN : ((w.drew.alloc (.cells #[Value.string ⟨#[32]⟩, .string ⟨#[10]⟩, .string ⟨#[9, 32, 10, 32]⟩] 9))).cell? ⟨w.heap.size, r0, none⟩ = some (.string V0) := row_at w.drew _ _ _ _ _ (by simp) v0
    refine strong (S2 := fun W => W.cell? ⟨w.heap.size, r0, none⟩ = some (.string V0) ∧ (W.cell? ⟨b, 3, none⟩ = some (.int .i64 z0) ∧ W.cell? ⟨b, 4, none⟩ = some (.int .i64 z1))) (fun _ h => h.2) _ _ _ _ ?_
    replace hH : (fun W => W.cell? ⟨w.heap.size, r0, none⟩ = some (.string V0) ∧ (W.cell? ⟨b, 3, none⟩ = some (.int .i64 z0) ∧ W.cell? ⟨b, 4, none⟩ = some (.int .i64 z1))) (w.drew.alloc (.cells #[Value.string ⟨#[32]⟩, .string ⟨#[10]⟩, .string ⟨#[9, 32, 10, 32]⟩] 9)) := ⟨hN, hHeld⟩
    clear hN hHeld
    refine wpAnyH_take (fuel := 7) (i := 6) (oi := o6) (v := ?v19) rfl (by kernel_rfl) (by kernel_rfl) (by kernel_rfl) (fun _ _ _ h => hQ _ _ _ _ _ h) (.inl ⟨by rfl, ?h19⟩) hH ?r19
    case h19 => intro W hW; (try dsimp only at hW); go_simp; try with_reducible rfl
    simp only [o6, Act.put, List.setIfInBounds_toArray, List.set_cons_zero, List.set_cons_succ]
    refine wpAnyH_take (fuel := 6) (i := 7) (oi := o7) (v := ?v20) rfl (by kernel_rfl) (by kernel_rfl) (by kernel_rfl) (fun _ _ _ h => hQ _ _ _ _ _ h) (.inl ⟨by rfl, ?h20⟩) hH ?r20
    case h20 => intro W hW; (try dsimp only at hW); go_simp; try with_reducible rfl
    simp only [o7, Act.put, List.setIfInBounds_toArray, List.set_cons_zero, List.set_cons_succ]
    refine wpAnyH_take (fuel := 5) (i := 8) (oi := o8) (v := ?v21) rfl (by kernel_rfl) (by kernel_rfl) (by kernel_rfl) (fun _ _ _ h => hQ _ _ _ _ _ h) (.inl ⟨by rfl, ?h21⟩) hH ?r21
    case h21 => intro W hW; (try dsimp only at hW); go_simp; try with_reducible rfl
    simp only [o8, Act.put, List.setIfInBounds_toArray, List.set_cons_zero, List.set_cons_succ]
    refine wpAnyH_ready (fuel := 4) (rs := [18]) (by kernel_rfl) (by simp) ?_
    refine AllReadyH.cons (o := o18) rfl (fun K hK => ?_) ?_
    · go_simp
      refine hK.out _ _ ?_ (fun hHeld => ?_)
      · exact (fun h => keep4 (R := fun W => W.cell? ⟨b, 3, none⟩ = some (.int .i64 z0) ∧ W.cell? ⟨b, 4, none⟩ = some (.int .i64 z1)) _ h (keep3 _)) hH
      clear hK K
      try simp only [o18, Act.put, List.setIfInBounds_toArray, List.set_cons_zero, List.set_cons_succ]
      have hN : (((w.drew.alloc (.cells #[Value.string ⟨#[32]⟩, .string ⟨#[10]⟩, .string ⟨#[9, 32, 10, 32]⟩] 9)).alloc (.cells #[Value.string (((⟨#[34]⟩ : ByteArray) ++ TB) ++ (⟨#[34]⟩ : ByteArray)), .string (((⟨#[39]⟩ : ByteArray) ++ TB) ++ (⟨#[39]⟩ : ByteArray)), .string (((⟨#[40]⟩ : ByteArray) ++ TB) ++ (⟨#[41]⟩ : ByteArray))] 9))).cell? ⟨w.heap.size + 1, r1, none⟩ = some (.string V1) := row_at (w.drew.alloc (.cells #[Value.string ⟨#[32]⟩, .string ⟨#[10]⟩, .string ⟨#[9, 32, 10, 32]⟩] 9)) _ _ _ _ _ (by simp) v1
      refine strong (S2 := fun W => W.cell? ⟨w.heap.size + 1, r1, none⟩ = some (.string V1) ∧ (W.cell? ⟨w.heap.size, r0, none⟩ = some (.string V0) ∧ (W.cell? ⟨b, 3, none⟩ = some (.int .i64 z0) ∧ W.cell? ⟨b, 4, none⟩ = some (.int .i64 z1)))) (fun _ h => h.2) _ _ _ _ ?_
      replace hH : (fun W => W.cell? ⟨w.heap.size + 1, r1, none⟩ = some (.string V1) ∧ (W.cell? ⟨w.heap.size, r0, none⟩ = some (.string V0) ∧ (W.cell? ⟨b, 3, none⟩ = some (.int .i64 z0) ∧ W.cell? ⟨b, 4, none⟩ = some (.int .i64 z1)))) ((w.drew.alloc (.cells #[Value.string ⟨#[32]⟩, .string ⟨#[10]⟩, .string ⟨#[9, 32, 10, 32]⟩] 9)).alloc (.cells #[Value.string (((⟨#[34]⟩ : ByteArray) ++ TB) ++ (⟨#[34]⟩ : ByteArray)), .string (((⟨#[39]⟩ : ByteArray) ++ TB) ++ (⟨#[39]⟩ : ByteArray)), .string (((⟨#[40]⟩ : ByteArray) ++ TB) ++ (⟨#[41]⟩ : ByteArray))] 9)) := ⟨hN, hHeld⟩
      clear hN hHeld
      refine wpAnyH_take (fuel := 3) (i := 23) (oi := o23) (v := ?v22) rfl (by kernel_rfl) (by kernel_rfl) (by kernel_rfl) (fun _ _ _ h => hQ _ _ _ _ _ h) (.inl ⟨by rfl, ?h22⟩) hH ?r22
      case h22 => intro W hW; (try dsimp only at hW); go_simp; try with_reducible rfl
      simp only [o23, Act.put, List.setIfInBounds_toArray, List.set_cons_zero, List.set_cons_succ]
      refine wpAnyH_take (fuel := 2) (i := 24) (oi := o24) (v := ?v23) rfl (by kernel_rfl) (by kernel_rfl) (by kernel_rfl) (fun _ _ _ h => hQ _ _ _ _ _ h) (.inl ⟨by rfl, ?h23⟩) hH ?r23
      case h23 => intro W hW; (try dsimp only at hW); go_simp; try with_reducible rfl
      simp only [o24, Act.put, List.setIfInBounds_toArray, List.set_cons_zero, List.set_cons_succ]
      refine wpAnyH_take (fuel := 1) (i := 25) (oi := o25) (v := ?v24) rfl (by kernel_rfl) (by kernel_rfl) (by kernel_rfl) (fun _ _ _ h => hQ _ _ _ _ _ h) (.inl ⟨by rfl, ?h24⟩) hH ?r24
      case h24 => intro W hW; (try dsimp only at hW); go_simp; try with_reducible rfl
      simp only [o25, Act.put, List.setIfInBounds_toArray, List.set_cons_zero, List.set_cons_succ]
      refine wpAnyH_take (fuel := 0) (i := 26) (oi := o26) (v := ?v25) rfl (by kernel_rfl) (by kernel_rfl) (by kernel_rfl) (fun _ _ _ h => hQ _ _ _ _ _ h) (.inl ⟨by rfl, ?h25⟩) hH ?r25
      case h25 => intro W hW; (try dsimp only at hW); go_simp; try with_reducible rfl
      simp only [o26, Act.put, List.setIfInBounds_toArray, List.set_cons_zero, List.set_cons_succ]
      refine wpAnyH_done (by kernel_rfl) ?_ _
      exact hpost _ _ _ _ _ _ _ _ _ _ _ _ _ _ _ _ _ _ _ _ _ _ _ _ _ _ _ (by repeat (first | exact Below.refl _ _ | refine Below.drew ?_ | refine Below.alloc ?_ (by first | (simp; done) | (simp; omega)) _))
    exact AllReadyH.nil
  refine AllReadyH.cons (o := o18) rfl (fun K hK => ?_) ?_
  · go_simp
    refine hK.out _ _ ?_ (fun hHeld => ?_)
    · exact (keep3 _) hH
    clear hK K
    try simp only [o18, Act.put, List.setIfInBounds_toArray, List.set_cons_zero, List.set_cons_succ]
    have hN : ((w.drew.alloc (.cells #[Value.string (((⟨#[34]⟩ : ByteArray) ++ TB) ++ (⟨#[34]⟩ : ByteArray)), .string (((⟨#[39]⟩ : ByteArray) ++ TB) ++ (⟨#[39]⟩ : ByteArray)), .string (((⟨#[40]⟩ : ByteArray) ++ TB) ++ (⟨#[41]⟩ : ByteArray))] 9))).cell? ⟨w.heap.size, r1, none⟩ = some (.string V1) := row_at w.drew _ _ _ _ _ (by simp) v1
    refine strong (S2 := fun W => W.cell? ⟨w.heap.size, r1, none⟩ = some (.string V1) ∧ (W.cell? ⟨b, 3, none⟩ = some (.int .i64 z0) ∧ W.cell? ⟨b, 4, none⟩ = some (.int .i64 z1))) (fun _ h => h.2) _ _ _ _ ?_
    replace hH : (fun W => W.cell? ⟨w.heap.size, r1, none⟩ = some (.string V1) ∧ (W.cell? ⟨b, 3, none⟩ = some (.int .i64 z0) ∧ W.cell? ⟨b, 4, none⟩ = some (.int .i64 z1))) (w.drew.alloc (.cells #[Value.string (((⟨#[34]⟩ : ByteArray) ++ TB) ++ (⟨#[34]⟩ : ByteArray)), .string (((⟨#[39]⟩ : ByteArray) ++ TB) ++ (⟨#[39]⟩ : ByteArray)), .string (((⟨#[40]⟩ : ByteArray) ++ TB) ++ (⟨#[41]⟩ : ByteArray))] 9)) := ⟨hN, hHeld⟩
    clear hN hHeld
    refine wpAnyH_take (fuel := 7) (i := 23) (oi := o23) (v := ?v26) rfl (by kernel_rfl) (by kernel_rfl) (by kernel_rfl) (fun _ _ _ h => hQ _ _ _ _ _ h) (.inl ⟨by rfl, ?h26⟩) hH ?r26
    case h26 => intro W hW; (try dsimp only at hW); go_simp; try with_reducible rfl
    simp only [o23, Act.put, List.setIfInBounds_toArray, List.set_cons_zero, List.set_cons_succ]
    refine wpAnyH_take (fuel := 6) (i := 24) (oi := o24) (v := ?v27) rfl (by kernel_rfl) (by kernel_rfl) (by kernel_rfl) (fun _ _ _ h => hQ _ _ _ _ _ h) (.inl ⟨by rfl, ?h27⟩) hH ?r27
    case h27 => intro W hW; (try dsimp only at hW); go_simp; try with_reducible rfl
    simp only [o24, Act.put, List.setIfInBounds_toArray, List.set_cons_zero, List.set_cons_succ]
    refine wpAnyH_ready (fuel := 5) (rs := [1]) (by kernel_rfl) (by simp) ?_
    refine AllReadyH.cons (o := o1) rfl (fun K hK => ?_) ?_
    · go_simp
      refine hK.out _ _ ?_ (fun hHeld => ?_)
      · exact (fun h => keep4 (R := fun W => W.cell? ⟨b, 3, none⟩ = some (.int .i64 z0) ∧ W.cell? ⟨b, 4, none⟩ = some (.int .i64 z1)) _ h (keep3 _)) hH
      clear hK K
      try simp only [o1, Act.put, List.setIfInBounds_toArray, List.set_cons_zero, List.set_cons_succ]
      have hN : (((w.drew.alloc (.cells #[Value.string (((⟨#[34]⟩ : ByteArray) ++ TB) ++ (⟨#[34]⟩ : ByteArray)), .string (((⟨#[39]⟩ : ByteArray) ++ TB) ++ (⟨#[39]⟩ : ByteArray)), .string (((⟨#[40]⟩ : ByteArray) ++ TB) ++ (⟨#[41]⟩ : ByteArray))] 9)).alloc (.cells #[Value.string ⟨#[32]⟩, .string ⟨#[10]⟩, .string ⟨#[9, 32, 10, 32]⟩] 9))).cell? ⟨w.heap.size + 1, r0, none⟩ = some (.string V0) := row_at (w.drew.alloc (.cells #[Value.string (((⟨#[34]⟩ : ByteArray) ++ TB) ++ (⟨#[34]⟩ : ByteArray)), .string (((⟨#[39]⟩ : ByteArray) ++ TB) ++ (⟨#[39]⟩ : ByteArray)), .string (((⟨#[40]⟩ : ByteArray) ++ TB) ++ (⟨#[41]⟩ : ByteArray))] 9)) _ _ _ _ _ (by simp) v0
      refine strong (S2 := fun W => W.cell? ⟨w.heap.size + 1, r0, none⟩ = some (.string V0) ∧ (W.cell? ⟨w.heap.size, r1, none⟩ = some (.string V1) ∧ (W.cell? ⟨b, 3, none⟩ = some (.int .i64 z0) ∧ W.cell? ⟨b, 4, none⟩ = some (.int .i64 z1)))) (fun _ h => h.2) _ _ _ _ ?_
      replace hH : (fun W => W.cell? ⟨w.heap.size + 1, r0, none⟩ = some (.string V0) ∧ (W.cell? ⟨w.heap.size, r1, none⟩ = some (.string V1) ∧ (W.cell? ⟨b, 3, none⟩ = some (.int .i64 z0) ∧ W.cell? ⟨b, 4, none⟩ = some (.int .i64 z1)))) ((w.drew.alloc (.cells #[Value.string (((⟨#[34]⟩ : ByteArray) ++ TB) ++ (⟨#[34]⟩ : ByteArray)), .string (((⟨#[39]⟩ : ByteArray) ++ TB) ++ (⟨#[39]⟩ : ByteArray)), .string (((⟨#[40]⟩ : ByteArray) ++ TB) ++ (⟨#[41]⟩ : ByteArray))] 9)).alloc (.cells #[Value.string ⟨#[32]⟩, .string ⟨#[10]⟩, .string ⟨#[9, 32, 10, 32]⟩] 9)) := ⟨hN, hHeld⟩
      clear hN hHeld
      refine wpAnyH_take (fuel := 4) (i := 6) (oi := o6) (v := ?v28) rfl (by kernel_rfl) (by kernel_rfl) (by kernel_rfl) (fun _ _ _ h => hQ _ _ _ _ _ h) (.inl ⟨by rfl, ?h28⟩) hH ?r28
      case h28 => intro W hW; (try dsimp only at hW); go_simp; try with_reducible rfl
      simp only [o6, Act.put, List.setIfInBounds_toArray, List.set_cons_zero, List.set_cons_succ]
      refine wpAnyH_take (fuel := 3) (i := 7) (oi := o7) (v := ?v29) rfl (by kernel_rfl) (by kernel_rfl) (by kernel_rfl) (fun _ _ _ h => hQ _ _ _ _ _ h) (.inl ⟨by rfl, ?h29⟩) hH ?r29
      case h29 => intro W hW; (try dsimp only at hW); go_simp; try with_reducible rfl
      simp only [o7, Act.put, List.setIfInBounds_toArray, List.set_cons_zero, List.set_cons_succ]
      refine wpAnyH_take (fuel := 2) (i := 8) (oi := o8) (v := ?v30) rfl (by kernel_rfl) (by kernel_rfl) (by kernel_rfl) (fun _ _ _ h => hQ _ _ _ _ _ h) (.inl ⟨by rfl, ?h30⟩) hH ?r30
      case h30 => intro W hW; (try dsimp only at hW); go_simp; try with_reducible rfl
      simp only [o8, Act.put, List.setIfInBounds_toArray, List.set_cons_zero, List.set_cons_succ]
      refine wpAnyH_take (fuel := 1) (i := 25) (oi := o25) (v := ?v31) rfl (by kernel_rfl) (by kernel_rfl) (by kernel_rfl) (fun _ _ _ h => hQ _ _ _ _ _ h) (.inl ⟨by rfl, ?h31⟩) hH ?r31
      case h31 => intro W hW; (try dsimp only at hW); go_simp; try with_reducible rfl
      simp only [o25, Act.put, List.setIfInBounds_toArray, List.set_cons_zero, List.set_cons_succ]
      refine wpAnyH_take (fuel := 0) (i := 26) (oi := o26) (v := ?v32) rfl (by kernel_rfl) (by kernel_rfl) (by kernel_rfl) (fun _ _ _ h => hQ _ _ _ _ _ h) (.inl ⟨by rfl, ?h32⟩) hH ?r32
      case h32 => intro W hW; (try dsimp only at hW); go_simp; try with_reducible rfl
      simp only [o26, Act.put, List.setIfInBounds_toArray, List.set_cons_zero, List.set_cons_succ]
      refine wpAnyH_done (by kernel_rfl) ?_ _
      exact hpost _ _ _ _ _ _ _ _ _ _ _ _ _ _ _ _ _ _ _ _ _ _ _ _ _ _ _ (by repeat (first | exact Below.refl _ _ | refine Below.drew ?_ | refine Below.alloc ?_ (by first | (simp; done) | (simp; omega)) _))
    exact AllReadyH.nil
  exact AllReadyH.nil
end Go.Proofs.YthdlibgiejpjeaaGreatDoor.DefS

/- LinkDefines: the law's walk, over what its calls answer. -/
set_option linter.unusedVariables false
set_option linter.unusedSimpArgs false
namespace Go.Proofs.YthdlibgiejpjeaaGreatDoor.DefW
open Go Go.RowKit Go.Proofs.YthdlibgiejpjeaaGreatDoor Go.Proofs.YthdlibgiejpjeaaGreatDoor.Given Go.Proofs.YthdlibgiejpjeaaGreatDoorW.PrintWords Go.Proofs.YthdlibgiejpjeaaGreatDoor.Spec Go.Proofs.YthdlibgiejpjeaaGreatDoor.PureAid
/-- Six cells at the head of a block. -/
def At6 (b : Nat) (z0 z1 z2 z3 z4 z5 : Int) (W : World) : Prop :=
  W.cell? ⟨b, 0, none⟩ = some (.int .i64 z0) ∧ W.cell? ⟨b, 1, none⟩ = some (.int .i64 z1) ∧ W.cell? ⟨b, 2, none⟩ = some (.int .i64 z2) ∧ W.cell? ⟨b, 3, none⟩ = some (.int .i64 z3) ∧ W.cell? ⟨b, 4, none⟩ = some (.int .i64 z4) ∧ W.cell? ⟨b, 5, none⟩ = some (.int .i64 z5)
theorem At6.below {b : Nat} {z0 z1 z2 z3 z4 z5 : Int} {W W' : World} (h : At6 b z0 z1 z2 z3 z4 z5 W) (hb : Below W.heap.size W W') : At6 b z0 z1 z2 z3 z4 z5 W' :=
  ⟨cell_below h.1 hb, cell_below h.2.1 hb, cell_below h.2.2.1 hb, cell_below h.2.2.2.1 hb, cell_below h.2.2.2.2.1 hb, cell_below h.2.2.2.2.2 hb⟩
theorem ne_isEmpty (F : ByteArray) (h : F ≠ ⟨#[]⟩) : F.toList.isEmpty = false := by
  rw [Lib.toList_data, List.isEmpty_eq_false_iff]
  intro e
  obtain ⟨⟨l⟩⟩ := F
  replace e : l = [] := e
  subst e
  exact h rfl
theorem get_of (L : List Value) (r : Nat) (v : Value) (h : L.toArray[r]? = some v) : ∀ h' : r < L.length, L[r]'h' = v := fun h' => by
  rw [List.getElem?_toArray, List.getElem?_eq_getElem h'] at h
  exact Option.some.inj h
set_option maxHeartbeats 8000000 in
set_option maxRecDepth 1000000 in
theorem defines_core (X0 X1 X2 Lp Dp Tp V0 V1 V2 V3 V4 V5 S1 S2 S3 F : ByteArray) (ga : Option Addr) (gl gc : Nat) (z0 z1 z2 z3 z4 z5 : Int) (r0 r1 r2 r3 r4 r5 : Nat) (w : World) (hG : GW w)
    (hsh : ∀ W, GW W → Calls Tryz.prog 41 #[] W fun e w' => e = .returned (.bool true) ∧ Below W.heap.size W w')
    (hp0 : ∀ W, GW W → Calls Tryz.prog 47 #[.string X0, .int .i64 100] W fun e w' => e = .returned (.string Lp) ∧ Below W.heap.size W w')
    (hp1 : ∀ W, GW W → Calls Tryz.prog 47 #[.string X1, .int .i64 300] W fun e w' => e = .returned (.string Dp) ∧ Below W.heap.size W w')
    (hp2 : ∀ W, GW W → Calls Tryz.prog 47 #[.string X2, .int .i64 300] W fun e w' => e = .returned (.string Tp) ∧ Below W.heap.size W w')
    (hsix : ∀ W, GW W → Below w.heap.size w W → Calls Tryz.prog 48 #[.slice ga gl gc] W fun e w' => ∃ b cp, e = .returned (.slice (some ⟨b, 0, none⟩) 6 cp) ∧ At6 b z0 z1 z2 z3 z4 z5 w' ∧ Below W.heap.size W w')
    (e0 : Int.tmod z0 3 = (r0 : Int)) (e1 : Int.tmod z1 4 = (r1 : Int)) (e2 : Int.tmod z2 2 = (r2 : Int)) (e3 : Int.tmod z3 3 = (r3 : Int)) (e4 : Int.tmod z4 3 = (r4 : Int)) (e5 : Int.tmod z5 3 = (r5 : Int))
    (u0 : r0 < 3) (u1 : r1 < 4) (u2 : r2 < 2) (u3 : r3 < 3) (u4 : r4 < 3) (u5 : r5 < 3)
    (v0 : #[Value.string ⟨#[]⟩, .string ⟨#[32]⟩, .string ⟨#[32, 32, 32]⟩][r0]? = some (.string V0))
    (v1 : #[Value.string ⟨#[]⟩, .string ⟨#[32]⟩, .string ⟨#[10]⟩, .string ⟨#[32, 9, 10, 32, 32]⟩][r1]? = some (.string V1))
    (v2 : #[Value.string ((⟨#[100]⟩ : ByteArray) ++ Dp), .string (((⟨#[60]⟩ : ByteArray) ++ ((⟨#[100]⟩ : ByteArray) ++ Dp)) ++ (⟨#[62]⟩ : ByteArray))][r2]? = some (.string V2))
    (v3 : #[Value.string ⟨#[32]⟩, .string ⟨#[10]⟩, .string ⟨#[9, 32, 10, 32]⟩][r3]? = some (.string V3))
    (v4 : #[Value.string (((⟨#[34]⟩ : ByteArray) ++ Tp) ++ (⟨#[34]⟩ : ByteArray)), .string (((⟨#[39]⟩ : ByteArray) ++ Tp) ++ (⟨#[39]⟩ : ByteArray)), .string (((⟨#[40]⟩ : ByteArray) ++ Tp) ++ (⟨#[41]⟩ : ByteArray))][r4]? = some (.string V4))
    (v5 : #[Value.string ⟨#[]⟩, .string ⟨#[32]⟩, .string ⟨#[32, 9]⟩][r5]? = some (.string V5))
    (hS1 : ((((V0 ++ (⟨#[91]⟩ : ByteArray)) ++ ((⟨#[108]⟩ : ByteArray) ++ Lp)) ++ (⟨#[93, 58]⟩ : ByteArray)) ++ V1) ++ V2 = S1)
    (hT0 : Tp = ⟨#[]⟩ → S1 = S2) (hT1 : Tp ≠ ⟨#[]⟩ → (S1 ++ V3) ++ V4 = S2)
    (hS3 : S2 ++ V5 = S3)
    (hD1 : ∀ W, GW W → Calls Tryz.prog 45 #[.string S3] W fun e w' => e = .returned (.tuple #[.agg #[.string F, .string ((⟨#[100]⟩ : ByteArray) ++ Dp), .string Tp], .int .i64 (S3.size : Int)]) ∧ Below W.heap.size W w')
    (hD2 : ∀ W, GW W → Calls Tryz.prog 45 #[.string (S3 ++ (⟨#[10, 109, 111, 114, 101]⟩ : ByteArray))] W fun e w' => e = .returned (.tuple #[.agg #[.string F, .string ((⟨#[100]⟩ : ByteArray) ++ Dp), .string Tp], .int .i64 ((S3.size : Int) + 1)]) ∧ Below W.heap.size W w')
    (hF : ∀ W, GW W → Calls Tryz.prog 46 #[.string ((⟨#[108]⟩ : ByteArray) ++ Lp)] W fun e w' => e = .returned (.string F) ∧ Below W.heap.size W w')
    (y0 : Lp.size ≤ 100) (y1 : Dp.size ≤ 300) (y2 : Tp.size ≤ 300) (a0 : V0.size ≤ 1000) (a1 : V1.size ≤ 1000) (a2 : V2.size ≤ 1000) (a3 : V3.size ≤ 1000) (a4 : V4.size ≤ 1000) (a5 : V5.size ≤ 1000) (s1 : S1.size ≤ 10000) (s2 : S2.size ≤ 20000) (s3 : S3.size ≤ 30000) :
    Calls Tryz.prog 17 #[.string X0, .string X1, .string X2, .slice ga gl gc] w fun e w' => e = .returned (.bool true) ∧ Below w.heap.size w w' := by
  replace hsh := Lib.hid hsh
  replace hp0 := Lib.hid hp0
  replace hp1 := Lib.hid hp1
  replace hp2 := Lib.hid hp2
  replace hsix := Lib.hid hsix
  replace hS1 := Lib.hid hS1
  replace hT0 := Lib.hid hT0
  replace hT1 := Lib.hid hT1
  replace hS3 := Lib.hid hS3
  replace hD1 := Lib.hid hD1
  replace hD2 := Lib.hid hD2
  replace hF := Lib.hid hF
  have e1' := Lib.hid e1; clear e1
  have e2' := Lib.hid e2; clear e2
  have e3' := Lib.hid e3; clear e3
  have e4' := Lib.hid e4; clear e4
  have e5' := Lib.hid e5; clear e5
  have e0' := Lib.hid e0; clear e0
  have v0' := Lib.hid v0; clear v0
  have v1' := Lib.hid v1; clear v1
  have v2' := Lib.hid v2; clear v2
  have v3' := Lib.hid v3; clear v3
  have v4' := Lib.hid v4; clear v4
  have v5' := Lib.hid v5; clear v5
  have k1 : 1 + Lp.size ≤ 9223372036854775807 := by omega
  have k2 : 1 + Dp.size ≤ 9223372036854775807 := by omega
  go_enter Tryz.func17, Tryz.ntmps17
  go_wp2_with fail
  refine (hsh.out _ hG).mono ?_
  rintro e w1 ⟨rfl, hb1⟩
  have hG1 := hG.below hb1
  have hk1 := Lib.hid hb1; clear hb1
  go_wp2_with fail
  refine (hp0.out _ hG1).mono ?_
  rintro e w2 ⟨rfl, hb2⟩
  have hG2 := hG1.below hb2
  have hk2 := Lib.hid (hk1.out.trans (hb2.mono hk1.out.size)); clear hb2
  go_wp2_with fail
  refine (hp1.out _ hG2).mono ?_
  rintro e w3 ⟨rfl, hb3⟩
  have hG3 := hG2.below hb3
  have hk3 := Lib.hid (hk2.out.trans (hb3.mono hk2.out.size)); clear hb3
  go_wp2_with fail
  refine (hp2.out _ hG3).mono ?_
  rintro e w4 ⟨rfl, hb4⟩
  have hG4 := hG3.below hb4
  have hk4 := Lib.hid (hk3.out.trans (hb4.mono hk3.out.size)); clear hb4
  go_wp2_with fail
  refine (hsix.out _ hG4 hk4.out).mono ?_
  rintro e w5 ⟨b, cp, rfl, h6, hb5⟩
  have hG5 := hG4.below hb5
  have hk5 := Lib.hid (hk4.out.trans (hb5.mono hk4.out.size)); clear hb5
  have h6' := Lib.hid h6; clear h6
  clear hk1 hk2 hk3 hk4 hG1 hG2 hG3 hG4
  go_upto_region 6 with fail
  go_cut [14] (fun v wx => v = .string S1 ∧ Below w5.heap.size w5 wx)
  case first =>
    have c0 := h6'.out.1
    have c1 := h6'.out.2.1
    have c2 := h6'.out.2.2.1
    refine DefR.region6 V0 V1 V2 _ _ b cp z0 z1 z2 r0 r1 r2 w5 _ ?hQ c0 c1 c2 e0'.out e1'.out e2'.out u0 u1 u2 v0'.out v1'.out v2'.out (by rw [ByteArray.size_append]; show 1 + Lp.size ≤ 1000; omega) (by rw [ByteArray.size_append]; show 1 + Dp.size ≤ 1000; omega) a0 a1 a2 _ _ _ _ _ _ _ _ _ _ _ _ _ _ _ _ _ _ _ _ _ _ _ _ _ _ _ _ _ _ _ _ _ _ _ _ _ _ _ _ _ _ _ _ _ _ _ _ _ _ _ _ _ _ _ _ _ _ _ _ _ _ _ _ _ _ _ _ _ _ _ _ _ _ _ _ _ _ _ _ _ _ _ _ _ _ _ _ _ _ _ _ _ _ _ _ _ _ _ _ _ _ _ _ _ _ _ _ _ _ _ _ _ _ _ _ _ _ _ _ _ _ _ _ _ _ _ _ _ _ _ _ _ _ _ _ ?hpost
    case hQ => intro c a d v W h; exact h
    intros
    rename_i W hW
    rw [hS1.out]
    go_wp2_with fail
    go_meet
    exact ⟨rfl, hW⟩
  case rest =>
    obtain ⟨rfl, hb6⟩ := hcut
    have hk6 := Lib.hid hb6; clear hb6
    go_upto_if 63 with fail
    go_cut [14] (fun v wx => v = .string S2 ∧ Below w5.heap.size w5 wx)
    case first =>
      by_cases hT : Tp = ⟨#[]⟩
      · have hT0' := Lib.hid (hT0.out hT)
        have hz : Tp.toList.isEmpty = true := by rw [hT, Lib.toList_data]; rfl
        clear hT
        rw [hz, Bool.not_true]
        clear hz
        go_wp2_with fail
        go_meet
        exact ⟨by rw [hT0'.out], hk6.out⟩
      · have hT1' := Lib.hid (hT1.out hT)
        have hne := ne_isEmpty Tp hT
        rw [hne, Bool.not_false]
        clear hne
        have h6w := h6'.out.below hk6.out
        have c3 := h6w.2.2.2.1
        have c4 := h6w.2.2.2.2.1
        clear h6w
        go_upto_region 8 with fail
        refine DefS.region8 V3 V4 S1 Tp b cp z3 z4 r3 r4 wc _ ?hQ8 c3 c4 e3'.out e4'.out u3 u4 v3'.out v4'.out (by omega) (by omega) a3 a4 _ _ _ _ _ _ _ _ _ _ _ _ _ _ _ _ _ _ _ _ _ _ _ _ _ _ _ _ _ _ _ _ _ _ _ _ _ _ _ _ _ _ _ _ _ _ _ _ _ _ _ _ _ _ _ _ _ _ _ _ _ _ _ _ _ _ _ _ _ _ _ _ _ _ _ _ _ _ _ _ _ _ _ _ _ _ _ _ _ _ _ _ _ _ _ _ _ _ _ _ _ _ _ _ _ _ _ _ _ _ _ _ _ _ _ _ _ _ _ _ _ _ _ _ _ _ _ _ _ _ _ _ _ _ _ _ ?hpost8
        case hQ8 => intro c a d v W h; exact h
        intros
        rename_i W hW
        rw [hT1'.out]
        go_wp2_with fail
        go_meet
        exact ⟨rfl, hk6.out.trans (hW.mono hk6.out.size)⟩
    case rest =>
      obtain ⟨rfl, hb7⟩ := hcut
      have hk7 := Lib.hid hb7; clear hb7 hk6
      go_upto_region 9 with fail
      go_cut [14] (fun v wx => v = .string S3 ∧ Below w5.heap.size w5 wx)
      case first =>
        have h6w := h6'.out.below hk7.out
        have c5 := h6w.2.2.2.2.2
        have hlt : b < wc.heap.size := lt_of_cell c5
        have v5 := get_of _ _ _ v5'.out
        have e5 := e5'.out
        clear h6w
        go_wp2_with fail
        go_meet
        exact ⟨by rw [hS3.out], hk7.out.alloc hk7.out.size _⟩
      case rest =>
        obtain ⟨rfl, hb8⟩ := hcut
        have hG8 := hG5.below hb8
        have hk8 := Lib.hid (hk5.out.trans (hb8.mono hk5.out.size)); clear hb8 hk7
        go_wp2_with fail
        refine (hD1.out _ hG8).mono ?_
        rintro e w9 ⟨rfl, hb9⟩
        have hG9 := hG8.below hb9
        have hk9 := Lib.hid (hk8.out.trans (hb9.mono hk8.out.size)); clear hb9
        have q9 := (Below.refl _ w9).alloc (Nat.le_refl _) (.cells #[.string F, .string ((⟨#[100]⟩ : ByteArray) ++ Dp), .string Tp] 48)
        have d9 : ∀ q, (w9.alloc (.cells #[.string F, .string ((⟨#[100]⟩ : ByteArray) ++ Dp), .string Tp] 48)).cell? ⟨w9.heap.size, q, none⟩ = #[Value.string F, .string ((⟨#[100]⟩ : ByteArray) ++ Dp), .string Tp][q]? := fun q => World.cell?_alloc_new _ _ _ _
        have hGa := hG9.below q9
        have hka := Lib.hid (hk9.out.trans (q9.mono hk9.out.size)); clear q9
        have d9' := Lib.hid d9; clear d9
        go_wp2_with fail
        refine (hD2.out _ hGa).mono ?_
        rintro e w10 ⟨rfl, hb10⟩
        have hGb := hGa.below hb10
        have hkb := Lib.hid (hka.out.trans (hb10.mono hka.out.size))
        have m0 := cell_below (d9'.out 0) hb10
        have m1 := cell_below (d9'.out 1) hb10
        have m2 := cell_below (d9'.out 2) hb10
        clear hb10
        have qb := (Below.refl _ w10).alloc (Nat.le_refl _) (.cells #[.string F, .string ((⟨#[100]⟩ : ByteArray) ++ Dp), .string Tp] 48)
        have d10 : ∀ q, (w10.alloc (.cells #[.string F, .string ((⟨#[100]⟩ : ByteArray) ++ Dp), .string Tp] 48)).cell? ⟨w10.heap.size, q, none⟩ = #[Value.string F, .string ((⟨#[100]⟩ : ByteArray) ++ Dp), .string Tp][q]? := fun q => World.cell?_alloc_new _ _ _ _
        have hGc := hGb.below qb
        have hkc := Lib.hid (hkb.out.trans (qb.mono hkb.out.size))
        have m0' := Lib.hid (cell_below m0 qb)
        have m1' := Lib.hid (cell_below m1 qb)
        have m2' := Lib.hid (cell_below m2 qb)
        clear qb m0 m1 m2
        have d10' := Lib.hid d10; clear d10
        go_wp2_with fail
        refine (hF.out _ hGc).mono ?_
        rintro e w11 ⟨rfl, hb11⟩
        have hkd := Lib.hid (hkc.out.trans (hb11.mono hkc.out.size))
        have n0 := cell_below m0'.out hb11
        have n1 := cell_below m1'.out hb11
        have n2 := cell_below m2'.out hb11
        have o0 := cell_below (d10'.out 0) hb11
        have o1 := cell_below (d10'.out 1) hb11
        have o2 := cell_below (d10'.out 2) hb11
        clear hb11
        replace n0 : _ = some (Value.string F) := n0
        replace n1 : _ = some (Value.string ((⟨#[100]⟩ : ByteArray) ++ Dp)) := n1
        replace n2 : _ = some (Value.string Tp) := n2
        replace o0 : _ = some (Value.string F) := o0
        replace o1 : _ = some (Value.string ((⟨#[100]⟩ : ByteArray) ++ Dp)) := o1
        replace o2 : _ = some (Value.string Tp) := o2
        have l9 : w9.heap.size < w11.heap.size := lt_of_cell n0
        have l10 : w10.heap.size < w11.heap.size := lt_of_cell o0
        have qc := (Below.refl _ w11).alloc (Nat.le_refl _) (.cells #[.string F, .string ((⟨#[100]⟩ : ByteArray) ++ Dp), .string Tp] 48)
        have hke := Lib.hid (hkd.out.trans (qc.mono hkd.out.size)); clear qc
        go_wp2_with fail
        go_ret
        exact ⟨rfl, hke.out⟩
end Go.Proofs.YthdlibgiejpjeaaGreatDoor.DefW

