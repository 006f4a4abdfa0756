/- The contracts of leaf.gap and leaf.Underline. -/
import Derived.Test.YthdlibgiejpjeaaGreatDoorGiven3
set_option linter.unusedVariables false
set_option linter.unusedSimpArgs false
namespace Go.Proofs.YthdlibgiejpjeaaGreatDoor.Given
open Go.RowKit Go.Proofs.YthdlibgiejpjeaaGreatDoor Go.Proofs.YthdlibgiejpjeaaGreatDoorW.PrintWords Go.Proofs.YthdlibgiejpjeaaGreatDoor.Spec

theorem dropWhile_nil {α : Type} (p : α → Bool) (l : List α) : l.dropWhile p = [] ↔ l.all p = true := by
  induction l with
  | nil => simp
  | cons a l ih =>
    by_cases h : p a = true
    · simp [h, ih]
    · simp [h]
theorem gap_trim (l : List UInt8) : (Lib.trimS l [32, 9] = []) ↔ gap l = true := by
  have hp : ∀ c : UInt8, ([32, 9] : List UInt8).contains c = decide (c = 32 ∨ c = 9) := by
    intro c; rw [Bool.eq_iff_iff]; simp
  unfold Lib.trimS Lib.trimLeftS Lib.trimRightS
  rw [dropWhile_nil, List.all_reverse]
  have h1 : (l.reverse.dropWhile (([32, 9] : List UInt8).contains ·)).all (([32, 9] : List UInt8).contains ·) = true ↔ l.all (([32, 9] : List UInt8).contains ·) = true := by
    constructor
    · intro h
      rw [← List.all_reverse]
      have : l.reverse = l.reverse.takeWhile (([32, 9] : List UInt8).contains ·) ++ l.reverse.dropWhile (([32, 9] : List UInt8).contains ·) := List.takeWhile_append_dropWhile.symm
      rw [this, List.all_append, h, Bool.and_true]
      exact List.all_takeWhile
    · intro h
      have h2 : l.reverse.dropWhile (([32, 9] : List UInt8).contains ·) = [] := (dropWhile_nil _ _).2 (by rw [List.all_reverse]; exact h)
      rw [h2]; rfl
  rw [h1]
  unfold gap
  have : (fun c => ([32, 9] : List UInt8).contains c) = (fun c => decide (c = 32 ∨ c = 9)) := funext hp
  rw [this]

set_option maxHeartbeats 4000000 in
theorem leaf_gap.calls (a0 : ByteArray) (r : Bool) (w : World) (hG : GW w) (h : leaf_gap.f a0 = some r) :
    Calls Tryz.prog 66 #[.string a0] w fun e w' => e = .returned (.bool r) ∧ Below w.heap.size w w' := by
  unfold leaf_gap.f at h
  split at h
  · rename_i h1
    obtain rfl := Option.some.inj h
    have hT := strings_Trim.calls a0 ⟨#[32, 9]⟩ ⟨(Lib.trimS a0.data.toList [32, 9]).toArray⟩ w hG (by
      unfold strings_Trim.f; rw [if_pos ⟨by omega, by show 2 < 4294967281; omega, by rfl⟩])
    have hg := gap_trim a0.data.toList
    have hg' := Lib.hid hg; clear hg
    generalize Lib.trimS a0.data.toList [32, 9] = tr at *
    have hT' := Lib.hid hT; clear hT
    go_enter Tryz.func66, Tryz.ntmps66
    go_wp2_with (go_at_call 70; refine hT'.out.mono ?_; rintro e w' ⟨rfl, hb⟩)
    go_ret
    refine ⟨?_, by assumption⟩
    show Ending.returned (.bool tr.isEmpty) = _
    have he : tr.isEmpty = gap a0.data.toList := by rw [Bool.eq_iff_iff, List.isEmpty_iff]; exact hg'.out
    rw [he]
  · cases h
theorem run_le (l : List UInt8) (c : UInt8) : run l c ≤ l.length := (List.takeWhile_sublist _).length_le
theorem run_some (a : ByteArray) (c : Int) (h0 : 0 ≤ c) (h1 : c < 128) (h : a.size < 4294967281) : leaf_run.f a c = some ((run a.data.toList c.toNat.toUInt8 : Nat) : Int) := by
  unfold leaf_run.f; rw [if_pos ⟨h0, h1, h⟩]
theorem extract_size_le (a : ByteArray) (n : Nat) : (a.extract n a.size).size ≤ a.size := by
  rw [Lib.size_eq, Lib.extract_to_end, List.length_drop, ← Lib.size_eq]; omega
theorem gap_some (a : ByteArray) (n : Nat) (h : a.size < 4294967281) : leaf_gap.f (a.extract n a.size) = some (gap (a.data.toList.drop n)) := by
  unfold leaf_gap.f; rw [if_pos (by have := extract_size_le a n; omega), Lib.extract_to_end]

set_option maxHeartbeats 4000000 in
set_option maxRecDepth 1000000 in
theorem leaf_Underline.calls (a0 : ByteArray) (r : Int) (w : World) (hG : GW w) (h : leaf_Underline.f a0 = some r) :
    Calls Tryz.prog 39 #[.string a0] w fun e w' => e = .returned (.int .i64 r) ∧ Below w.heap.size w w' := by
  unfold leaf_Underline.f at h
  split at h
  · rename_i h1
    have h' := Lib.hid h; clear h
    go_enter Tryz.func39, Tryz.ntmps39
    go_wp2
    go_loopw [] (fun wr => ∃ pos, (pos = 0 ∨ (pos = 1 ∧ ¬ (0 < run a0.data.toList 61 ∧ gap (a0.data.toList.drop (run a0.data.toList 61)) = true)) ∨ (pos = 2 ∧ ¬ (0 < run a0.data.toList 61 ∧ gap (a0.data.toList.drop (run a0.data.toList 61)) = true) ∧ ¬ (0 < run a0.data.toList 45 ∧ gap (a0.data.toList.drop (run a0.data.toList 45)) = true))) ∧ wr.heap[w.heap.size]? = some (.stringIter ⟨#[61, 45]⟩ pos) ∧ Below w.heap.size w wr) (fun wr => 2 - wr.iterPos w.heap.size)
    case atStart =>
      refine ⟨0, .inl rfl, ?_, (Below.refl _ w).alloc (Nat.le_refl _) _⟩
      simpa using World.iter_heap w ⟨#[61, 45]⟩ 0
    case round =>
      obtain ⟨pos, hpos, hit, hbw⟩ := hrel
      have hsz : w.heap.size < wr.heap.size := (Array.getElem?_eq_some_iff.1 hit).1
      have hpos' := Lib.hid hpos
      clear hpos'
      rcases hpos with rfl | ⟨rfl, hno⟩ | ⟨rfl, hno⟩
      · have hnx : ∀ ty, (Instr.next (.pointer (some ⟨w.heap.size, 0, none⟩)) true ty).run Tryz.prog wr = _ := fun ty => Lib.run_next_any_at wr w.heap.size ⟨#[61, 45]⟩ 0 ty hit (by decide)
        have hdec : Utf8.decode ⟨#[61, 45]⟩ 0 = (61, 1) := by decide +kernel
        rw [hdec] at hnx
        have hit2 := Lib.iterAt_heap wr w.heap.size ⟨#[61, 45]⟩ 0 1 hit
        have hbw2 := Lib.below_iterAt hbw (k := w.heap.size) (Nat.le_refl _) ⟨#[61, 45]⟩ 1
        have hsz2 : w.heap.size < (wr.iterAt w.heap.size ⟨#[61, 45]⟩ 1).heap.size := by rw [Lib.iterAt_size]; exact hsz
        have hR := leaf_run.calls a0 61 _ (wr.iterAt w.heap.size ⟨#[61, 45]⟩ 1) (hG.below hbw2) (run_some a0 61 (by omega) (by omega) h1)
        have hn := run_le a0.data.toList 61
        have hg := gap_some a0 (run a0.data.toList 61) h1
        have hm := Lib.hid (show wr.iterPos w.heap.size = 0 by simp [World.iterPos, hit])
        have hun := Lib.hid (show (0 < run a0.data.toList 61 ∧ gap (a0.data.toList.drop (run a0.data.toList 61)) = true) → underline a0.data.toList = 1 from fun hh => by unfold underline; rw [if_pos hh])
        have hno' := Lib.hid (True.intro)
        clear hdec
        rw [show ((61 : Int).toNat.toUInt8) = (61 : UInt8) from rfl] at hR
        generalize hrn : run a0.data.toList 61 = n at hR hn hg hun
        generalize hgg : gap (a0.data.toList.drop n) = g at hg hun
        have hrn' := Lib.hid hrn; clear hrn
        have hgg' := Lib.hid hgg; clear hgg
        have hR' := Lib.hid hR; clear hR
        have hg' := Lib.hid hg; clear hg
        have hno := True.intro
        have hn2 : n ≤ a0.size := by simpa using hn
        clear hn
        by_cases h0 : 0 < n
        · go_wp2_with fail
          refine hR'.out.mono ?_
          rintro e W1 ⟨rfl, hb1⟩
          have hbw3 := hbw2.trans (hb1.mono (Nat.le_of_lt hsz2))
          have hit3 : W1.heap[w.heap.size]? = some (.stringIter ⟨#[61, 45]⟩ 1) := (hb1.block _ hsz2).trans hit2
          have hsz3 : w.heap.size < W1.heap.size := Nat.lt_of_lt_of_le hsz2 hb1.size
          go_wp2_with fail
          refine (leaf_gap.calls _ g W1 (hG.below hbw3) hg'.out).mono ?_
          rintro e W2 ⟨rfl, hb2⟩
          have hbw4 := hbw3.trans (hb2.mono (Nat.le_of_lt hsz3))
          have hit4 : W2.heap[w.heap.size]? = some (.stringIter ⟨#[61, 45]⟩ 1) := (hb2.block _ hsz3).trans hit3
          cases g
          · go_wp2
            refine ⟨⟨1, ?_, hit4, hbw4⟩, ?_⟩
            · exact .inr (.inl ⟨rfl, fun hh => absurd hh.2 (by simp)⟩)
            · rw [hm.out]; simp only [World.iterPos, hit4]; omega
          · go_wp2
            go_ret
            refine ⟨?_, hbw4⟩
            obtain rfl := Option.some.inj h'.out
            rw [hun.out ⟨h0, by simp⟩]; rfl
        · have h00 : n = 0 := by omega
          subst h00
          go_wp2_with fail
          refine hR'.out.mono ?_
          rintro e W1 ⟨rfl, hb1⟩
          have hbw3 := hbw2.trans (hb1.mono (Nat.le_of_lt hsz2))
          have hit3 : W1.heap[w.heap.size]? = some (.stringIter ⟨#[61, 45]⟩ 1) := (hb1.block _ hsz2).trans hit2
          go_wp2
          refine ⟨⟨1, ?_, hit3, hbw3⟩, ?_⟩
          · exact .inr (.inl ⟨rfl, fun hh => absurd hh.1 (by omega)⟩)
          · rw [hm.out]; simp only [World.iterPos, hit3]; omega
      · have hnx : ∀ ty, (Instr.next (.pointer (some ⟨w.heap.size, 0, none⟩)) true ty).run Tryz.prog wr = _ := fun ty => Lib.run_next_any_at wr w.heap.size ⟨#[61, 45]⟩ 1 ty hit (by decide)
        have hdec : Utf8.decode ⟨#[61, 45]⟩ 1 = (45, 1) := by decide +kernel
        rw [hdec] at hnx
        have hit2 := Lib.iterAt_heap wr w.heap.size ⟨#[61, 45]⟩ 1 2 hit
        have hbw2 := Lib.below_iterAt hbw (k := w.heap.size) (Nat.le_refl _) ⟨#[61, 45]⟩ 2
        have hsz2 : w.heap.size < (wr.iterAt w.heap.size ⟨#[61, 45]⟩ 2).heap.size := by rw [Lib.iterAt_size]; exact hsz
        have hR := leaf_run.calls a0 45 _ (wr.iterAt w.heap.size ⟨#[61, 45]⟩ 2) (hG.below hbw2) (run_some a0 45 (by omega) (by omega) h1)
        have hn := run_le a0.data.toList 45
        have hg := gap_some a0 (run a0.data.toList 45) h1
        have hm := Lib.hid (show wr.iterPos w.heap.size = 1 by simp [World.iterPos, hit])
        have hun := Lib.hid (show (0 < run a0.data.toList 45 ∧ gap (a0.data.toList.drop (run a0.data.toList 45)) = true) → underline a0.data.toList = 2 from fun hh => by unfold underline; rw [if_neg hno, if_pos hh])
        have hno' := Lib.hid hno
        clear hdec
        rw [show ((45 : Int).toNat.toUInt8) = (45 : UInt8) from rfl] at hR
        generalize hrn : run a0.data.toList 45 = n at hR hn hg hun
        generalize hgg : gap (a0.data.toList.drop n) = g at hg hun
        have hrn' := Lib.hid hrn; clear hrn
        have hgg' := Lib.hid hgg; clear hgg
        have hR' := Lib.hid hR; clear hR
        have hg' := Lib.hid hg; clear hg
        have hno := True.intro
        have hn2 : n ≤ a0.size := by simpa using hn
        clear hn
        by_cases h0 : 0 < n
        · go_wp2_with fail
          refine hR'.out.mono ?_
          rintro e W1 ⟨rfl, hb1⟩
          have hbw3 := hbw2.trans (hb1.mono (Nat.le_of_lt hsz2))
          have hit3 : W1.heap[w.heap.size]? = some (.stringIter ⟨#[61, 45]⟩ 2) := (hb1.block _ hsz2).trans hit2
          have hsz3 : w.heap.size < W1.heap.size := Nat.lt_of_lt_of_le hsz2 hb1.size
          go_wp2_with fail
          refine (leaf_gap.calls _ g W1 (hG.below hbw3) hg'.out).mono ?_
          rintro e W2 ⟨rfl, hb2⟩
          have hbw4 := hbw3.trans (hb2.mono (Nat.le_of_lt hsz3))
          have hit4 : W2.heap[w.heap.size]? = some (.stringIter ⟨#[61, 45]⟩ 2) := (hb2.block _ hsz3).trans hit3
          cases g
          · go_wp2
            refine ⟨⟨2, ?_, hit4, hbw4⟩, ?_⟩
            · exact .inr (.inr ⟨rfl, hno'.out, fun hh => absurd hh.2 (by simp)⟩)
            · rw [hm.out]; simp only [World.iterPos, hit4]; omega
          · go_wp2
            go_ret
            refine ⟨?_, hbw4⟩
            obtain rfl := Option.some.inj h'.out
            rw [hun.out ⟨h0, by simp⟩]; rfl
        · have h00 : n = 0 := by omega
          subst h00
          go_wp2_with fail
          refine hR'.out.mono ?_
          rintro e W1 ⟨rfl, hb1⟩
          have hbw3 := hbw2.trans (hb1.mono (Nat.le_of_lt hsz2))
          have hit3 : W1.heap[w.heap.size]? = some (.stringIter ⟨#[61, 45]⟩ 2) := (hb1.block _ hsz2).trans hit2
          go_wp2
          refine ⟨⟨2, ?_, hit3, hbw3⟩, ?_⟩
          · exact .inr (.inr ⟨rfl, hno'.out, fun hh => absurd hh.1 (by omega)⟩)
          · rw [hm.out]; simp only [World.iterPos, hit3]; omega
      · have hnx : ∀ ty, (Instr.next (.pointer (some ⟨w.heap.size, 0, none⟩)) true ty).run Tryz.prog wr = _ := fun ty => Lib.run_next_end_at wr w.heap.size ⟨#[61, 45]⟩ 2 ty hit (by decide)
        go_wp2
        go_ret
        refine ⟨?_, hbw⟩
        obtain rfl := Option.some.inj h'.out
        unfold underline; rw [if_neg hno.1, if_neg hno.2]; rfl
  · cases h
end Go.Proofs.YthdlibgiejpjeaaGreatDoor.Given
