/- The contracts of leaf.cutLeft and leaf.run: a text without the bytes of an ASCII set at its begin. -/
import Derived.Test.YthdlibgiejpjeaaGreatDoorGivM
import Derived.Lib.OthersKept
import Derived.BigCall
import Derived.Outline
set_option linter.unusedVariables false
set_option linter.unusedSimpArgs false
namespace Go.Proofs.YthdlibgiejpjeaaGreatDoor.Given
open Go.RowKit Go.Proofs.YthdlibgiejpjeaaGreatDoor Go.Proofs.YthdlibgiejpjeaaGreatDoorW.PrintWords Go.Proofs.YthdlibgiejpjeaaGreatDoor.Spec

/-- A rune is one of the bytes of a set. -/
def runeIn (l : List UInt8) (n : Nat) : Bool := l.any (fun b => b.toNat == n)
theorem runeIn_snoc (l : List UInt8) (b : UInt8) (n : Nat) : runeIn (l ++ [b]) n = (runeIn l n || b.toNat == n) := by simp [runeIn]
theorem take_snoc (s : ByteArray) (k : Nat) (h : k < s.size) : s.data.toList.take (k + 1) = s.data.toList.take k ++ [s[k]] := by
  rw [List.take_succ_eq_append_getElem (by simpa using h)]; rfl
theorem runeIn_eq (l : List UInt8) (c : UInt8) : runeIn l c.toNat = l.contains c := by
  unfold runeIn
  rw [Bool.eq_iff_iff]
  simp only [List.any_eq_true, beq_iff_eq, List.contains_iff_mem]
  constructor
  · rintro ⟨b, hb, h⟩
    rwa [← UInt8.toNat_inj.1 h]
  · intro h; exact ⟨c, h, rfl⟩
theorem ascii_get {l : List UInt8} (h : ascii l = true) {b : UInt8} (hb : b ∈ l) : b.toNat < 128 := by
  have := List.all_eq_true.1 h b hb
  simpa [UInt8.lt_iff_toNat_lt] using this
theorem runeIn_high {l : List UInt8} (h : ascii l = true) {n : Nat} (hn : 128 ≤ n) : runeIn l n = false := by
  rw [Bool.eq_false_iff]
  intro h'
  obtain ⟨b, hb, e⟩ := List.any_eq_true.1 h'
  have := ascii_get h hb
  simp at e; omega
/-- What stands at a place, as a rune, is in an ASCII set just if the byte is; then it is one byte wide. -/
theorem runeIn_decode {l : List UInt8} (h : ascii l = true) (s : ByteArray) (pos : Nat) (hp : pos < s.size) :
    runeIn l (Utf8.decode s pos).1 = l.contains s[pos] ∧ (l.contains s[pos] = true → (Utf8.decode s pos).2 = 1) ∧ 1 ≤ (Utf8.decode s pos).2 := by
  by_cases ha : (s[pos]'hp).toNat < 128
  · rw [decode_ascii s pos hp ha]; exact ⟨runeIn_eq _ _, fun _ => rfl, Nat.le_refl _⟩
  · have hh := decode_high s pos hp (by omega)
    refine ⟨?_, ?_, hh.2⟩
    · rw [runeIn_high h hh.1]
      symm; rw [Bool.eq_false_iff]; intro h'
      have := ascii_get h (List.contains_iff_mem.1 h'); omega
    · intro h'
      have := ascii_get h (List.contains_iff_mem.1 h'); omega
theorem dropWhile_at (l cs : List UInt8) : ∀ pos, pos ≤ l.length → (∀ j (hj : j < l.length), j < pos → cs.contains l[j] = true) → (∀ h : pos < l.length, cs.contains l[pos] = false) → l.dropWhile (cs.contains ·) = l.drop pos := by
  induction l with
  | nil => intro pos hp _ _; simp at hp; subst hp; rfl
  | cons b l ih =>
    intro pos hp h1 h2
    cases pos with
    | zero =>
      have h := h2 (by simp)
      have h : cs.contains b = false := h
      rw [List.dropWhile_cons, if_neg (by rw [h]; simp)]; rfl
    | succ k =>
      have h := h1 0 (by simp) (by omega)
      have h : cs.contains b = true := h
      rw [List.dropWhile_cons, if_pos h]
      exact ih k (by simpa using hp) (fun j hj hk => h1 (j + 1) (by simp; omega) (by omega)) (fun hk => h2 (by simp; omega))

set_option maxHeartbeats 4000000 in
set_option maxRecDepth 1000000 in
theorem cutLeft_leaf (s set : ByteArray) (w : World) (ha : ascii set.data.toList = true) (hs : s.size < 4294967281) (hset : set.size < 4294967281) :
    Calls Tryz.prog 109 #[.string s, .string set] w fun e w' => e = .returned (.string ⟨(s.data.toList.dropWhile (set.data.toList.contains ·)).toArray⟩) ∧ Below w.heap.size w w' := by
  go_enter Tryz.func109, Tryz.ntmps109
  go_wp2
  go_loopw [] (fun wr => ∃ pos, pos ≤ s.size ∧ (∀ j (hj : j < s.size), j < pos → set.data.toList.contains s[j] = true) ∧ wr.heap[w.heap.size]? = some (.stringIter s pos) ∧ Below w.heap.size w wr) (fun wr => s.size - wr.iterPos w.heap.size)
  case atStart =>
    refine ⟨0, Nat.zero_le _, fun j hj h => absurd h (Nat.not_lt_zero j), ?_, (Below.refl _ w).alloc (Nat.le_refl _) _⟩
    simpa using World.iter_heap w s 0
  case round =>
    obtain ⟨pos, hps, hpre, hit, hbw⟩ := hrel
    have hsz : w.heap.size < wr.heap.size := (Array.getElem?_eq_some_iff.1 hit).1
    by_cases hp : pos < s.size
    · have hnx : ∀ ty, (Instr.next (.pointer (some ⟨w.heap.size, 0, none⟩)) true ty).run Tryz.prog wr = _ := fun ty => Lib.run_next_any_at wr w.heap.size s pos ty hit hp
      obtain ⟨hr1, hr2, hr3⟩ := runeIn_decode ha s pos hp
      have hit2 := Lib.iterAt_heap wr w.heap.size s pos (pos + (Utf8.decode s pos).2) hit
      have hbw2 := Lib.below_iterAt hbw (k := w.heap.size) (Nat.le_refl _) s (pos + (Utf8.decode s pos).2)
      have hd := decode_le s pos
      have hsz2 := Lib.iterAt_size wr w.heap.size s (pos + (Utf8.decode s pos).2)
      generalize hW1 : wr.iterAt w.heap.size s (pos + (Utf8.decode s pos).2) = W1 at *
      generalize hcc : (Utf8.decode s pos).1 = cc at *
      generalize hww : (Utf8.decode s pos).2 = ww at *
      clear hW1
      have hcc' := Lib.hid hcc; clear hcc
      have hww' := Lib.hid hww; clear hww
      have hr1' := Lib.hid hr1; clear hr1
      have hr2' := Lib.hid hr2; clear hr2
      have hpre' := Lib.hid hpre; clear hpre
      have hsz2' := Lib.hid hsz2; clear hsz2
      have hlt : w.heap.size < W1.heap.size := by rw [hsz2'.out]; exact hsz
      clear hsz2'
      go_wp2
      have hip := Lib.hid (show wr.iterPos w.heap.size = pos by simp [World.iterPos, hit])
      clear hnx hit hbw hsz
      go_loopw [7] (fun v wi => ∃ j, j ≤ set.size ∧ v = .bool (runeIn (set.data.toList.take j) cc) ∧ wi.heap[W1.heap.size]? = some (.stringIter set j) ∧ wi.heap[w.heap.size]? = some (.stringIter s (pos + ww)) ∧ Below w.heap.size w wi) (fun _ wi => set.size - wi.iterPos W1.heap.size)
      case atStart =>
        refine ⟨0, Nat.zero_le _, rfl, World.iter_heap W1 set 0, ?_, hbw2.alloc (Nat.le_of_lt hlt) _⟩
        rw [← hit2]; exact Lib.alloc_old W1 _ _ hlt
      case round =>
        obtain ⟨j, hj, rfl, hk, hk0, hbi⟩ := hrel
        by_cases hjs : j < set.size
        · have hnx2 : ∀ ty, (Instr.next (.pointer (some ⟨W1.heap.size, 0, none⟩)) true ty).run Tryz.prog wr = _ := fun ty => Lib.run_next_any_at wr W1.heap.size set j ty hk hjs
          have hlow : (set[j]'hjs).toNat < 128 := ascii_get ha (by rw [← Array.mem_def]; exact Array.getElem_mem _)
          rw [decode_ascii set j hjs hlow] at hnx2
          have hk2 := Lib.iterAt_heap wr W1.heap.size set j (j + 1) hk
          have hk02 := (Lib.iterAt_other wr W1.heap.size w.heap.size set (j + 1) (by omega)).trans hk0
          have hbi2 := Lib.below_iterAt hbi (k := W1.heap.size) (by omega) set (j + 1)
          have hsn := runeIn_snoc (set.data.toList.take j) set[j] cc
          have hsn' := Lib.hid hsn; clear hsn
          cases hb : runeIn (set.data.toList.take j) cc
          · have hb' := Lib.hid hb; clear hb
            go_wp2
            refine ⟨⟨j + 1, by omega, ?_, hk2, hk02, hbi2⟩, ?_⟩
            · rw [take_snoc set j hjs, hsn'.out, hb'.out, Bool.false_or]
              congr 1
              rw [Bool.eq_iff_iff]; simp only [beq_iff_eq]; omega
            · simp only [World.iterPos, hk2, hk]; omega
          · have hb' := Lib.hid hb; clear hb
            go_wp2
            refine ⟨⟨j + 1, by omega, ?_, hk2, hk02, hbi2⟩, ?_⟩
            · rw [take_snoc set j hjs, hsn'.out, hb'.out, Bool.true_or]
            · simp only [World.iterPos, hk2, hk]; omega
        · have hnx2 : ∀ ty, (Instr.next (.pointer (some ⟨W1.heap.size, 0, none⟩)) true ty).run Tryz.prog wr = _ := fun ty => Lib.run_next_end_at wr W1.heap.size set j ty hk hjs
          have hj' : j = set.size := by omega
          subst hj'
          rw [List.take_of_length_le (by simp), hr1'.out]
          cases hb : set.data.toList.contains (s[pos]'hp)
          · have hb' := Lib.hid hb; clear hb
            go_wp2
            go_ret
            refine ⟨?_, hbi⟩
            have he : s.data.toList.dropWhile (set.data.toList.contains ·) = s.data.toList.drop pos :=
              dropWhile_at _ _ pos (by simpa using hps) (fun j hj h => hpre'.out j (by simpa using hj) h) (fun h => hb'.out)
            rw [he, Lib.extract_eq s pos s.size, List.take_of_length_le (by simp)]; rfl
          · have hb' := Lib.hid hb; clear hb
            go_wp2
            have hw1 := hr2'.out hb'.out
            refine ⟨⟨pos + ww, by omega, ?_, hk0, hbi⟩, ?_⟩
            · intro j hj hlt'
              by_cases hjp : j < pos
              · exact hpre'.out j hj hjp
              · have : j = pos := by omega
                subst this; exact hb'.out
            · rw [hip.out]; simp only [World.iterPos, hk0]; omega
    · have hnx : ∀ ty, (Instr.next (.pointer (some ⟨w.heap.size, 0, none⟩)) true ty).run Tryz.prog wr = _ := fun ty => Lib.run_next_end_at wr w.heap.size s pos ty hit hp
      go_wp2
      go_ret
      have : pos = s.size := by omega
      subst this
      refine ⟨?_, hbw⟩
      rw [dropWhile_at s.data.toList set.data.toList s.size (by simp) (fun j hj h => hpre j (by simpa using hj) h) (fun h => absurd h (by simp))]
      simp
theorem encode_ascii (n : Int) (h0 : 0 ≤ n) (h1 : n < 128) : Utf8.encode n = ⟨#[n.toNat.toUInt8]⟩ := by
  obtain ⟨k, rfl⟩ := Int.eq_ofNat_of_zero_le h0
  have hk : k < 128 := by omega
  have hv : Utf8.valid (k : Int) = true := by simp only [Utf8.valid]; simp; omega
  simp only [Utf8.encode, hv, Int.toNat_natCast, if_true]
  rw [if_pos hk]
theorem run_len (l : List UInt8) (c : UInt8) : (l.length : Int) - ((l.dropWhile (([c] : List UInt8).contains ·)).length : Int) = (run l c : Nat) := by
  have hp : (fun x => ([c] : List UInt8).contains x) = (fun x => decide (x = c)) := by
    funext x; rw [Bool.eq_iff_iff]; simp
  have h : l.takeWhile (fun x => decide (x = c)) ++ l.dropWhile (fun x => decide (x = c)) = l := List.takeWhile_append_dropWhile
  have h2 := congrArg List.length h
  rw [List.length_append] at h2
  rw [hp]; unfold run; omega
theorem ascii_one (n : Int) (h0 : 0 ≤ n) (h1 : n < 128) : ascii (⟨#[n.toNat.toUInt8]⟩ : ByteArray).data.toList = true := by
  obtain ⟨k, rfl⟩ := Int.eq_ofNat_of_zero_le h0
  have hk : k < 128 := by omega
  simp [ascii, UInt8.lt_iff_toNat_lt]
  omega

set_option maxHeartbeats 4000000 in
set_option maxRecDepth 1000000 in
theorem leaf_run.calls (a0 : ByteArray) (a1 : Int) (r : Int) (w : World) (hG : GW w) (h : leaf_run.f a0 a1 = some r) :
    Calls Tryz.prog 68 #[.string a0, .int .u8 a1] w fun e w' => e = .returned (.int .i64 r) ∧ Below w.heap.size w w' := by
  unfold leaf_run.f at h
  split at h
  · rename_i h1
    obtain ⟨h1, h2, h3⟩ := h1
    have h' := Lib.hid h; clear h
    go_enter Tryz.func68, Tryz.ntmps68
    have hen := Lib.hid (encode_ascii a1 h1 h2)
    have hlen : (a0.data.toList.dropWhile ((Utf8.encode a1).data.toList.contains ·)).length ≤ a0.size := by
      have := (List.dropWhile_sublist ((Utf8.encode a1).data.toList.contains ·) (l := a0.data.toList)).length_le
      simpa using this
    have hdw := Lib.hid (Eq.refl (a0.data.toList.dropWhile ((Utf8.encode a1).data.toList.contains ·)))
    go_wp2_with fail
    refine (cutLeft_leaf a0 (Utf8.encode a1) w (by rw [hen.out]; exact ascii_one a1 h1 h2) h3 (by rw [hen.out]; exact (by decide : 1 < 4294967281))).mono ?_
    rintro e w' ⟨rfl, hb⟩
    generalize hgd : a0.data.toList.dropWhile ((Utf8.encode a1).data.toList.contains ·) = dw at *
    have hgd' := Lib.hid hgd; clear hgd
    go_wp2
    go_ret
    refine ⟨?_, hb⟩
    obtain rfl := Option.some.inj h'.out
    show Ending.returned (.int .i64 ((a0.size : Int) - (dw.length : Int))) = _
    have hr := run_len a0.data.toList a1.toNat.toUInt8
    rw [← hgd'.out, hen.out, ← hr]
    simp
  · cases h
end Go.Proofs.YthdlibgiejpjeaaGreatDoor.Given
