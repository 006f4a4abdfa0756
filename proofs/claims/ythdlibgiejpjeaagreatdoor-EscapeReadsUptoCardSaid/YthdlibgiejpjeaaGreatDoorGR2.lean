-- PRINTED by print.py (a twelfth state) out of the translation. Not trusted: Lean checks it.
import Derived.Test.YthdlibgiejpjeaaGreatDoorGR0
import Derived.Test.YthdlibgiejpjeaaGreatDoorGR1
namespace Go.Proofs.YthdlibgiejpjeaaGreatDoor.GR
open Go.RowKit Go.Proofs.YthdlibgiejpjeaaGreatDoor Go.Proofs.YthdlibgiejpjeaaGreatDoor.Given Go.Proofs.YthdlibgiejpjeaaGreatDoorW.PrintWords Go.Proofs.YthdlibgiejpjeaaGreatDoorW.PrintLast Go.Proofs.YthdlibgiejpjeaaGreatDoorW.PrintMore
attribute [local go_sem] max2_int min2_int max_two min_two max_three min_three max_four min_four   -- for this text's walks alone
set_option linter.unusedVariables false
set_option linter.unusedSimpArgs false

/-! ### scriptoriumref02_named: function 63 -/
def scriptoriumref02_named.f (a0 : ByteArray) : Option (ByteArray) := if a0.toList = ([97, 109, 112] : List UInt8) then ((scriptoriumref01_Put.f 38).bind fun t125 => (some t125)) else (if a0.toList = ([108, 116] : List UInt8) then ((scriptoriumref01_Put.f 60).bind fun t126 => (some t126)) else (if a0.toList = ([103, 116] : List UInt8) then ((scriptoriumref01_Put.f 62).bind fun t127 => (some t127)) else (if a0.toList = ([113, 117, 111, 116] : List UInt8) then ((scriptoriumref01_Put.f 34).bind fun t128 => (some t128)) else (if a0.toList = ([97, 112, 111, 115] : List UInt8) then ((scriptoriumref01_Put.f 39).bind fun t129 => (some t129)) else (if a0.toList = ([110, 98, 115, 112] : List UInt8) then ((scriptoriumref01_Put.f 160).bind fun t130 => (some t130)) else (if a0.toList = ([99, 111, 112, 121] : List UInt8) then ((scriptoriumref01_Put.f 169).bind fun t131 => (some t131)) else (if a0.toList = ([114, 101, 103] : List UInt8) then ((scriptoriumref01_Put.f 174).bind fun t132 => (some t132)) else (if a0.toList = ([115, 101, 99, 116] : List UInt8) then ((scriptoriumref01_Put.f 167).bind fun t133 => (some t133)) else (if a0.toList = ([112, 97, 114, 97] : List UInt8) then ((scriptoriumref01_Put.f 182).bind fun t134 => (some t134)) else (if a0.toList = ([109, 105, 100, 100, 111, 116] : List UInt8) then ((scriptoriumref01_Put.f 183).bind fun t135 => (some t135)) else (if a0.toList = ([102, 114, 97, 99, 49, 50] : List UInt8) then ((scriptoriumref01_Put.f 189).bind fun t136 => (some t136)) else (if a0.toList = ([102, 114, 97, 99, 51, 52] : List UInt8) then ((scriptoriumref01_Put.f 190).bind fun t137 => (some t137)) else (if a0.toList = ([116, 105, 109, 101, 115] : List UInt8) then ((scriptoriumref01_Put.f 215).bind fun t138 => (some t138)) else (if a0.toList = ([100, 105, 118, 105, 100, 101] : List UInt8) then ((scriptoriumref01_Put.f 247).bind fun t139 => (some t139)) else (if a0.toList = ([97, 117, 109, 108] : List UInt8) then ((scriptoriumref01_Put.f 228).bind fun t140 => (some t140)) else (if a0.toList = ([65, 117, 109, 108] : List UInt8) then ((scriptoriumref01_Put.f 196).bind fun t141 => (some t141)) else (if a0.toList = ([111, 117, 109, 108] : List UInt8) then ((scriptoriumref01_Put.f 246).bind fun t142 => (some t142)) else (if a0.toList = ([79, 117, 109, 108] : List UInt8) then ((scriptoriumref01_Put.f 214).bind fun t143 => (some t143)) else (if a0.toList = ([117, 117, 109, 108] : List UInt8) then ((scriptoriumref01_Put.f 252).bind fun t144 => (some t144)) else (if a0.toList = ([85, 117, 109, 108] : List UInt8) then ((scriptoriumref01_Put.f 220).bind fun t145 => (some t145)) else (if a0.toList = ([115, 122, 108, 105, 103] : List UInt8) then ((scriptoriumref01_Put.f 223).bind fun t146 => (some t146)) else (if a0.toList = ([101, 97, 99, 117, 116, 101] : List UInt8) then ((scriptoriumref01_Put.f 233).bind fun t147 => (some t147)) else (if a0.toList = ([101, 103, 114, 97, 118, 101] : List UInt8) then ((scriptoriumref01_Put.f 232).bind fun t148 => (some t148)) else (if a0.toList = ([97, 103, 114, 97, 118, 101] : List UInt8) then ((scriptoriumref01_Put.f 224).bind fun t149 => (some t149)) else (if a0.toList = ([99, 99, 101, 100, 105, 108] : List UInt8) then ((scriptoriumref01_Put.f 231).bind fun t150 => (some t150)) else (if a0.toList = ([110, 116, 105, 108, 100, 101] : List UInt8) then ((scriptoriumref01_Put.f 241).bind fun t151 => (some t151)) else (if a0.toList = ([65, 69, 108, 105, 103] : List UInt8) then ((scriptoriumref01_Put.f 198).bind fun t152 => (some t152)) else (if a0.toList = ([97, 101, 108, 105, 103] : List UInt8) then ((scriptoriumref01_Put.f 230).bind fun t153 => (some t153)) else (if a0.toList = ([68, 99, 97, 114, 111, 110] : List UInt8) then ((scriptoriumref01_Put.f 270).bind fun t154 => (some t154)) else (if a0.toList = ([104, 101, 108, 108, 105, 112] : List UInt8) then ((scriptoriumref01_Put.f 8230).bind fun t155 => (some t155)) else (if a0.toList = ([110, 100, 97, 115, 104] : List UInt8) then ((scriptoriumref01_Put.f 8211).bind fun t156 => (some t156)) else (if a0.toList = ([109, 100, 97, 115, 104] : List UInt8) then ((scriptoriumref01_Put.f 8212).bind fun t157 => (some t157)) else (if a0.toList = ([108, 115, 113, 117, 111] : List UInt8) then ((scriptoriumref01_Put.f 8216).bind fun t158 => (some t158)) else (if a0.toList = ([114, 115, 113, 117, 111] : List UInt8) then ((scriptoriumref01_Put.f 8217).bind fun t159 => (some t159)) else (if a0.toList = ([108, 100, 113, 117, 111] : List UInt8) then ((scriptoriumref01_Put.f 8220).bind fun t160 => (some t160)) else (if a0.toList = ([114, 100, 113, 117, 111] : List UInt8) then ((scriptoriumref01_Put.f 8221).bind fun t161 => (some t161)) else (if a0.toList = ([98, 117, 108, 108] : List UInt8) then ((scriptoriumref01_Put.f 8226).bind fun t162 => (some t162)) else (if a0.toList = ([101, 117, 114, 111] : List UInt8) then ((scriptoriumref01_Put.f 8364).bind fun t163 => (some t163)) else (if a0.toList = ([116, 114, 97, 100, 101] : List UInt8) then ((scriptoriumref01_Put.f 8482).bind fun t164 => (some t164)) else (if a0.toList = ([108, 97, 114, 114] : List UInt8) then ((scriptoriumref01_Put.f 8592).bind fun t165 => (some t165)) else (if a0.toList = ([114, 97, 114, 114] : List UInt8) then ((scriptoriumref01_Put.f 8594).bind fun t166 => (some t166)) else (if a0.toList = ([72, 105, 108, 98, 101, 114, 116, 83, 112, 97, 99, 101] : List UInt8) then ((scriptoriumref01_Put.f 8459).bind fun t167 => (some t167)) else (if a0.toList = ([68, 105, 102, 102, 101, 114, 101, 110, 116, 105, 97, 108, 68] : List UInt8) then ((scriptoriumref01_Put.f 8518).bind fun t168 => (some t168)) else (if a0.toList = ([110, 103, 69] : List UInt8) then ((scriptoriumref01_Put.f 8807).bind fun t169 => ((scriptoriumref01_Put.f 824).bind fun t170 => (if t169.size + t170.size ≤ 9223372036854775807 then (some (t169 ++ t170)) else (none)))) else (if a0.toList = ([110, 118, 108, 116] : List UInt8) then ((scriptoriumref01_Put.f 60).bind fun t171 => ((scriptoriumref01_Put.f 8402).bind fun t172 => (if t171.size + t172.size ≤ 9223372036854775807 then (some (t171 ++ t172)) else (none)))) else (some (⟨#[]⟩ : ByteArray)))))))))))))))))))))))))))))))))))))))))))))))
set_option maxHeartbeats 8000000 in
set_option maxRecDepth 100000 in
theorem scriptoriumref02_named.calls (a0 : ByteArray) (r : ByteArray) (w : World) (hG : GW w) (h : scriptoriumref02_named.f a0 = some r) :
    Calls Tryz.prog 63 #[.string a0] w fun e w' => e = .returned (.string r) ∧ Below w.heap.size w w' := by
  have HB := Aside0.mk (Below.refl w.heap.size w)
  have HG := Aside0.mk hG
  clear hG
  have H : (if a0.toList = ([97, 109, 112] : List UInt8) then ((scriptoriumref01_Put.f 38).bind fun t125 => (some t125)) else (if a0.toList = ([108, 116] : List UInt8) then ((scriptoriumref01_Put.f 60).bind fun t126 => (some t126)) else (if a0.toList = ([103, 116] : List UInt8) then ((scriptoriumref01_Put.f 62).bind fun t127 => (some t127)) else (if a0.toList = ([113, 117, 111, 116] : List UInt8) then ((scriptoriumref01_Put.f 34).bind fun t128 => (some t128)) else (if a0.toList = ([97, 112, 111, 115] : List UInt8) then ((scriptoriumref01_Put.f 39).bind fun t129 => (some t129)) else (if a0.toList = ([110, 98, 115, 112] : List UInt8) then ((scriptoriumref01_Put.f 160).bind fun t130 => (some t130)) else (if a0.toList = ([99, 111, 112, 121] : List UInt8) then ((scriptoriumref01_Put.f 169).bind fun t131 => (some t131)) else (if a0.toList = ([114, 101, 103] : List UInt8) then ((scriptoriumref01_Put.f 174).bind fun t132 => (some t132)) else (if a0.toList = ([115, 101, 99, 116] : List UInt8) then ((scriptoriumref01_Put.f 167).bind fun t133 => (some t133)) else (if a0.toList = ([112, 97, 114, 97] : List UInt8) then ((scriptoriumref01_Put.f 182).bind fun t134 => (some t134)) else (if a0.toList = ([109, 105, 100, 100, 111, 116] : List UInt8) then ((scriptoriumref01_Put.f 183).bind fun t135 => (some t135)) else (if a0.toList = ([102, 114, 97, 99, 49, 50] : List UInt8) then ((scriptoriumref01_Put.f 189).bind fun t136 => (some t136)) else (if a0.toList = ([102, 114, 97, 99, 51, 52] : List UInt8) then ((scriptoriumref01_Put.f 190).bind fun t137 => (some t137)) else (if a0.toList = ([116, 105, 109, 101, 115] : List UInt8) then ((scriptoriumref01_Put.f 215).bind fun t138 => (some t138)) else (if a0.toList = ([100, 105, 118, 105, 100, 101] : List UInt8) then ((scriptoriumref01_Put.f 247).bind fun t139 => (some t139)) else (if a0.toList = ([97, 117, 109, 108] : List UInt8) then ((scriptoriumref01_Put.f 228).bind fun t140 => (some t140)) else (if a0.toList = ([65, 117, 109, 108] : List UInt8) then ((scriptoriumref01_Put.f 196).bind fun t141 => (some t141)) else (if a0.toList = ([111, 117, 109, 108] : List UInt8) then ((scriptoriumref01_Put.f 246).bind fun t142 => (some t142)) else (if a0.toList = ([79, 117, 109, 108] : List UInt8) then ((scriptoriumref01_Put.f 214).bind fun t143 => (some t143)) else (if a0.toList = ([117, 117, 109, 108] : List UInt8) then ((scriptoriumref01_Put.f 252).bind fun t144 => (some t144)) else (if a0.toList = ([85, 117, 109, 108] : List UInt8) then ((scriptoriumref01_Put.f 220).bind fun t145 => (some t145)) else (if a0.toList = ([115, 122, 108, 105, 103] : List UInt8) then ((scriptoriumref01_Put.f 223).bind fun t146 => (some t146)) else (if a0.toList = ([101, 97, 99, 117, 116, 101] : List UInt8) then ((scriptoriumref01_Put.f 233).bind fun t147 => (some t147)) else (if a0.toList = ([101, 103, 114, 97, 118, 101] : List UInt8) then ((scriptoriumref01_Put.f 232).bind fun t148 => (some t148)) else (if a0.toList = ([97, 103, 114, 97, 118, 101] : List UInt8) then ((scriptoriumref01_Put.f 224).bind fun t149 => (some t149)) else (if a0.toList = ([99, 99, 101, 100, 105, 108] : List UInt8) then ((scriptoriumref01_Put.f 231).bind fun t150 => (some t150)) else (if a0.toList = ([110, 116, 105, 108, 100, 101] : List UInt8) then ((scriptoriumref01_Put.f 241).bind fun t151 => (some t151)) else (if a0.toList = ([65, 69, 108, 105, 103] : List UInt8) then ((scriptoriumref01_Put.f 198).bind fun t152 => (some t152)) else (if a0.toList = ([97, 101, 108, 105, 103] : List UInt8) then ((scriptoriumref01_Put.f 230).bind fun t153 => (some t153)) else (if a0.toList = ([68, 99, 97, 114, 111, 110] : List UInt8) then ((scriptoriumref01_Put.f 270).bind fun t154 => (some t154)) else (if a0.toList = ([104, 101, 108, 108, 105, 112] : List UInt8) then ((scriptoriumref01_Put.f 8230).bind fun t155 => (some t155)) else (if a0.toList = ([110, 100, 97, 115, 104] : List UInt8) then ((scriptoriumref01_Put.f 8211).bind fun t156 => (some t156)) else (if a0.toList = ([109, 100, 97, 115, 104] : List UInt8) then ((scriptoriumref01_Put.f 8212).bind fun t157 => (some t157)) else (if a0.toList = ([108, 115, 113, 117, 111] : List UInt8) then ((scriptoriumref01_Put.f 8216).bind fun t158 => (some t158)) else (if a0.toList = ([114, 115, 113, 117, 111] : List UInt8) then ((scriptoriumref01_Put.f 8217).bind fun t159 => (some t159)) else (if a0.toList = ([108, 100, 113, 117, 111] : List UInt8) then ((scriptoriumref01_Put.f 8220).bind fun t160 => (some t160)) else (if a0.toList = ([114, 100, 113, 117, 111] : List UInt8) then ((scriptoriumref01_Put.f 8221).bind fun t161 => (some t161)) else (if a0.toList = ([98, 117, 108, 108] : List UInt8) then ((scriptoriumref01_Put.f 8226).bind fun t162 => (some t162)) else (if a0.toList = ([101, 117, 114, 111] : List UInt8) then ((scriptoriumref01_Put.f 8364).bind fun t163 => (some t163)) else (if a0.toList = ([116, 114, 97, 100, 101] : List UInt8) then ((scriptoriumref01_Put.f 8482).bind fun t164 => (some t164)) else (if a0.toList = ([108, 97, 114, 114] : List UInt8) then ((scriptoriumref01_Put.f 8592).bind fun t165 => (some t165)) else (if a0.toList = ([114, 97, 114, 114] : List UInt8) then ((scriptoriumref01_Put.f 8594).bind fun t166 => (some t166)) else (if a0.toList = ([72, 105, 108, 98, 101, 114, 116, 83, 112, 97, 99, 101] : List UInt8) then ((scriptoriumref01_Put.f 8459).bind fun t167 => (some t167)) else (if a0.toList = ([68, 105, 102, 102, 101, 114, 101, 110, 116, 105, 97, 108, 68] : List UInt8) then ((scriptoriumref01_Put.f 8518).bind fun t168 => (some t168)) else (if a0.toList = ([110, 103, 69] : List UInt8) then ((scriptoriumref01_Put.f 8807).bind fun t169 => ((scriptoriumref01_Put.f 824).bind fun t170 => (if t169.size + t170.size ≤ 9223372036854775807 then (some (t169 ++ t170)) else (none)))) else (if a0.toList = ([110, 118, 108, 116] : List UInt8) then ((scriptoriumref01_Put.f 60).bind fun t171 => ((scriptoriumref01_Put.f 8402).bind fun t172 => (if t171.size + t172.size ≤ 9223372036854775807 then (some (t171 ++ t172)) else (none)))) else (some (⟨#[]⟩ : ByteArray)))))))))))))))))))))))))))))))))))))))))))))))) = some r := h
  clear h
  by_cases c2 : a0.toList = ([97, 109, 112] : List UInt8)
  · rw [if_pos c2] at H
    have c2b0 : (a0.toList == ([97, 109, 112] : List UInt8)) = true := beq_iff_eq.mpr c2
    have c2b1 : (a0.toList != ([97, 109, 112] : List UInt8)) = false := bne_eq_false_iff_eq.mpr c2
    clear c2
    replace H := Option.bind_eq_some_iff.mp H
    obtain ⟨t125, A30, H⟩ := H
    replace H : (some t125) = some r := H
    have A3 := Aside0.mk A30
    clear A30
    obtain rfl := Option.some.inj H
    go_enter Tryz.func63, Tryz.ntmps63
    go_wp2_with (first | ((with_reducible refine gate_callee (f := 104) rfl ?_); refine goesL_ (some 6) rfl rfl Tryz.func104 (by kernel_rfl) rfl #[.int .i64 38] rfl (by (try simp only [List.map_toArray, List.map_cons, List.map_nil]); first | done | rfl | (simp only [List.length_drop, List.length_take]; rfl)) ?_; (with_reducible refine (scriptoriumref01_Put.calls 38 t125 _ ?side1 A3.out).mono ?_); (case side1 => (first | (with_reducible first | exact HG.out | exact GW.drewN HG.out _ | exact GW.drewN (GW.drewN HG.out _) _) | exact GW.below HG.out (by repeat (first | (with_reducible first | exact HB.out | apply below_alloc | apply pw_below_drewN | apply below_drew1) | exact HB.out)))); rintro e w4 ⟨rfl, hb⟩; refine ⟨_, rfl, ?_⟩; have n0_ := Aside0.mk (below_step (by repeat (first | (with_reducible first | exact HB.out | apply below_alloc | apply pw_below_drewN | apply below_drew1) | exact HB.out)) hb); clear HB; have HB := n0_; clear n0_; (try clear hb); (try clear hb2); (try clear hk); (try clear hi)))
    go_ret
    exact ⟨by first | rfl | (simp [errW_none, errW_some] <;> rfl) | (simp [*, errW_none, errW_some] <;> rfl), by repeat (first | (with_reducible first | exact HB.out | apply below_alloc | apply pw_below_drewN | apply below_drew1) | exact HB.out)⟩
  · rw [if_neg c2] at H
    have c2b0 : (a0.toList == ([97, 109, 112] : List UInt8)) = false := beq_eq_false_iff_ne.mpr c2
    have c2b1 : (a0.toList != ([97, 109, 112] : List UInt8)) = true := bne_iff_ne.mpr c2
    by_cases c5 : a0.toList = ([108, 116] : List UInt8)
    · rw [if_pos c5] at H
      have c5b0 : (a0.toList == ([108, 116] : List UInt8)) = true := beq_iff_eq.mpr c5
      have c5b1 : (a0.toList != ([108, 116] : List UInt8)) = false := bne_eq_false_iff_eq.mpr c5
      clear c5
      replace H := Option.bind_eq_some_iff.mp H
      obtain ⟨t126, A60, H⟩ := H
      replace H : (some t126) = some r := H
      have A6 := Aside0.mk A60
      clear A60
      obtain rfl := Option.some.inj H
      go_enter Tryz.func63, Tryz.ntmps63
      go_wp2_with (first | ((with_reducible refine gate_callee (f := 104) rfl ?_); refine goesL_ (some 9) rfl rfl Tryz.func104 (by kernel_rfl) rfl #[.int .i64 60] rfl (by (try simp only [List.map_toArray, List.map_cons, List.map_nil]); first | done | rfl | (simp only [List.length_drop, List.length_take]; rfl)) ?_; (with_reducible refine (scriptoriumref01_Put.calls 60 t126 _ ?side1 A6.out).mono ?_); (case side1 => (first | (with_reducible first | exact HG.out | exact GW.drewN HG.out _ | exact GW.drewN (GW.drewN HG.out _) _) | exact GW.below HG.out (by repeat (first | (with_reducible first | exact HB.out | apply below_alloc | apply pw_below_drewN | apply below_drew1) | exact HB.out)))); rintro e w7 ⟨rfl, hb⟩; refine ⟨_, rfl, ?_⟩; have n0_ := Aside0.mk (below_step (by repeat (first | (with_reducible first | exact HB.out | apply below_alloc | apply pw_below_drewN | apply below_drew1) | exact HB.out)) hb); clear HB; have HB := n0_; clear n0_; (try clear hb); (try clear hb2); (try clear hk); (try clear hi)))
      go_ret
      exact ⟨by first | rfl | (simp [errW_none, errW_some] <;> rfl) | (simp [*, errW_none, errW_some] <;> rfl), by repeat (first | (with_reducible first | exact HB.out | apply below_alloc | apply pw_below_drewN | apply below_drew1) | exact HB.out)⟩
    · rw [if_neg c5] at H
      have c5b0 : (a0.toList == ([108, 116] : List UInt8)) = false := beq_eq_false_iff_ne.mpr c5
      have c5b1 : (a0.toList != ([108, 116] : List UInt8)) = true := bne_iff_ne.mpr c5
      by_cases c8 : a0.toList = ([103, 116] : List UInt8)
      · rw [if_pos c8] at H
        have c8b0 : (a0.toList == ([103, 116] : List UInt8)) = true := beq_iff_eq.mpr c8
        have c8b1 : (a0.toList != ([103, 116] : List UInt8)) = false := bne_eq_false_iff_eq.mpr c8
        clear c8
        replace H := Option.bind_eq_some_iff.mp H
        obtain ⟨t127, A90, H⟩ := H
        replace H : (some t127) = some r := H
        have A9 := Aside0.mk A90
        clear A90
        obtain rfl := Option.some.inj H
        go_enter Tryz.func63, Tryz.ntmps63
        go_wp2_with (first | ((with_reducible refine gate_callee (f := 104) rfl ?_); refine goesL_ (some 12) rfl rfl Tryz.func104 (by kernel_rfl) rfl #[.int .i64 62] rfl (by (try simp only [List.map_toArray, List.map_cons, List.map_nil]); first | done | rfl | (simp only [List.length_drop, List.length_take]; rfl)) ?_; (with_reducible refine (scriptoriumref01_Put.calls 62 t127 _ ?side1 A9.out).mono ?_); (case side1 => (first | (with_reducible first | exact HG.out | exact GW.drewN HG.out _ | exact GW.drewN (GW.drewN HG.out _) _) | exact GW.below HG.out (by repeat (first | (with_reducible first | exact HB.out | apply below_alloc | apply pw_below_drewN | apply below_drew1) | exact HB.out)))); rintro e w10 ⟨rfl, hb⟩; refine ⟨_, rfl, ?_⟩; have n0_ := Aside0.mk (below_step (by repeat (first | (with_reducible first | exact HB.out | apply below_alloc | apply pw_below_drewN | apply below_drew1) | exact HB.out)) hb); clear HB; have HB := n0_; clear n0_; (try clear hb); (try clear hb2); (try clear hk); (try clear hi)))
        go_ret
        exact ⟨by first | rfl | (simp [errW_none, errW_some] <;> rfl) | (simp [*, errW_none, errW_some] <;> rfl), by repeat (first | (with_reducible first | exact HB.out | apply below_alloc | apply pw_below_drewN | apply below_drew1) | exact HB.out)⟩
      · rw [if_neg c8] at H
        have c8b0 : (a0.toList == ([103, 116] : List UInt8)) = false := beq_eq_false_iff_ne.mpr c8
        have c8b1 : (a0.toList != ([103, 116] : List UInt8)) = true := bne_iff_ne.mpr c8
        by_cases c11 : a0.toList = ([113, 117, 111, 116] : List UInt8)
        · rw [if_pos c11] at H
          have c11b0 : (a0.toList == ([113, 117, 111, 116] : List UInt8)) = true := beq_iff_eq.mpr c11
          have c11b1 : (a0.toList != ([113, 117, 111, 116] : List UInt8)) = false := bne_eq_false_iff_eq.mpr c11
          clear c11
          replace H := Option.bind_eq_some_iff.mp H
          obtain ⟨t128, A120, H⟩ := H
          replace H : (some t128) = some r := H
          have A12 := Aside0.mk A120
          clear A120
          obtain rfl := Option.some.inj H
          go_enter Tryz.func63, Tryz.ntmps63
          go_wp2_with (first | ((with_reducible refine gate_callee (f := 104) rfl ?_); refine goesL_ (some 15) rfl rfl Tryz.func104 (by kernel_rfl) rfl #[.int .i64 34] rfl (by (try simp only [List.map_toArray, List.map_cons, List.map_nil]); first | done | rfl | (simp only [List.length_drop, List.length_take]; rfl)) ?_; (with_reducible refine (scriptoriumref01_Put.calls 34 t128 _ ?side1 A12.out).mono ?_); (case side1 => (first | (with_reducible first | exact HG.out | exact GW.drewN HG.out _ | exact GW.drewN (GW.drewN HG.out _) _) | exact GW.below HG.out (by repeat (first | (with_reducible first | exact HB.out | apply below_alloc | apply pw_below_drewN | apply below_drew1) | exact HB.out)))); rintro e w13 ⟨rfl, hb⟩; refine ⟨_, rfl, ?_⟩; have n0_ := Aside0.mk (below_step (by repeat (first | (with_reducible first | exact HB.out | apply below_alloc | apply pw_below_drewN | apply below_drew1) | exact HB.out)) hb); clear HB; have HB := n0_; clear n0_; (try clear hb); (try clear hb2); (try clear hk); (try clear hi)))
          go_ret
          exact ⟨by first | rfl | (simp [errW_none, errW_some] <;> rfl) | (simp [*, errW_none, errW_some] <;> rfl), by repeat (first | (with_reducible first | exact HB.out | apply below_alloc | apply pw_below_drewN | apply below_drew1) | exact HB.out)⟩
        · rw [if_neg c11] at H
          have c11b0 : (a0.toList == ([113, 117, 111, 116] : List UInt8)) = false := beq_eq_false_iff_ne.mpr c11
          have c11b1 : (a0.toList != ([113, 117, 111, 116] : List UInt8)) = true := bne_iff_ne.mpr c11
          by_cases c14 : a0.toList = ([97, 112, 111, 115] : List UInt8)
          · rw [if_pos c14] at H
            have c14b0 : (a0.toList == ([97, 112, 111, 115] : List UInt8)) = true := beq_iff_eq.mpr c14
            have c14b1 : (a0.toList != ([97, 112, 111, 115] : List UInt8)) = false := bne_eq_false_iff_eq.mpr c14
            clear c14
            replace H := Option.bind_eq_some_iff.mp H
            obtain ⟨t129, A150, H⟩ := H
            replace H : (some t129) = some r := H
            have A15 := Aside0.mk A150
            clear A150
            obtain rfl := Option.some.inj H
            go_enter Tryz.func63, Tryz.ntmps63
            go_wp2_with (first | ((with_reducible refine gate_callee (f := 104) rfl ?_); refine goesL_ (some 18) rfl rfl Tryz.func104 (by kernel_rfl) rfl #[.int .i64 39] rfl (by (try simp only [List.map_toArray, List.map_cons, List.map_nil]); first | done | rfl | (simp only [List.length_drop, List.length_take]; rfl)) ?_; (with_reducible refine (scriptoriumref01_Put.calls 39 t129 _ ?side1 A15.out).mono ?_); (case side1 => (first | (with_reducible first | exact HG.out | exact GW.drewN HG.out _ | exact GW.drewN (GW.drewN HG.out _) _) | exact GW.below HG.out (by repeat (first | (with_reducible first | exact HB.out | apply below_alloc | apply pw_below_drewN | apply below_drew1) | exact HB.out)))); rintro e w16 ⟨rfl, hb⟩; refine ⟨_, rfl, ?_⟩; have n0_ := Aside0.mk (below_step (by repeat (first | (with_reducible first | exact HB.out | apply below_alloc | apply pw_below_drewN | apply below_drew1) | exact HB.out)) hb); clear HB; have HB := n0_; clear n0_; (try clear hb); (try clear hb2); (try clear hk); (try clear hi)))
            go_ret
            exact ⟨by first | rfl | (simp [errW_none, errW_some] <;> rfl) | (simp [*, errW_none, errW_some] <;> rfl), by repeat (first | (with_reducible first | exact HB.out | apply below_alloc | apply pw_below_drewN | apply below_drew1) | exact HB.out)⟩
          · rw [if_neg c14] at H
            have c14b0 : (a0.toList == ([97, 112, 111, 115] : List UInt8)) = false := beq_eq_false_iff_ne.mpr c14
            have c14b1 : (a0.toList != ([97, 112, 111, 115] : List UInt8)) = true := bne_iff_ne.mpr c14
            by_cases c17 : a0.toList = ([110, 98, 115, 112] : List UInt8)
            · rw [if_pos c17] at H
              have c17b0 : (a0.toList == ([110, 98, 115, 112] : List UInt8)) = true := beq_iff_eq.mpr c17
              have c17b1 : (a0.toList != ([110, 98, 115, 112] : List UInt8)) = false := bne_eq_false_iff_eq.mpr c17
              clear c17
              replace H := Option.bind_eq_some_iff.mp H
              obtain ⟨t130, A180, H⟩ := H
              replace H : (some t130) = some r := H
              have A18 := Aside0.mk A180
              clear A180
              obtain rfl := Option.some.inj H
              go_enter Tryz.func63, Tryz.ntmps63
              go_wp2_with (first | ((with_reducible refine gate_callee (f := 104) rfl ?_); refine goesL_ (some 21) rfl rfl Tryz.func104 (by kernel_rfl) rfl #[.int .i64 160] rfl (by (try simp only [List.map_toArray, List.map_cons, List.map_nil]); first | done | rfl | (simp only [List.length_drop, List.length_take]; rfl)) ?_; (with_reducible refine (scriptoriumref01_Put.calls 160 t130 _ ?side1 A18.out).mono ?_); (case side1 => (first | (with_reducible first | exact HG.out | exact GW.drewN HG.out _ | exact GW.drewN (GW.drewN HG.out _) _) | exact GW.below HG.out (by repeat (first | (with_reducible first | exact HB.out | apply below_alloc | apply pw_below_drewN | apply below_drew1) | exact HB.out)))); rintro e w19 ⟨rfl, hb⟩; refine ⟨_, rfl, ?_⟩; have n0_ := Aside0.mk (below_step (by repeat (first | (with_reducible first | exact HB.out | apply below_alloc | apply pw_below_drewN | apply below_drew1) | exact HB.out)) hb); clear HB; have HB := n0_; clear n0_; (try clear hb); (try clear hb2); (try clear hk); (try clear hi)))
              go_ret
              exact ⟨by first | rfl | (simp [errW_none, errW_some] <;> rfl) | (simp [*, errW_none, errW_some] <;> rfl), by repeat (first | (with_reducible first | exact HB.out | apply below_alloc | apply pw_below_drewN | apply below_drew1) | exact HB.out)⟩
            · rw [if_neg c17] at H
              have c17b0 : (a0.toList == ([110, 98, 115, 112] : List UInt8)) = false := beq_eq_false_iff_ne.mpr c17
              have c17b1 : (a0.toList != ([110, 98, 115, 112] : List UInt8)) = true := bne_iff_ne.mpr c17
              by_cases c20 : a0.toList = ([99, 111, 112, 121] : List UInt8)
              · rw [if_pos c20] at H
                have c20b0 : (a0.toList == ([99, 111, 112, 121] : List UInt8)) = true := beq_iff_eq.mpr c20
                have c20b1 : (a0.toList != ([99, 111, 112, 121] : List UInt8)) = false := bne_eq_false_iff_eq.mpr c20
                clear c20
                replace H := Option.bind_eq_some_iff.mp H
                obtain ⟨t131, A210, H⟩ := H
                replace H : (some t131) = some r := H
                have A21 := Aside0.mk A210
                clear A210
                obtain rfl := Option.some.inj H
                go_enter Tryz.func63, Tryz.ntmps63
                go_wp2_with (first | ((with_reducible refine gate_callee (f := 104) rfl ?_); refine goesL_ (some 24) rfl rfl Tryz.func104 (by kernel_rfl) rfl #[.int .i64 169] rfl (by (try simp only [List.map_toArray, List.map_cons, List.map_nil]); first | done | rfl | (simp only [List.length_drop, List.length_take]; rfl)) ?_; (with_reducible refine (scriptoriumref01_Put.calls 169 t131 _ ?side1 A21.out).mono ?_); (case side1 => (first | (with_reducible first | exact HG.out | exact GW.drewN HG.out _ | exact GW.drewN (GW.drewN HG.out _) _) | exact GW.below HG.out (by repeat (first | (with_reducible first | exact HB.out | apply below_alloc | apply pw_below_drewN | apply below_drew1) | exact HB.out)))); rintro e w22 ⟨rfl, hb⟩; refine ⟨_, rfl, ?_⟩; have n0_ := Aside0.mk (below_step (by repeat (first | (with_reducible first | exact HB.out | apply below_alloc | apply pw_below_drewN | apply below_drew1) | exact HB.out)) hb); clear HB; have HB := n0_; clear n0_; (try clear hb); (try clear hb2); (try clear hk); (try clear hi)))
                go_ret
                exact ⟨by first | rfl | (simp [errW_none, errW_some] <;> rfl) | (simp [*, errW_none, errW_some] <;> rfl), by repeat (first | (with_reducible first | exact HB.out | apply below_alloc | apply pw_below_drewN | apply below_drew1) | exact HB.out)⟩
              · rw [if_neg c20] at H
                have c20b0 : (a0.toList == ([99, 111, 112, 121] : List UInt8)) = false := beq_eq_false_iff_ne.mpr c20
                have c20b1 : (a0.toList != ([99, 111, 112, 121] : List UInt8)) = true := bne_iff_ne.mpr c20
                by_cases c23 : a0.toList = ([114, 101, 103] : List UInt8)
                · rw [if_pos c23] at H
                  have c23b0 : (a0.toList == ([114, 101, 103] : List UInt8)) = true := beq_iff_eq.mpr c23
                  have c23b1 : (a0.toList != ([114, 101, 103] : List UInt8)) = false := bne_eq_false_iff_eq.mpr c23
                  clear c23
                  replace H := Option.bind_eq_some_iff.mp H
                  obtain ⟨t132, A240, H⟩ := H
                  replace H : (some t132) = some r := H
                  have A24 := Aside0.mk A240
                  clear A240
                  obtain rfl := Option.some.inj H
                  go_enter Tryz.func63, Tryz.ntmps63
                  go_wp2_with (first | ((with_reducible refine gate_callee (f := 104) rfl ?_); refine goesL_ (some 27) rfl rfl Tryz.func104 (by kernel_rfl) rfl #[.int .i64 174] rfl (by (try simp only [List.map_toArray, List.map_cons, List.map_nil]); first | done | rfl | (simp only [List.length_drop, List.length_take]; rfl)) ?_; (with_reducible refine (scriptoriumref01_Put.calls 174 t132 _ ?side1 A24.out).mono ?_); (case side1 => (first | (with_reducible first | exact HG.out | exact GW.drewN HG.out _ | exact GW.drewN (GW.drewN HG.out _) _) | exact GW.below HG.out (by repeat (first | (with_reducible first | exact HB.out | apply below_alloc | apply pw_below_drewN | apply below_drew1) | exact HB.out)))); rintro e w25 ⟨rfl, hb⟩; refine ⟨_, rfl, ?_⟩; have n0_ := Aside0.mk (below_step (by repeat (first | (with_reducible first | exact HB.out | apply below_alloc | apply pw_below_drewN | apply below_drew1) | exact HB.out)) hb); clear HB; have HB := n0_; clear n0_; (try clear hb); (try clear hb2); (try clear hk); (try clear hi)))
                  go_ret
                  exact ⟨by first | rfl | (simp [errW_none, errW_some] <;> rfl) | (simp [*, errW_none, errW_some] <;> rfl), by repeat (first | (with_reducible first | exact HB.out | apply below_alloc | apply pw_below_drewN | apply below_drew1) | exact HB.out)⟩
                · rw [if_neg c23] at H
                  have c23b0 : (a0.toList == ([114, 101, 103] : List UInt8)) = false := beq_eq_false_iff_ne.mpr c23
                  have c23b1 : (a0.toList != ([114, 101, 103] : List UInt8)) = true := bne_iff_ne.mpr c23
                  by_cases c26 : a0.toList = ([115, 101, 99, 116] : List UInt8)
                  · rw [if_pos c26] at H
                    have c26b0 : (a0.toList == ([115, 101, 99, 116] : List UInt8)) = true := beq_iff_eq.mpr c26
                    have c26b1 : (a0.toList != ([115, 101, 99, 116] : List UInt8)) = false := bne_eq_false_iff_eq.mpr c26
                    clear c26
                    replace H := Option.bind_eq_some_iff.mp H
                    obtain ⟨t133, A270, H⟩ := H
                    replace H : (some t133) = some r := H
                    have A27 := Aside0.mk A270
                    clear A270
                    obtain rfl := Option.some.inj H
                    go_enter Tryz.func63, Tryz.ntmps63
                    go_wp2_with (first | ((with_reducible refine gate_callee (f := 104) rfl ?_); refine goesL_ (some 30) rfl rfl Tryz.func104 (by kernel_rfl) rfl #[.int .i64 167] rfl (by (try simp only [List.map_toArray, List.map_cons, List.map_nil]); first | done | rfl | (simp only [List.length_drop, List.length_take]; rfl)) ?_; (with_reducible refine (scriptoriumref01_Put.calls 167 t133 _ ?side1 A27.out).mono ?_); (case side1 => (first | (with_reducible first | exact HG.out | exact GW.drewN HG.out _ | exact GW.drewN (GW.drewN HG.out _) _) | exact GW.below HG.out (by repeat (first | (with_reducible first | exact HB.out | apply below_alloc | apply pw_below_drewN | apply below_drew1) | exact HB.out)))); rintro e w28 ⟨rfl, hb⟩; refine ⟨_, rfl, ?_⟩; have n0_ := Aside0.mk (below_step (by repeat (first | (with_reducible first | exact HB.out | apply below_alloc | apply pw_below_drewN | apply below_drew1) | exact HB.out)) hb); clear HB; have HB := n0_; clear n0_; (try clear hb); (try clear hb2); (try clear hk); (try clear hi)))
                    go_ret
                    exact ⟨by first | rfl | (simp [errW_none, errW_some] <;> rfl) | (simp [*, errW_none, errW_some] <;> rfl), by repeat (first | (with_reducible first | exact HB.out | apply below_alloc | apply pw_below_drewN | apply below_drew1) | exact HB.out)⟩
                  · rw [if_neg c26] at H
                    have c26b0 : (a0.toList == ([115, 101, 99, 116] : List UInt8)) = false := beq_eq_false_iff_ne.mpr c26
                    have c26b1 : (a0.toList != ([115, 101, 99, 116] : List UInt8)) = true := bne_iff_ne.mpr c26
                    by_cases c29 : a0.toList = ([112, 97, 114, 97] : List UInt8)
                    · rw [if_pos c29] at H
                      have c29b0 : (a0.toList == ([112, 97, 114, 97] : List UInt8)) = true := beq_iff_eq.mpr c29
                      have c29b1 : (a0.toList != ([112, 97, 114, 97] : List UInt8)) = false := bne_eq_false_iff_eq.mpr c29
                      clear c29
                      replace H := Option.bind_eq_some_iff.mp H
                      obtain ⟨t134, A300, H⟩ := H
                      replace H : (some t134) = some r := H
                      have A30 := Aside0.mk A300
                      clear A300
                      obtain rfl := Option.some.inj H
                      go_enter Tryz.func63, Tryz.ntmps63
                      go_wp2_with (first | ((with_reducible refine gate_callee (f := 104) rfl ?_); refine goesL_ (some 33) rfl rfl Tryz.func104 (by kernel_rfl) rfl #[.int .i64 182] rfl (by (try simp only [List.map_toArray, List.map_cons, List.map_nil]); first | done | rfl | (simp only [List.length_drop, List.length_take]; rfl)) ?_; (with_reducible refine (scriptoriumref01_Put.calls 182 t134 _ ?side1 A30.out).mono ?_); (case side1 => (first | (with_reducible first | exact HG.out | exact GW.drewN HG.out _ | exact GW.drewN (GW.drewN HG.out _) _) | exact GW.below HG.out (by repeat (first | (with_reducible first | exact HB.out | apply below_alloc | apply pw_below_drewN | apply below_drew1) | exact HB.out)))); rintro e w31 ⟨rfl, hb⟩; refine ⟨_, rfl, ?_⟩; have n0_ := Aside0.mk (below_step (by repeat (first | (with_reducible first | exact HB.out | apply below_alloc | apply pw_below_drewN | apply below_drew1) | exact HB.out)) hb); clear HB; have HB := n0_; clear n0_; (try clear hb); (try clear hb2); (try clear hk); (try clear hi)))
                      go_ret
                      exact ⟨by first | rfl | (simp [errW_none, errW_some] <;> rfl) | (simp [*, errW_none, errW_some] <;> rfl), by repeat (first | (with_reducible first | exact HB.out | apply below_alloc | apply pw_below_drewN | apply below_drew1) | exact HB.out)⟩
                    · rw [if_neg c29] at H
                      have c29b0 : (a0.toList == ([112, 97, 114, 97] : List UInt8)) = false := beq_eq_false_iff_ne.mpr c29
                      have c29b1 : (a0.toList != ([112, 97, 114, 97] : List UInt8)) = true := bne_iff_ne.mpr c29
                      by_cases c32 : a0.toList = ([109, 105, 100, 100, 111, 116] : List UInt8)
                      · rw [if_pos c32] at H
                        have c32b0 : (a0.toList == ([109, 105, 100, 100, 111, 116] : List UInt8)) = true := beq_iff_eq.mpr c32
                        have c32b1 : (a0.toList != ([109, 105, 100, 100, 111, 116] : List UInt8)) = false := bne_eq_false_iff_eq.mpr c32
                        clear c32
                        replace H := Option.bind_eq_some_iff.mp H
                        obtain ⟨t135, A330, H⟩ := H
                        replace H : (some t135) = some r := H
                        have A33 := Aside0.mk A330
                        clear A330
                        obtain rfl := Option.some.inj H
                        go_enter Tryz.func63, Tryz.ntmps63
                        go_wp2_with (first | ((with_reducible refine gate_callee (f := 104) rfl ?_); refine goesL_ (some 36) rfl rfl Tryz.func104 (by kernel_rfl) rfl #[.int .i64 183] rfl (by (try simp only [List.map_toArray, List.map_cons, List.map_nil]); first | done | rfl | (simp only [List.length_drop, List.length_take]; rfl)) ?_; (with_reducible refine (scriptoriumref01_Put.calls 183 t135 _ ?side1 A33.out).mono ?_); (case side1 => (first | (with_reducible first | exact HG.out | exact GW.drewN HG.out _ | exact GW.drewN (GW.drewN HG.out _) _) | exact GW.below HG.out (by repeat (first | (with_reducible first | exact HB.out | apply below_alloc | apply pw_below_drewN | apply below_drew1) | exact HB.out)))); rintro e w34 ⟨rfl, hb⟩; refine ⟨_, rfl, ?_⟩; have n0_ := Aside0.mk (below_step (by repeat (first | (with_reducible first | exact HB.out | apply below_alloc | apply pw_below_drewN | apply below_drew1) | exact HB.out)) hb); clear HB; have HB := n0_; clear n0_; (try clear hb); (try clear hb2); (try clear hk); (try clear hi)))
                        go_ret
                        exact ⟨by first | rfl | (simp [errW_none, errW_some] <;> rfl) | (simp [*, errW_none, errW_some] <;> rfl), by repeat (first | (with_reducible first | exact HB.out | apply below_alloc | apply pw_below_drewN | apply below_drew1) | exact HB.out)⟩
                      · rw [if_neg c32] at H
                        have c32b0 : (a0.toList == ([109, 105, 100, 100, 111, 116] : List UInt8)) = false := beq_eq_false_iff_ne.mpr c32
                        have c32b1 : (a0.toList != ([109, 105, 100, 100, 111, 116] : List UInt8)) = true := bne_iff_ne.mpr c32
                        by_cases c35 : a0.toList = ([102, 114, 97, 99, 49, 50] : List UInt8)
                        · rw [if_pos c35] at H
                          have c35b0 : (a0.toList == ([102, 114, 97, 99, 49, 50] : List UInt8)) = true := beq_iff_eq.mpr c35
                          have c35b1 : (a0.toList != ([102, 114, 97, 99, 49, 50] : List UInt8)) = false := bne_eq_false_iff_eq.mpr c35
                          clear c35
                          replace H := Option.bind_eq_some_iff.mp H
                          obtain ⟨t136, A360, H⟩ := H
                          replace H : (some t136) = some r := H
                          have A36 := Aside0.mk A360
                          clear A360
                          obtain rfl := Option.some.inj H
                          go_enter Tryz.func63, Tryz.ntmps63
                          go_wp2_with (first | ((with_reducible refine gate_callee (f := 104) rfl ?_); refine goesL_ (some 39) rfl rfl Tryz.func104 (by kernel_rfl) rfl #[.int .i64 189] rfl (by (try simp only [List.map_toArray, List.map_cons, List.map_nil]); first | done | rfl | (simp only [List.length_drop, List.length_take]; rfl)) ?_; (with_reducible refine (scriptoriumref01_Put.calls 189 t136 _ ?side1 A36.out).mono ?_); (case side1 => (first | (with_reducible first | exact HG.out | exact GW.drewN HG.out _ | exact GW.drewN (GW.drewN HG.out _) _) | exact GW.below HG.out (by repeat (first | (with_reducible first | exact HB.out | apply below_alloc | apply pw_below_drewN | apply below_drew1) | exact HB.out)))); rintro e w37 ⟨rfl, hb⟩; refine ⟨_, rfl, ?_⟩; have n0_ := Aside0.mk (below_step (by repeat (first | (with_reducible first | exact HB.out | apply below_alloc | apply pw_below_drewN | apply below_drew1) | exact HB.out)) hb); clear HB; have HB := n0_; clear n0_; (try clear hb); (try clear hb2); (try clear hk); (try clear hi)))
                          go_ret
                          exact ⟨by first | rfl | (simp [errW_none, errW_some] <;> rfl) | (simp [*, errW_none, errW_some] <;> rfl), by repeat (first | (with_reducible first | exact HB.out | apply below_alloc | apply pw_below_drewN | apply below_drew1) | exact HB.out)⟩
                        · rw [if_neg c35] at H
                          have c35b0 : (a0.toList == ([102, 114, 97, 99, 49, 50] : List UInt8)) = false := beq_eq_false_iff_ne.mpr c35
                          have c35b1 : (a0.toList != ([102, 114, 97, 99, 49, 50] : List UInt8)) = true := bne_iff_ne.mpr c35
                          by_cases c38 : a0.toList = ([102, 114, 97, 99, 51, 52] : List UInt8)
                          · rw [if_pos c38] at H
                            have c38b0 : (a0.toList == ([102, 114, 97, 99, 51, 52] : List UInt8)) = true := beq_iff_eq.mpr c38
                            have c38b1 : (a0.toList != ([102, 114, 97, 99, 51, 52] : List UInt8)) = false := bne_eq_false_iff_eq.mpr c38
                            clear c38
                            replace H := Option.bind_eq_some_iff.mp H
                            obtain ⟨t137, A390, H⟩ := H
                            replace H : (some t137) = some r := H
                            have A39 := Aside0.mk A390
                            clear A390
                            obtain rfl := Option.some.inj H
                            go_enter Tryz.func63, Tryz.ntmps63
                            go_wp2_with (first | ((with_reducible refine gate_callee (f := 104) rfl ?_); refine goesL_ (some 42) rfl rfl Tryz.func104 (by kernel_rfl) rfl #[.int .i64 190] rfl (by (try simp only [List.map_toArray, List.map_cons, List.map_nil]); first | done | rfl | (simp only [List.length_drop, List.length_take]; rfl)) ?_; (with_reducible refine (scriptoriumref01_Put.calls 190 t137 _ ?side1 A39.out).mono ?_); (case side1 => (first | (with_reducible first | exact HG.out | exact GW.drewN HG.out _ | exact GW.drewN (GW.drewN HG.out _) _) | exact GW.below HG.out (by repeat (first | (with_reducible first | exact HB.out | apply below_alloc | apply pw_below_drewN | apply below_drew1) | exact HB.out)))); rintro e w40 ⟨rfl, hb⟩; refine ⟨_, rfl, ?_⟩; have n0_ := Aside0.mk (below_step (by repeat (first | (with_reducible first | exact HB.out | apply below_alloc | apply pw_below_drewN | apply below_drew1) | exact HB.out)) hb); clear HB; have HB := n0_; clear n0_; (try clear hb); (try clear hb2); (try clear hk); (try clear hi)))
                            go_ret
                            exact ⟨by first | rfl | (simp [errW_none, errW_some] <;> rfl) | (simp [*, errW_none, errW_some] <;> rfl), by repeat (first | (with_reducible first | exact HB.out | apply below_alloc | apply pw_below_drewN | apply below_drew1) | exact HB.out)⟩
                          · rw [if_neg c38] at H
                            have c38b0 : (a0.toList == ([102, 114, 97, 99, 51, 52] : List UInt8)) = false := beq_eq_false_iff_ne.mpr c38
                            have c38b1 : (a0.toList != ([102, 114, 97, 99, 51, 52] : List UInt8)) = true := bne_iff_ne.mpr c38
                            by_cases c41 : a0.toList = ([116, 105, 109, 101, 115] : List UInt8)
                            · rw [if_pos c41] at H
                              have c41b0 : (a0.toList == ([116, 105, 109, 101, 115] : List UInt8)) = true := beq_iff_eq.mpr c41
                              have c41b1 : (a0.toList != ([116, 105, 109, 101, 115] : List UInt8)) = false := bne_eq_false_iff_eq.mpr c41
                              clear c41
                              replace H := Option.bind_eq_some_iff.mp H
                              obtain ⟨t138, A420, H⟩ := H
                              replace H : (some t138) = some r := H
                              have A42 := Aside0.mk A420
                              clear A420
                              obtain rfl := Option.some.inj H
                              go_enter Tryz.func63, Tryz.ntmps63
                              go_wp2_with (first | ((with_reducible refine gate_callee (f := 104) rfl ?_); refine goesL_ (some 45) rfl rfl Tryz.func104 (by kernel_rfl) rfl #[.int .i64 215] rfl (by (try simp only [List.map_toArray, List.map_cons, List.map_nil]); first | done | rfl | (simp only [List.length_drop, List.length_take]; rfl)) ?_; (with_reducible refine (scriptoriumref01_Put.calls 215 t138 _ ?side1 A42.out).mono ?_); (case side1 => (first | (with_reducible first | exact HG.out | exact GW.drewN HG.out _ | exact GW.drewN (GW.drewN HG.out _) _) | exact GW.below HG.out (by repeat (first | (with_reducible first | exact HB.out | apply below_alloc | apply pw_below_drewN | apply below_drew1) | exact HB.out)))); rintro e w43 ⟨rfl, hb⟩; refine ⟨_, rfl, ?_⟩; have n0_ := Aside0.mk (below_step (by repeat (first | (with_reducible first | exact HB.out | apply below_alloc | apply pw_below_drewN | apply below_drew1) | exact HB.out)) hb); clear HB; have HB := n0_; clear n0_; (try clear hb); (try clear hb2); (try clear hk); (try clear hi)))
                              go_ret
                              exact ⟨by first | rfl | (simp [errW_none, errW_some] <;> rfl) | (simp [*, errW_none, errW_some] <;> rfl), by repeat (first | (with_reducible first | exact HB.out | apply below_alloc | apply pw_below_drewN | apply below_drew1) | exact HB.out)⟩
                            · rw [if_neg c41] at H
                              have c41b0 : (a0.toList == ([116, 105, 109, 101, 115] : List UInt8)) = false := beq_eq_false_iff_ne.mpr c41
                              have c41b1 : (a0.toList != ([116, 105, 109, 101, 115] : List UInt8)) = true := bne_iff_ne.mpr c41
                              by_cases c44 : a0.toList = ([100, 105, 118, 105, 100, 101] : List UInt8)
                              · rw [if_pos c44] at H
                                have c44b0 : (a0.toList == ([100, 105, 118, 105, 100, 101] : List UInt8)) = true := beq_iff_eq.mpr c44
                                have c44b1 : (a0.toList != ([100, 105, 118, 105, 100, 101] : List UInt8)) = false := bne_eq_false_iff_eq.mpr c44
                                clear c44
                                replace H := Option.bind_eq_some_iff.mp H
                                obtain ⟨t139, A450, H⟩ := H
                                replace H : (some t139) = some r := H
                                have A45 := Aside0.mk A450
                                clear A450
                                obtain rfl := Option.some.inj H
                                go_enter Tryz.func63, Tryz.ntmps63
                                go_wp2_with (first | ((with_reducible refine gate_callee (f := 104) rfl ?_); refine goesL_ (some 48) rfl rfl Tryz.func104 (by kernel_rfl) rfl #[.int .i64 247] rfl (by (try simp only [List.map_toArray, List.map_cons, List.map_nil]); first | done | rfl | (simp only [List.length_drop, List.length_take]; rfl)) ?_; (with_reducible refine (scriptoriumref01_Put.calls 247 t139 _ ?side1 A45.out).mono ?_); (case side1 => (first | (with_reducible first | exact HG.out | exact GW.drewN HG.out _ | exact GW.drewN (GW.drewN HG.out _) _) | exact GW.below HG.out (by repeat (first | (with_reducible first | exact HB.out | apply below_alloc | apply pw_below_drewN | apply below_drew1) | exact HB.out)))); rintro e w46 ⟨rfl, hb⟩; refine ⟨_, rfl, ?_⟩; have n0_ := Aside0.mk (below_step (by repeat (first | (with_reducible first | exact HB.out | apply below_alloc | apply pw_below_drewN | apply below_drew1) | exact HB.out)) hb); clear HB; have HB := n0_; clear n0_; (try clear hb); (try clear hb2); (try clear hk); (try clear hi)))
                                go_ret
                                exact ⟨by first | rfl | (simp [errW_none, errW_some] <;> rfl) | (simp [*, errW_none, errW_some] <;> rfl), by repeat (first | (with_reducible first | exact HB.out | apply below_alloc | apply pw_below_drewN | apply below_drew1) | exact HB.out)⟩
                              · rw [if_neg c44] at H
                                have c44b0 : (a0.toList == ([100, 105, 118, 105, 100, 101] : List UInt8)) = false := beq_eq_false_iff_ne.mpr c44
                                have c44b1 : (a0.toList != ([100, 105, 118, 105, 100, 101] : List UInt8)) = true := bne_iff_ne.mpr c44
                                by_cases c47 : a0.toList = ([97, 117, 109, 108] : List UInt8)
                                · rw [if_pos c47] at H
                                  have c47b0 : (a0.toList == ([97, 117, 109, 108] : List UInt8)) = true := beq_iff_eq.mpr c47
                                  have c47b1 : (a0.toList != ([97, 117, 109, 108] : List UInt8)) = false := bne_eq_false_iff_eq.mpr c47
                                  clear c47
                                  replace H := Option.bind_eq_some_iff.mp H
                                  obtain ⟨t140, A480, H⟩ := H
                                  replace H : (some t140) = some r := H
                                  have A48 := Aside0.mk A480
                                  clear A480
                                  obtain rfl := Option.some.inj H
                                  go_enter Tryz.func63, Tryz.ntmps63
                                  go_wp2_with (first | ((with_reducible refine gate_callee (f := 104) rfl ?_); refine goesL_ (some 51) rfl rfl Tryz.func104 (by kernel_rfl) rfl #[.int .i64 228] rfl (by (try simp only [List.map_toArray, List.map_cons, List.map_nil]); first | done | rfl | (simp only [List.length_drop, List.length_take]; rfl)) ?_; (with_reducible refine (scriptoriumref01_Put.calls 228 t140 _ ?side1 A48.out).mono ?_); (case side1 => (first | (with_reducible first | exact HG.out | exact GW.drewN HG.out _ | exact GW.drewN (GW.drewN HG.out _) _) | exact GW.below HG.out (by repeat (first | (with_reducible first | exact HB.out | apply below_alloc | apply pw_below_drewN | apply below_drew1) | exact HB.out)))); rintro e w49 ⟨rfl, hb⟩; refine ⟨_, rfl, ?_⟩; have n0_ := Aside0.mk (below_step (by repeat (first | (with_reducible first | exact HB.out | apply below_alloc | apply pw_below_drewN | apply below_drew1) | exact HB.out)) hb); clear HB; have HB := n0_; clear n0_; (try clear hb); (try clear hb2); (try clear hk); (try clear hi)))
                                  go_ret
                                  exact ⟨by first | rfl | (simp [errW_none, errW_some] <;> rfl) | (simp [*, errW_none, errW_some] <;> rfl), by repeat (first | (with_reducible first | exact HB.out | apply below_alloc | apply pw_below_drewN | apply below_drew1) | exact HB.out)⟩
                                · rw [if_neg c47] at H
                                  have c47b0 : (a0.toList == ([97, 117, 109, 108] : List UInt8)) = false := beq_eq_false_iff_ne.mpr c47
                                  have c47b1 : (a0.toList != ([97, 117, 109, 108] : List UInt8)) = true := bne_iff_ne.mpr c47
                                  by_cases c50 : a0.toList = ([65, 117, 109, 108] : List UInt8)
                                  · rw [if_pos c50] at H
                                    have c50b0 : (a0.toList == ([65, 117, 109, 108] : List UInt8)) = true := beq_iff_eq.mpr c50
                                    have c50b1 : (a0.toList != ([65, 117, 109, 108] : List UInt8)) = false := bne_eq_false_iff_eq.mpr c50
                                    clear c50
                                    replace H := Option.bind_eq_some_iff.mp H
                                    obtain ⟨t141, A510, H⟩ := H
                                    replace H : (some t141) = some r := H
                                    have A51 := Aside0.mk A510
                                    clear A510
                                    obtain rfl := Option.some.inj H
                                    go_enter Tryz.func63, Tryz.ntmps63
                                    go_wp2_with (first | ((with_reducible refine gate_callee (f := 104) rfl ?_); refine goesL_ (some 54) rfl rfl Tryz.func104 (by kernel_rfl) rfl #[.int .i64 196] rfl (by (try simp only [List.map_toArray, List.map_cons, List.map_nil]); first | done | rfl | (simp only [List.length_drop, List.length_take]; rfl)) ?_; (with_reducible refine (scriptoriumref01_Put.calls 196 t141 _ ?side1 A51.out).mono ?_); (case side1 => (first | (with_reducible first | exact HG.out | exact GW.drewN HG.out _ | exact GW.drewN (GW.drewN HG.out _) _) | exact GW.below HG.out (by repeat (first | (with_reducible first | exact HB.out | apply below_alloc | apply pw_below_drewN | apply below_drew1) | exact HB.out)))); rintro e w52 ⟨rfl, hb⟩; refine ⟨_, rfl, ?_⟩; have n0_ := Aside0.mk (below_step (by repeat (first | (with_reducible first | exact HB.out | apply below_alloc | apply pw_below_drewN | apply below_drew1) | exact HB.out)) hb); clear HB; have HB := n0_; clear n0_; (try clear hb); (try clear hb2); (try clear hk); (try clear hi)))
                                    go_ret
                                    exact ⟨by first | rfl | (simp [errW_none, errW_some] <;> rfl) | (simp [*, errW_none, errW_some] <;> rfl), by repeat (first | (with_reducible first | exact HB.out | apply below_alloc | apply pw_below_drewN | apply below_drew1) | exact HB.out)⟩
                                  · rw [if_neg c50] at H
                                    have c50b0 : (a0.toList == ([65, 117, 109, 108] : List UInt8)) = false := beq_eq_false_iff_ne.mpr c50
                                    have c50b1 : (a0.toList != ([65, 117, 109, 108] : List UInt8)) = true := bne_iff_ne.mpr c50
                                    by_cases c53 : a0.toList = ([111, 117, 109, 108] : List UInt8)
                                    · rw [if_pos c53] at H
                                      have c53b0 : (a0.toList == ([111, 117, 109, 108] : List UInt8)) = true := beq_iff_eq.mpr c53
                                      have c53b1 : (a0.toList != ([111, 117, 109, 108] : List UInt8)) = false := bne_eq_false_iff_eq.mpr c53
                                      clear c53
                                      replace H := Option.bind_eq_some_iff.mp H
                                      obtain ⟨t142, A540, H⟩ := H
                                      replace H : (some t142) = some r := H
                                      have A54 := Aside0.mk A540
                                      clear A540
                                      obtain rfl := Option.some.inj H
                                      go_enter Tryz.func63, Tryz.ntmps63
                                      go_wp2_with (first | ((with_reducible refine gate_callee (f := 104) rfl ?_); refine goesL_ (some 57) rfl rfl Tryz.func104 (by kernel_rfl) rfl #[.int .i64 246] rfl (by (try simp only [List.map_toArray, List.map_cons, List.map_nil]); first | done | rfl | (simp only [List.length_drop, List.length_take]; rfl)) ?_; (with_reducible refine (scriptoriumref01_Put.calls 246 t142 _ ?side1 A54.out).mono ?_); (case side1 => (first | (with_reducible first | exact HG.out | exact GW.drewN HG.out _ | exact GW.drewN (GW.drewN HG.out _) _) | exact GW.below HG.out (by repeat (first | (with_reducible first | exact HB.out | apply below_alloc | apply pw_below_drewN | apply below_drew1) | exact HB.out)))); rintro e w55 ⟨rfl, hb⟩; refine ⟨_, rfl, ?_⟩; have n0_ := Aside0.mk (below_step (by repeat (first | (with_reducible first | exact HB.out | apply below_alloc | apply pw_below_drewN | apply below_drew1) | exact HB.out)) hb); clear HB; have HB := n0_; clear n0_; (try clear hb); (try clear hb2); (try clear hk); (try clear hi)))
                                      go_ret
                                      exact ⟨by first | rfl | (simp [errW_none, errW_some] <;> rfl) | (simp [*, errW_none, errW_some] <;> rfl), by repeat (first | (with_reducible first | exact HB.out | apply below_alloc | apply pw_below_drewN | apply below_drew1) | exact HB.out)⟩
                                    · rw [if_neg c53] at H
                                      have c53b0 : (a0.toList == ([111, 117, 109, 108] : List UInt8)) = false := beq_eq_false_iff_ne.mpr c53
                                      have c53b1 : (a0.toList != ([111, 117, 109, 108] : List UInt8)) = true := bne_iff_ne.mpr c53
                                      by_cases c56 : a0.toList = ([79, 117, 109, 108] : List UInt8)
                                      · rw [if_pos c56] at H
                                        have c56b0 : (a0.toList == ([79, 117, 109, 108] : List UInt8)) = true := beq_iff_eq.mpr c56
                                        have c56b1 : (a0.toList != ([79, 117, 109, 108] : List UInt8)) = false := bne_eq_false_iff_eq.mpr c56
                                        clear c56
                                        replace H := Option.bind_eq_some_iff.mp H
                                        obtain ⟨t143, A570, H⟩ := H
                                        replace H : (some t143) = some r := H
                                        have A57 := Aside0.mk A570
                                        clear A570
                                        obtain rfl := Option.some.inj H
                                        go_enter Tryz.func63, Tryz.ntmps63
                                        go_wp2_with (first | ((with_reducible refine gate_callee (f := 104) rfl ?_); refine goesL_ (some 60) rfl rfl Tryz.func104 (by kernel_rfl) rfl #[.int .i64 214] rfl (by (try simp only [List.map_toArray, List.map_cons, List.map_nil]); first | done | rfl | (simp only [List.length_drop, List.length_take]; rfl)) ?_; (with_reducible refine (scriptoriumref01_Put.calls 214 t143 _ ?side1 A57.out).mono ?_); (case side1 => (first | (with_reducible first | exact HG.out | exact GW.drewN HG.out _ | exact GW.drewN (GW.drewN HG.out _) _) | exact GW.below HG.out (by repeat (first | (with_reducible first | exact HB.out | apply below_alloc | apply pw_below_drewN | apply below_drew1) | exact HB.out)))); rintro e w58 ⟨rfl, hb⟩; refine ⟨_, rfl, ?_⟩; have n0_ := Aside0.mk (below_step (by repeat (first | (with_reducible first | exact HB.out | apply below_alloc | apply pw_below_drewN | apply below_drew1) | exact HB.out)) hb); clear HB; have HB := n0_; clear n0_; (try clear hb); (try clear hb2); (try clear hk); (try clear hi)))
                                        go_ret
                                        exact ⟨by first | rfl | (simp [errW_none, errW_some] <;> rfl) | (simp [*, errW_none, errW_some] <;> rfl), by repeat (first | (with_reducible first | exact HB.out | apply below_alloc | apply pw_below_drewN | apply below_drew1) | exact HB.out)⟩
                                      · rw [if_neg c56] at H
                                        have c56b0 : (a0.toList == ([79, 117, 109, 108] : List UInt8)) = false := beq_eq_false_iff_ne.mpr c56
                                        have c56b1 : (a0.toList != ([79, 117, 109, 108] : List UInt8)) = true := bne_iff_ne.mpr c56
                                        by_cases c59 : a0.toList = ([117, 117, 109, 108] : List UInt8)
                                        · rw [if_pos c59] at H
                                          have c59b0 : (a0.toList == ([117, 117, 109, 108] : List UInt8)) = true := beq_iff_eq.mpr c59
                                          have c59b1 : (a0.toList != ([117, 117, 109, 108] : List UInt8)) = false := bne_eq_false_iff_eq.mpr c59
                                          clear c59
                                          replace H := Option.bind_eq_some_iff.mp H
                                          obtain ⟨t144, A600, H⟩ := H
                                          replace H : (some t144) = some r := H
                                          have A60 := Aside0.mk A600
                                          clear A600
                                          obtain rfl := Option.some.inj H
                                          go_enter Tryz.func63, Tryz.ntmps63
                                          go_wp2_with (first | ((with_reducible refine gate_callee (f := 104) rfl ?_); refine goesL_ (some 63) rfl rfl Tryz.func104 (by kernel_rfl) rfl #[.int .i64 252] rfl (by (try simp only [List.map_toArray, List.map_cons, List.map_nil]); first | done | rfl | (simp only [List.length_drop, List.length_take]; rfl)) ?_; (with_reducible refine (scriptoriumref01_Put.calls 252 t144 _ ?side1 A60.out).mono ?_); (case side1 => (first | (with_reducible first | exact HG.out | exact GW.drewN HG.out _ | exact GW.drewN (GW.drewN HG.out _) _) | exact GW.below HG.out (by repeat (first | (with_reducible first | exact HB.out | apply below_alloc | apply pw_below_drewN | apply below_drew1) | exact HB.out)))); rintro e w61 ⟨rfl, hb⟩; refine ⟨_, rfl, ?_⟩; have n0_ := Aside0.mk (below_step (by repeat (first | (with_reducible first | exact HB.out | apply below_alloc | apply pw_below_drewN | apply below_drew1) | exact HB.out)) hb); clear HB; have HB := n0_; clear n0_; (try clear hb); (try clear hb2); (try clear hk); (try clear hi)))
                                          go_ret
                                          exact ⟨by first | rfl | (simp [errW_none, errW_some] <;> rfl) | (simp [*, errW_none, errW_some] <;> rfl), by repeat (first | (with_reducible first | exact HB.out | apply below_alloc | apply pw_below_drewN | apply below_drew1) | exact HB.out)⟩
                                        · rw [if_neg c59] at H
                                          have c59b0 : (a0.toList == ([117, 117, 109, 108] : List UInt8)) = false := beq_eq_false_iff_ne.mpr c59
                                          have c59b1 : (a0.toList != ([117, 117, 109, 108] : List UInt8)) = true := bne_iff_ne.mpr c59
                                          by_cases c62 : a0.toList = ([85, 117, 109, 108] : List UInt8)
                                          · rw [if_pos c62] at H
                                            have c62b0 : (a0.toList == ([85, 117, 109, 108] : List UInt8)) = true := beq_iff_eq.mpr c62
                                            have c62b1 : (a0.toList != ([85, 117, 109, 108] : List UInt8)) = false := bne_eq_false_iff_eq.mpr c62
                                            clear c62
                                            replace H := Option.bind_eq_some_iff.mp H
                                            obtain ⟨t145, A630, H⟩ := H
                                            replace H : (some t145) = some r := H
                                            have A63 := Aside0.mk A630
                                            clear A630
                                            obtain rfl := Option.some.inj H
                                            go_enter Tryz.func63, Tryz.ntmps63
                                            go_wp2_with (first | ((with_reducible refine gate_callee (f := 104) rfl ?_); refine goesL_ (some 66) rfl rfl Tryz.func104 (by kernel_rfl) rfl #[.int .i64 220] rfl (by (try simp only [List.map_toArray, List.map_cons, List.map_nil]); first | done | rfl | (simp only [List.length_drop, List.length_take]; rfl)) ?_; (with_reducible refine (scriptoriumref01_Put.calls 220 t145 _ ?side1 A63.out).mono ?_); (case side1 => (first | (with_reducible first | exact HG.out | exact GW.drewN HG.out _ | exact GW.drewN (GW.drewN HG.out _) _) | exact GW.below HG.out (by repeat (first | (with_reducible first | exact HB.out | apply below_alloc | apply pw_below_drewN | apply below_drew1) | exact HB.out)))); rintro e w64 ⟨rfl, hb⟩; refine ⟨_, rfl, ?_⟩; have n0_ := Aside0.mk (below_step (by repeat (first | (with_reducible first | exact HB.out | apply below_alloc | apply pw_below_drewN | apply below_drew1) | exact HB.out)) hb); clear HB; have HB := n0_; clear n0_; (try clear hb); (try clear hb2); (try clear hk); (try clear hi)))
                                            go_ret
                                            exact ⟨by first | rfl | (simp [errW_none, errW_some] <;> rfl) | (simp [*, errW_none, errW_some] <;> rfl), by repeat (first | (with_reducible first | exact HB.out | apply below_alloc | apply pw_below_drewN | apply below_drew1) | exact HB.out)⟩
                                          · rw [if_neg c62] at H
                                            have c62b0 : (a0.toList == ([85, 117, 109, 108] : List UInt8)) = false := beq_eq_false_iff_ne.mpr c62
                                            have c62b1 : (a0.toList != ([85, 117, 109, 108] : List UInt8)) = true := bne_iff_ne.mpr c62
                                            by_cases c65 : a0.toList = ([115, 122, 108, 105, 103] : List UInt8)
                                            · rw [if_pos c65] at H
                                              have c65b0 : (a0.toList == ([115, 122, 108, 105, 103] : List UInt8)) = true := beq_iff_eq.mpr c65
                                              have c65b1 : (a0.toList != ([115, 122, 108, 105, 103] : List UInt8)) = false := bne_eq_false_iff_eq.mpr c65
                                              clear c65
                                              replace H := Option.bind_eq_some_iff.mp H
                                              obtain ⟨t146, A660, H⟩ := H
                                              replace H : (some t146) = some r := H
                                              have A66 := Aside0.mk A660
                                              clear A660
                                              obtain rfl := Option.some.inj H
                                              go_enter Tryz.func63, Tryz.ntmps63
                                              go_wp2_with (first | ((with_reducible refine gate_callee (f := 104) rfl ?_); refine goesL_ (some 69) rfl rfl Tryz.func104 (by kernel_rfl) rfl #[.int .i64 223] rfl (by (try simp only [List.map_toArray, List.map_cons, List.map_nil]); first | done | rfl | (simp only [List.length_drop, List.length_take]; rfl)) ?_; (with_reducible refine (scriptoriumref01_Put.calls 223 t146 _ ?side1 A66.out).mono ?_); (case side1 => (first | (with_reducible first | exact HG.out | exact GW.drewN HG.out _ | exact GW.drewN (GW.drewN HG.out _) _) | exact GW.below HG.out (by repeat (first | (with_reducible first | exact HB.out | apply below_alloc | apply pw_below_drewN | apply below_drew1) | exact HB.out)))); rintro e w67 ⟨rfl, hb⟩; refine ⟨_, rfl, ?_⟩; have n0_ := Aside0.mk (below_step (by repeat (first | (with_reducible first | exact HB.out | apply below_alloc | apply pw_below_drewN | apply below_drew1) | exact HB.out)) hb); clear HB; have HB := n0_; clear n0_; (try clear hb); (try clear hb2); (try clear hk); (try clear hi)))
                                              go_ret
                                              exact ⟨by first | rfl | (simp [errW_none, errW_some] <;> rfl) | (simp [*, errW_none, errW_some] <;> rfl), by repeat (first | (with_reducible first | exact HB.out | apply below_alloc | apply pw_below_drewN | apply below_drew1) | exact HB.out)⟩
                                            · rw [if_neg c65] at H
                                              have c65b0 : (a0.toList == ([115, 122, 108, 105, 103] : List UInt8)) = false := beq_eq_false_iff_ne.mpr c65
                                              have c65b1 : (a0.toList != ([115, 122, 108, 105, 103] : List UInt8)) = true := bne_iff_ne.mpr c65
                                              by_cases c68 : a0.toList = ([101, 97, 99, 117, 116, 101] : List UInt8)
                                              · rw [if_pos c68] at H
                                                have c68b0 : (a0.toList == ([101, 97, 99, 117, 116, 101] : List UInt8)) = true := beq_iff_eq.mpr c68
                                                have c68b1 : (a0.toList != ([101, 97, 99, 117, 116, 101] : List UInt8)) = false := bne_eq_false_iff_eq.mpr c68
                                                clear c68
                                                replace H := Option.bind_eq_some_iff.mp H
                                                obtain ⟨t147, A690, H⟩ := H
                                                replace H : (some t147) = some r := H
                                                have A69 := Aside0.mk A690
                                                clear A690
                                                obtain rfl := Option.some.inj H
                                                go_enter Tryz.func63, Tryz.ntmps63
                                                go_wp2_with (first | ((with_reducible refine gate_callee (f := 104) rfl ?_); refine goesL_ (some 72) rfl rfl Tryz.func104 (by kernel_rfl) rfl #[.int .i64 233] rfl (by (try simp only [List.map_toArray, List.map_cons, List.map_nil]); first | done | rfl | (simp only [List.length_drop, List.length_take]; rfl)) ?_; (with_reducible refine (scriptoriumref01_Put.calls 233 t147 _ ?side1 A69.out).mono ?_); (case side1 => (first | (with_reducible first | exact HG.out | exact GW.drewN HG.out _ | exact GW.drewN (GW.drewN HG.out _) _) | exact GW.below HG.out (by repeat (first | (with_reducible first | exact HB.out | apply below_alloc | apply pw_below_drewN | apply below_drew1) | exact HB.out)))); rintro e w70 ⟨rfl, hb⟩; refine ⟨_, rfl, ?_⟩; have n0_ := Aside0.mk (below_step (by repeat (first | (with_reducible first | exact HB.out | apply below_alloc | apply pw_below_drewN | apply below_drew1) | exact HB.out)) hb); clear HB; have HB := n0_; clear n0_; (try clear hb); (try clear hb2); (try clear hk); (try clear hi)))
                                                go_ret
                                                exact ⟨by first | rfl | (simp [errW_none, errW_some] <;> rfl) | (simp [*, errW_none, errW_some] <;> rfl), by repeat (first | (with_reducible first | exact HB.out | apply below_alloc | apply pw_below_drewN | apply below_drew1) | exact HB.out)⟩
                                              · rw [if_neg c68] at H
                                                have c68b0 : (a0.toList == ([101, 97, 99, 117, 116, 101] : List UInt8)) = false := beq_eq_false_iff_ne.mpr c68
                                                have c68b1 : (a0.toList != ([101, 97, 99, 117, 116, 101] : List UInt8)) = true := bne_iff_ne.mpr c68
                                                by_cases c71 : a0.toList = ([101, 103, 114, 97, 118, 101] : List UInt8)
                                                · rw [if_pos c71] at H
                                                  have c71b0 : (a0.toList == ([101, 103, 114, 97, 118, 101] : List UInt8)) = true := beq_iff_eq.mpr c71
                                                  have c71b1 : (a0.toList != ([101, 103, 114, 97, 118, 101] : List UInt8)) = false := bne_eq_false_iff_eq.mpr c71
                                                  clear c71
                                                  replace H := Option.bind_eq_some_iff.mp H
                                                  obtain ⟨t148, A720, H⟩ := H
                                                  replace H : (some t148) = some r := H
                                                  have A72 := Aside0.mk A720
                                                  clear A720
                                                  obtain rfl := Option.some.inj H
                                                  go_enter Tryz.func63, Tryz.ntmps63
                                                  go_wp2_with (first | ((with_reducible refine gate_callee (f := 104) rfl ?_); refine goesL_ (some 75) rfl rfl Tryz.func104 (by kernel_rfl) rfl #[.int .i64 232] rfl (by (try simp only [List.map_toArray, List.map_cons, List.map_nil]); first | done | rfl | (simp only [List.length_drop, List.length_take]; rfl)) ?_; (with_reducible refine (scriptoriumref01_Put.calls 232 t148 _ ?side1 A72.out).mono ?_); (case side1 => (first | (with_reducible first | exact HG.out | exact GW.drewN HG.out _ | exact GW.drewN (GW.drewN HG.out _) _) | exact GW.below HG.out (by repeat (first | (with_reducible first | exact HB.out | apply below_alloc | apply pw_below_drewN | apply below_drew1) | exact HB.out)))); rintro e w73 ⟨rfl, hb⟩; refine ⟨_, rfl, ?_⟩; have n0_ := Aside0.mk (below_step (by repeat (first | (with_reducible first | exact HB.out | apply below_alloc | apply pw_below_drewN | apply below_drew1) | exact HB.out)) hb); clear HB; have HB := n0_; clear n0_; (try clear hb); (try clear hb2); (try clear hk); (try clear hi)))
                                                  go_ret
                                                  exact ⟨by first | rfl | (simp [errW_none, errW_some] <;> rfl) | (simp [*, errW_none, errW_some] <;> rfl), by repeat (first | (with_reducible first | exact HB.out | apply below_alloc | apply pw_below_drewN | apply below_drew1) | exact HB.out)⟩
                                                · rw [if_neg c71] at H
                                                  have c71b0 : (a0.toList == ([101, 103, 114, 97, 118, 101] : List UInt8)) = false := beq_eq_false_iff_ne.mpr c71
                                                  have c71b1 : (a0.toList != ([101, 103, 114, 97, 118, 101] : List UInt8)) = true := bne_iff_ne.mpr c71
                                                  by_cases c74 : a0.toList = ([97, 103, 114, 97, 118, 101] : List UInt8)
                                                  · rw [if_pos c74] at H
                                                    have c74b0 : (a0.toList == ([97, 103, 114, 97, 118, 101] : List UInt8)) = true := beq_iff_eq.mpr c74
                                                    have c74b1 : (a0.toList != ([97, 103, 114, 97, 118, 101] : List UInt8)) = false := bne_eq_false_iff_eq.mpr c74
                                                    clear c74
                                                    replace H := Option.bind_eq_some_iff.mp H
                                                    obtain ⟨t149, A750, H⟩ := H
                                                    replace H : (some t149) = some r := H
                                                    have A75 := Aside0.mk A750
                                                    clear A750
                                                    obtain rfl := Option.some.inj H
                                                    go_enter Tryz.func63, Tryz.ntmps63
                                                    go_wp2_with (first | ((with_reducible refine gate_callee (f := 104) rfl ?_); refine goesL_ (some 78) rfl rfl Tryz.func104 (by kernel_rfl) rfl #[.int .i64 224] rfl (by (try simp only [List.map_toArray, List.map_cons, List.map_nil]); first | done | rfl | (simp only [List.length_drop, List.length_take]; rfl)) ?_; (with_reducible refine (scriptoriumref01_Put.calls 224 t149 _ ?side1 A75.out).mono ?_); (case side1 => (first | (with_reducible first | exact HG.out | exact GW.drewN HG.out _ | exact GW.drewN (GW.drewN HG.out _) _) | exact GW.below HG.out (by repeat (first | (with_reducible first | exact HB.out | apply below_alloc | apply pw_below_drewN | apply below_drew1) | exact HB.out)))); rintro e w76 ⟨rfl, hb⟩; refine ⟨_, rfl, ?_⟩; have n0_ := Aside0.mk (below_step (by repeat (first | (with_reducible first | exact HB.out | apply below_alloc | apply pw_below_drewN | apply below_drew1) | exact HB.out)) hb); clear HB; have HB := n0_; clear n0_; (try clear hb); (try clear hb2); (try clear hk); (try clear hi)))
                                                    go_ret
                                                    exact ⟨by first | rfl | (simp [errW_none, errW_some] <;> rfl) | (simp [*, errW_none, errW_some] <;> rfl), by repeat (first | (with_reducible first | exact HB.out | apply below_alloc | apply pw_below_drewN | apply below_drew1) | exact HB.out)⟩
                                                  · rw [if_neg c74] at H
                                                    have c74b0 : (a0.toList == ([97, 103, 114, 97, 118, 101] : List UInt8)) = false := beq_eq_false_iff_ne.mpr c74
                                                    have c74b1 : (a0.toList != ([97, 103, 114, 97, 118, 101] : List UInt8)) = true := bne_iff_ne.mpr c74
                                                    by_cases c77 : a0.toList = ([99, 99, 101, 100, 105, 108] : List UInt8)
                                                    · rw [if_pos c77] at H
                                                      have c77b0 : (a0.toList == ([99, 99, 101, 100, 105, 108] : List UInt8)) = true := beq_iff_eq.mpr c77
                                                      have c77b1 : (a0.toList != ([99, 99, 101, 100, 105, 108] : List UInt8)) = false := bne_eq_false_iff_eq.mpr c77
                                                      clear c77
                                                      replace H := Option.bind_eq_some_iff.mp H
                                                      obtain ⟨t150, A780, H⟩ := H
                                                      replace H : (some t150) = some r := H
                                                      have A78 := Aside0.mk A780
                                                      clear A780
                                                      obtain rfl := Option.some.inj H
                                                      go_enter Tryz.func63, Tryz.ntmps63
                                                      go_wp2_with (first | ((with_reducible refine gate_callee (f := 104) rfl ?_); refine goesL_ (some 81) rfl rfl Tryz.func104 (by kernel_rfl) rfl #[.int .i64 231] rfl (by (try simp only [List.map_toArray, List.map_cons, List.map_nil]); first | done | rfl | (simp only [List.length_drop, List.length_take]; rfl)) ?_; (with_reducible refine (scriptoriumref01_Put.calls 231 t150 _ ?side1 A78.out).mono ?_); (case side1 => (first | (with_reducible first | exact HG.out | exact GW.drewN HG.out _ | exact GW.drewN (GW.drewN HG.out _) _) | exact GW.below HG.out (by repeat (first | (with_reducible first | exact HB.out | apply below_alloc | apply pw_below_drewN | apply below_drew1) | exact HB.out)))); rintro e w79 ⟨rfl, hb⟩; refine ⟨_, rfl, ?_⟩; have n0_ := Aside0.mk (below_step (by repeat (first | (with_reducible first | exact HB.out | apply below_alloc | apply pw_below_drewN | apply below_drew1) | exact HB.out)) hb); clear HB; have HB := n0_; clear n0_; (try clear hb); (try clear hb2); (try clear hk); (try clear hi)))
                                                      go_ret
                                                      exact ⟨by first | rfl | (simp [errW_none, errW_some] <;> rfl) | (simp [*, errW_none, errW_some] <;> rfl), by repeat (first | (with_reducible first | exact HB.out | apply below_alloc | apply pw_below_drewN | apply below_drew1) | exact HB.out)⟩
                                                    · rw [if_neg c77] at H
                                                      have c77b0 : (a0.toList == ([99, 99, 101, 100, 105, 108] : List UInt8)) = false := beq_eq_false_iff_ne.mpr c77
                                                      have c77b1 : (a0.toList != ([99, 99, 101, 100, 105, 108] : List UInt8)) = true := bne_iff_ne.mpr c77
                                                      by_cases c80 : a0.toList = ([110, 116, 105, 108, 100, 101] : List UInt8)
                                                      · rw [if_pos c80] at H
                                                        have c80b0 : (a0.toList == ([110, 116, 105, 108, 100, 101] : List UInt8)) = true := beq_iff_eq.mpr c80
                                                        have c80b1 : (a0.toList != ([110, 116, 105, 108, 100, 101] : List UInt8)) = false := bne_eq_false_iff_eq.mpr c80
                                                        clear c80
                                                        replace H := Option.bind_eq_some_iff.mp H
                                                        obtain ⟨t151, A810, H⟩ := H
                                                        replace H : (some t151) = some r := H
                                                        have A81 := Aside0.mk A810
                                                        clear A810
                                                        obtain rfl := Option.some.inj H
                                                        go_enter Tryz.func63, Tryz.ntmps63
                                                        go_wp2_with (first | ((with_reducible refine gate_callee (f := 104) rfl ?_); refine goesL_ (some 84) rfl rfl Tryz.func104 (by kernel_rfl) rfl #[.int .i64 241] rfl (by (try simp only [List.map_toArray, List.map_cons, List.map_nil]); first | done | rfl | (simp only [List.length_drop, List.length_take]; rfl)) ?_; (with_reducible refine (scriptoriumref01_Put.calls 241 t151 _ ?side1 A81.out).mono ?_); (case side1 => (first | (with_reducible first | exact HG.out | exact GW.drewN HG.out _ | exact GW.drewN (GW.drewN HG.out _) _) | exact GW.below HG.out (by repeat (first | (with_reducible first | exact HB.out | apply below_alloc | apply pw_below_drewN | apply below_drew1) | exact HB.out)))); rintro e w82 ⟨rfl, hb⟩; refine ⟨_, rfl, ?_⟩; have n0_ := Aside0.mk (below_step (by repeat (first | (with_reducible first | exact HB.out | apply below_alloc | apply pw_below_drewN | apply below_drew1) | exact HB.out)) hb); clear HB; have HB := n0_; clear n0_; (try clear hb); (try clear hb2); (try clear hk); (try clear hi)))
                                                        go_ret
                                                        exact ⟨by first | rfl | (simp [errW_none, errW_some] <;> rfl) | (simp [*, errW_none, errW_some] <;> rfl), by repeat (first | (with_reducible first | exact HB.out | apply below_alloc | apply pw_below_drewN | apply below_drew1) | exact HB.out)⟩
                                                      · rw [if_neg c80] at H
                                                        have c80b0 : (a0.toList == ([110, 116, 105, 108, 100, 101] : List UInt8)) = false := beq_eq_false_iff_ne.mpr c80
                                                        have c80b1 : (a0.toList != ([110, 116, 105, 108, 100, 101] : List UInt8)) = true := bne_iff_ne.mpr c80
                                                        by_cases c83 : a0.toList = ([65, 69, 108, 105, 103] : List UInt8)
                                                        · rw [if_pos c83] at H
                                                          have c83b0 : (a0.toList == ([65, 69, 108, 105, 103] : List UInt8)) = true := beq_iff_eq.mpr c83
                                                          have c83b1 : (a0.toList != ([65, 69, 108, 105, 103] : List UInt8)) = false := bne_eq_false_iff_eq.mpr c83
                                                          clear c83
                                                          replace H := Option.bind_eq_some_iff.mp H
                                                          obtain ⟨t152, A840, H⟩ := H
                                                          replace H : (some t152) = some r := H
                                                          have A84 := Aside0.mk A840
                                                          clear A840
                                                          obtain rfl := Option.some.inj H
                                                          go_enter Tryz.func63, Tryz.ntmps63
                                                          go_wp2_with (first | ((with_reducible refine gate_callee (f := 104) rfl ?_); refine goesL_ (some 87) rfl rfl Tryz.func104 (by kernel_rfl) rfl #[.int .i64 198] rfl (by (try simp only [List.map_toArray, List.map_cons, List.map_nil]); first | done | rfl | (simp only [List.length_drop, List.length_take]; rfl)) ?_; (with_reducible refine (scriptoriumref01_Put.calls 198 t152 _ ?side1 A84.out).mono ?_); (case side1 => (first | (with_reducible first | exact HG.out | exact GW.drewN HG.out _ | exact GW.drewN (GW.drewN HG.out _) _) | exact GW.below HG.out (by repeat (first | (with_reducible first | exact HB.out | apply below_alloc | apply pw_below_drewN | apply below_drew1) | exact HB.out)))); rintro e w85 ⟨rfl, hb⟩; refine ⟨_, rfl, ?_⟩; have n0_ := Aside0.mk (below_step (by repeat (first | (with_reducible first | exact HB.out | apply below_alloc | apply pw_below_drewN | apply below_drew1) | exact HB.out)) hb); clear HB; have HB := n0_; clear n0_; (try clear hb); (try clear hb2); (try clear hk); (try clear hi)))
                                                          go_ret
                                                          exact ⟨by first | rfl | (simp [errW_none, errW_some] <;> rfl) | (simp [*, errW_none, errW_some] <;> rfl), by repeat (first | (with_reducible first | exact HB.out | apply below_alloc | apply pw_below_drewN | apply below_drew1) | exact HB.out)⟩
                                                        · rw [if_neg c83] at H
                                                          have c83b0 : (a0.toList == ([65, 69, 108, 105, 103] : List UInt8)) = false := beq_eq_false_iff_ne.mpr c83
                                                          have c83b1 : (a0.toList != ([65, 69, 108, 105, 103] : List UInt8)) = true := bne_iff_ne.mpr c83
                                                          by_cases c86 : a0.toList = ([97, 101, 108, 105, 103] : List UInt8)
                                                          · rw [if_pos c86] at H
                                                            have c86b0 : (a0.toList == ([97, 101, 108, 105, 103] : List UInt8)) = true := beq_iff_eq.mpr c86
                                                            have c86b1 : (a0.toList != ([97, 101, 108, 105, 103] : List UInt8)) = false := bne_eq_false_iff_eq.mpr c86
                                                            clear c86
                                                            replace H := Option.bind_eq_some_iff.mp H
                                                            obtain ⟨t153, A870, H⟩ := H
                                                            replace H : (some t153) = some r := H
                                                            have A87 := Aside0.mk A870
                                                            clear A870
                                                            obtain rfl := Option.some.inj H
                                                            go_enter Tryz.func63, Tryz.ntmps63
                                                            go_wp2_with (first | ((with_reducible refine gate_callee (f := 104) rfl ?_); refine goesL_ (some 90) rfl rfl Tryz.func104 (by kernel_rfl) rfl #[.int .i64 230] rfl (by (try simp only [List.map_toArray, List.map_cons, List.map_nil]); first | done | rfl | (simp only [List.length_drop, List.length_take]; rfl)) ?_; (with_reducible refine (scriptoriumref01_Put.calls 230 t153 _ ?side1 A87.out).mono ?_); (case side1 => (first | (with_reducible first | exact HG.out | exact GW.drewN HG.out _ | exact GW.drewN (GW.drewN HG.out _) _) | exact GW.below HG.out (by repeat (first | (with_reducible first | exact HB.out | apply below_alloc | apply pw_below_drewN | apply below_drew1) | exact HB.out)))); rintro e w88 ⟨rfl, hb⟩; refine ⟨_, rfl, ?_⟩; have n0_ := Aside0.mk (below_step (by repeat (first | (with_reducible first | exact HB.out | apply below_alloc | apply pw_below_drewN | apply below_drew1) | exact HB.out)) hb); clear HB; have HB := n0_; clear n0_; (try clear hb); (try clear hb2); (try clear hk); (try clear hi)))
                                                            go_ret
                                                            exact ⟨by first | rfl | (simp [errW_none, errW_some] <;> rfl) | (simp [*, errW_none, errW_some] <;> rfl), by repeat (first | (with_reducible first | exact HB.out | apply below_alloc | apply pw_below_drewN | apply below_drew1) | exact HB.out)⟩
                                                          · rw [if_neg c86] at H
                                                            have c86b0 : (a0.toList == ([97, 101, 108, 105, 103] : List UInt8)) = false := beq_eq_false_iff_ne.mpr c86
                                                            have c86b1 : (a0.toList != ([97, 101, 108, 105, 103] : List UInt8)) = true := bne_iff_ne.mpr c86
                                                            by_cases c89 : a0.toList = ([68, 99, 97, 114, 111, 110] : List UInt8)
                                                            · rw [if_pos c89] at H
                                                              have c89b0 : (a0.toList == ([68, 99, 97, 114, 111, 110] : List UInt8)) = true := beq_iff_eq.mpr c89
                                                              have c89b1 : (a0.toList != ([68, 99, 97, 114, 111, 110] : List UInt8)) = false := bne_eq_false_iff_eq.mpr c89
                                                              clear c89
                                                              replace H := Option.bind_eq_some_iff.mp H
                                                              obtain ⟨t154, A900, H⟩ := H
                                                              replace H : (some t154) = some r := H
                                                              have A90 := Aside0.mk A900
                                                              clear A900
                                                              obtain rfl := Option.some.inj H
                                                              go_enter Tryz.func63, Tryz.ntmps63
                                                              go_wp2_with (first | ((with_reducible refine gate_callee (f := 104) rfl ?_); refine goesL_ (some 93) rfl rfl Tryz.func104 (by kernel_rfl) rfl #[.int .i64 270] rfl (by (try simp only [List.map_toArray, List.map_cons, List.map_nil]); first | done | rfl | (simp only [List.length_drop, List.length_take]; rfl)) ?_; (with_reducible refine (scriptoriumref01_Put.calls 270 t154 _ ?side1 A90.out).mono ?_); (case side1 => (first | (with_reducible first | exact HG.out | exact GW.drewN HG.out _ | exact GW.drewN (GW.drewN HG.out _) _) | exact GW.below HG.out (by repeat (first | (with_reducible first | exact HB.out | apply below_alloc | apply pw_below_drewN | apply below_drew1) | exact HB.out)))); rintro e w91 ⟨rfl, hb⟩; refine ⟨_, rfl, ?_⟩; have n0_ := Aside0.mk (below_step (by repeat (first | (with_reducible first | exact HB.out | apply below_alloc | apply pw_below_drewN | apply below_drew1) | exact HB.out)) hb); clear HB; have HB := n0_; clear n0_; (try clear hb); (try clear hb2); (try clear hk); (try clear hi)))
                                                              go_ret
                                                              exact ⟨by first | rfl | (simp [errW_none, errW_some] <;> rfl) | (simp [*, errW_none, errW_some] <;> rfl), by repeat (first | (with_reducible first | exact HB.out | apply below_alloc | apply pw_below_drewN | apply below_drew1) | exact HB.out)⟩
                                                            · rw [if_neg c89] at H
                                                              have c89b0 : (a0.toList == ([68, 99, 97, 114, 111, 110] : List UInt8)) = false := beq_eq_false_iff_ne.mpr c89
                                                              have c89b1 : (a0.toList != ([68, 99, 97, 114, 111, 110] : List UInt8)) = true := bne_iff_ne.mpr c89
                                                              by_cases c92 : a0.toList = ([104, 101, 108, 108, 105, 112] : List UInt8)
                                                              · rw [if_pos c92] at H
                                                                have c92b0 : (a0.toList == ([104, 101, 108, 108, 105, 112] : List UInt8)) = true := beq_iff_eq.mpr c92
                                                                have c92b1 : (a0.toList != ([104, 101, 108, 108, 105, 112] : List UInt8)) = false := bne_eq_false_iff_eq.mpr c92
                                                                clear c92
                                                                replace H := Option.bind_eq_some_iff.mp H
                                                                obtain ⟨t155, A930, H⟩ := H
                                                                replace H : (some t155) = some r := H
                                                                have A93 := Aside0.mk A930
                                                                clear A930
                                                                obtain rfl := Option.some.inj H
                                                                go_enter Tryz.func63, Tryz.ntmps63
                                                                go_wp2_with (first | ((with_reducible refine gate_callee (f := 104) rfl ?_); refine goesL_ (some 96) rfl rfl Tryz.func104 (by kernel_rfl) rfl #[.int .i64 8230] rfl (by (try simp only [List.map_toArray, List.map_cons, List.map_nil]); first | done | rfl | (simp only [List.length_drop, List.length_take]; rfl)) ?_; (with_reducible refine (scriptoriumref01_Put.calls 8230 t155 _ ?side1 A93.out).mono ?_); (case side1 => (first | (with_reducible first | exact HG.out | exact GW.drewN HG.out _ | exact GW.drewN (GW.drewN HG.out _) _) | exact GW.below HG.out (by repeat (first | (with_reducible first | exact HB.out | apply below_alloc | apply pw_below_drewN | apply below_drew1) | exact HB.out)))); rintro e w94 ⟨rfl, hb⟩; refine ⟨_, rfl, ?_⟩; have n0_ := Aside0.mk (below_step (by repeat (first | (with_reducible first | exact HB.out | apply below_alloc | apply pw_below_drewN | apply below_drew1) | exact HB.out)) hb); clear HB; have HB := n0_; clear n0_; (try clear hb); (try clear hb2); (try clear hk); (try clear hi)))
                                                                go_ret
                                                                exact ⟨by first | rfl | (simp [errW_none, errW_some] <;> rfl) | (simp [*, errW_none, errW_some] <;> rfl), by repeat (first | (with_reducible first | exact HB.out | apply below_alloc | apply pw_below_drewN | apply below_drew1) | exact HB.out)⟩
                                                              · rw [if_neg c92] at H
                                                                have c92b0 : (a0.toList == ([104, 101, 108, 108, 105, 112] : List UInt8)) = false := beq_eq_false_iff_ne.mpr c92
                                                                have c92b1 : (a0.toList != ([104, 101, 108, 108, 105, 112] : List UInt8)) = true := bne_iff_ne.mpr c92
                                                                by_cases c95 : a0.toList = ([110, 100, 97, 115, 104] : List UInt8)
                                                                · rw [if_pos c95] at H
                                                                  have c95b0 : (a0.toList == ([110, 100, 97, 115, 104] : List UInt8)) = true := beq_iff_eq.mpr c95
                                                                  have c95b1 : (a0.toList != ([110, 100, 97, 115, 104] : List UInt8)) = false := bne_eq_false_iff_eq.mpr c95
                                                                  clear c95
                                                                  replace H := Option.bind_eq_some_iff.mp H
                                                                  obtain ⟨t156, A960, H⟩ := H
                                                                  replace H : (some t156) = some r := H
                                                                  have A96 := Aside0.mk A960
                                                                  clear A960
                                                                  obtain rfl := Option.some.inj H
                                                                  go_enter Tryz.func63, Tryz.ntmps63
                                                                  go_wp2_with (first | ((with_reducible refine gate_callee (f := 104) rfl ?_); refine goesL_ (some 99) rfl rfl Tryz.func104 (by kernel_rfl) rfl #[.int .i64 8211] rfl (by (try simp only [List.map_toArray, List.map_cons, List.map_nil]); first | done | rfl | (simp only [List.length_drop, List.length_take]; rfl)) ?_; (with_reducible refine (scriptoriumref01_Put.calls 8211 t156 _ ?side1 A96.out).mono ?_); (case side1 => (first | (with_reducible first | exact HG.out | exact GW.drewN HG.out _ | exact GW.drewN (GW.drewN HG.out _) _) | exact GW.below HG.out (by repeat (first | (with_reducible first | exact HB.out | apply below_alloc | apply pw_below_drewN | apply below_drew1) | exact HB.out)))); rintro e w97 ⟨rfl, hb⟩; refine ⟨_, rfl, ?_⟩; have n0_ := Aside0.mk (below_step (by repeat (first | (with_reducible first | exact HB.out | apply below_alloc | apply pw_below_drewN | apply below_drew1) | exact HB.out)) hb); clear HB; have HB := n0_; clear n0_; (try clear hb); (try clear hb2); (try clear hk); (try clear hi)))
                                                                  go_ret
                                                                  exact ⟨by first | rfl | (simp [errW_none, errW_some] <;> rfl) | (simp [*, errW_none, errW_some] <;> rfl), by repeat (first | (with_reducible first | exact HB.out | apply below_alloc | apply pw_below_drewN | apply below_drew1) | exact HB.out)⟩
                                                                · rw [if_neg c95] at H
                                                                  have c95b0 : (a0.toList == ([110, 100, 97, 115, 104] : List UInt8)) = false := beq_eq_false_iff_ne.mpr c95
                                                                  have c95b1 : (a0.toList != ([110, 100, 97, 115, 104] : List UInt8)) = true := bne_iff_ne.mpr c95
                                                                  by_cases c98 : a0.toList = ([109, 100, 97, 115, 104] : List UInt8)
                                                                  · rw [if_pos c98] at H
                                                                    have c98b0 : (a0.toList == ([109, 100, 97, 115, 104] : List UInt8)) = true := beq_iff_eq.mpr c98
                                                                    have c98b1 : (a0.toList != ([109, 100, 97, 115, 104] : List UInt8)) = false := bne_eq_false_iff_eq.mpr c98
                                                                    clear c98
                                                                    replace H := Option.bind_eq_some_iff.mp H
                                                                    obtain ⟨t157, A990, H⟩ := H
                                                                    replace H : (some t157) = some r := H
                                                                    have A99 := Aside0.mk A990
                                                                    clear A990
                                                                    obtain rfl := Option.some.inj H
                                                                    go_enter Tryz.func63, Tryz.ntmps63
                                                                    go_wp2_with (first | ((with_reducible refine gate_callee (f := 104) rfl ?_); refine goesL_ (some 102) rfl rfl Tryz.func104 (by kernel_rfl) rfl #[.int .i64 8212] rfl (by (try simp only [List.map_toArray, List.map_cons, List.map_nil]); first | done | rfl | (simp only [List.length_drop, List.length_take]; rfl)) ?_; (with_reducible refine (scriptoriumref01_Put.calls 8212 t157 _ ?side1 A99.out).mono ?_); (case side1 => (first | (with_reducible first | exact HG.out | exact GW.drewN HG.out _ | exact GW.drewN (GW.drewN HG.out _) _) | exact GW.below HG.out (by repeat (first | (with_reducible first | exact HB.out | apply below_alloc | apply pw_below_drewN | apply below_drew1) | exact HB.out)))); rintro e w100 ⟨rfl, hb⟩; refine ⟨_, rfl, ?_⟩; have n0_ := Aside0.mk (below_step (by repeat (first | (with_reducible first | exact HB.out | apply below_alloc | apply pw_below_drewN | apply below_drew1) | exact HB.out)) hb); clear HB; have HB := n0_; clear n0_; (try clear hb); (try clear hb2); (try clear hk); (try clear hi)))
                                                                    go_ret
                                                                    exact ⟨by first | rfl | (simp [errW_none, errW_some] <;> rfl) | (simp [*, errW_none, errW_some] <;> rfl), by repeat (first | (with_reducible first | exact HB.out | apply below_alloc | apply pw_below_drewN | apply below_drew1) | exact HB.out)⟩
                                                                  · rw [if_neg c98] at H
                                                                    have c98b0 : (a0.toList == ([109, 100, 97, 115, 104] : List UInt8)) = false := beq_eq_false_iff_ne.mpr c98
                                                                    have c98b1 : (a0.toList != ([109, 100, 97, 115, 104] : List UInt8)) = true := bne_iff_ne.mpr c98
                                                                    by_cases c101 : a0.toList = ([108, 115, 113, 117, 111] : List UInt8)
                                                                    · rw [if_pos c101] at H
                                                                      have c101b0 : (a0.toList == ([108, 115, 113, 117, 111] : List UInt8)) = true := beq_iff_eq.mpr c101
                                                                      have c101b1 : (a0.toList != ([108, 115, 113, 117, 111] : List UInt8)) = false := bne_eq_false_iff_eq.mpr c101
                                                                      clear c101
                                                                      replace H := Option.bind_eq_some_iff.mp H
                                                                      obtain ⟨t158, A1020, H⟩ := H
                                                                      replace H : (some t158) = some r := H
                                                                      have A102 := Aside0.mk A1020
                                                                      clear A1020
                                                                      obtain rfl := Option.some.inj H
                                                                      go_enter Tryz.func63, Tryz.ntmps63
                                                                      go_wp2_with (first | ((with_reducible refine gate_callee (f := 104) rfl ?_); refine goesL_ (some 105) rfl rfl Tryz.func104 (by kernel_rfl) rfl #[.int .i64 8216] rfl (by (try simp only [List.map_toArray, List.map_cons, List.map_nil]); first | done | rfl | (simp only [List.length_drop, List.length_take]; rfl)) ?_; (with_reducible refine (scriptoriumref01_Put.calls 8216 t158 _ ?side1 A102.out).mono ?_); (case side1 => (first | (with_reducible first | exact HG.out | exact GW.drewN HG.out _ | exact GW.drewN (GW.drewN HG.out _) _) | exact GW.below HG.out (by repeat (first | (with_reducible first | exact HB.out | apply below_alloc | apply pw_below_drewN | apply below_drew1) | exact HB.out)))); rintro e w103 ⟨rfl, hb⟩; refine ⟨_, rfl, ?_⟩; have n0_ := Aside0.mk (below_step (by repeat (first | (with_reducible first | exact HB.out | apply below_alloc | apply pw_below_drewN | apply below_drew1) | exact HB.out)) hb); clear HB; have HB := n0_; clear n0_; (try clear hb); (try clear hb2); (try clear hk); (try clear hi)))
                                                                      go_ret
                                                                      exact ⟨by first | rfl | (simp [errW_none, errW_some] <;> rfl) | (simp [*, errW_none, errW_some] <;> rfl), by repeat (first | (with_reducible first | exact HB.out | apply below_alloc | apply pw_below_drewN | apply below_drew1) | exact HB.out)⟩
                                                                    · rw [if_neg c101] at H
                                                                      have c101b0 : (a0.toList == ([108, 115, 113, 117, 111] : List UInt8)) = false := beq_eq_false_iff_ne.mpr c101
                                                                      have c101b1 : (a0.toList != ([108, 115, 113, 117, 111] : List UInt8)) = true := bne_iff_ne.mpr c101
                                                                      by_cases c104 : a0.toList = ([114, 115, 113, 117, 111] : List UInt8)
                                                                      · rw [if_pos c104] at H
                                                                        have c104b0 : (a0.toList == ([114, 115, 113, 117, 111] : List UInt8)) = true := beq_iff_eq.mpr c104
                                                                        have c104b1 : (a0.toList != ([114, 115, 113, 117, 111] : List UInt8)) = false := bne_eq_false_iff_eq.mpr c104
                                                                        clear c104
                                                                        replace H := Option.bind_eq_some_iff.mp H
                                                                        obtain ⟨t159, A1050, H⟩ := H
                                                                        replace H : (some t159) = some r := H
                                                                        have A105 := Aside0.mk A1050
                                                                        clear A1050
                                                                        obtain rfl := Option.some.inj H
                                                                        go_enter Tryz.func63, Tryz.ntmps63
                                                                        go_wp2_with (first | ((with_reducible refine gate_callee (f := 104) rfl ?_); refine goesL_ (some 108) rfl rfl Tryz.func104 (by kernel_rfl) rfl #[.int .i64 8217] rfl (by (try simp only [List.map_toArray, List.map_cons, List.map_nil]); first | done | rfl | (simp only [List.length_drop, List.length_take]; rfl)) ?_; (with_reducible refine (scriptoriumref01_Put.calls 8217 t159 _ ?side1 A105.out).mono ?_); (case side1 => (first | (with_reducible first | exact HG.out | exact GW.drewN HG.out _ | exact GW.drewN (GW.drewN HG.out _) _) | exact GW.below HG.out (by repeat (first | (with_reducible first | exact HB.out | apply below_alloc | apply pw_below_drewN | apply below_drew1) | exact HB.out)))); rintro e w106 ⟨rfl, hb⟩; refine ⟨_, rfl, ?_⟩; have n0_ := Aside0.mk (below_step (by repeat (first | (with_reducible first | exact HB.out | apply below_alloc | apply pw_below_drewN | apply below_drew1) | exact HB.out)) hb); clear HB; have HB := n0_; clear n0_; (try clear hb); (try clear hb2); (try clear hk); (try clear hi)))
                                                                        go_ret
                                                                        exact ⟨by first | rfl | (simp [errW_none, errW_some] <;> rfl) | (simp [*, errW_none, errW_some] <;> rfl), by repeat (first | (with_reducible first | exact HB.out | apply below_alloc | apply pw_below_drewN | apply below_drew1) | exact HB.out)⟩
                                                                      · rw [if_neg c104] at H
                                                                        have c104b0 : (a0.toList == ([114, 115, 113, 117, 111] : List UInt8)) = false := beq_eq_false_iff_ne.mpr c104
                                                                        have c104b1 : (a0.toList != ([114, 115, 113, 117, 111] : List UInt8)) = true := bne_iff_ne.mpr c104
                                                                        by_cases c107 : a0.toList = ([108, 100, 113, 117, 111] : List UInt8)
                                                                        · rw [if_pos c107] at H
                                                                          have c107b0 : (a0.toList == ([108, 100, 113, 117, 111] : List UInt8)) = true := beq_iff_eq.mpr c107
                                                                          have c107b1 : (a0.toList != ([108, 100, 113, 117, 111] : List UInt8)) = false := bne_eq_false_iff_eq.mpr c107
                                                                          clear c107
                                                                          replace H := Option.bind_eq_some_iff.mp H
                                                                          obtain ⟨t160, A1080, H⟩ := H
                                                                          replace H : (some t160) = some r := H
                                                                          have A108 := Aside0.mk A1080
                                                                          clear A1080
                                                                          obtain rfl := Option.some.inj H
                                                                          go_enter Tryz.func63, Tryz.ntmps63
                                                                          go_wp2_with (first | ((with_reducible refine gate_callee (f := 104) rfl ?_); refine goesL_ (some 111) rfl rfl Tryz.func104 (by kernel_rfl) rfl #[.int .i64 8220] rfl (by (try simp only [List.map_toArray, List.map_cons, List.map_nil]); first | done | rfl | (simp only [List.length_drop, List.length_take]; rfl)) ?_; (with_reducible refine (scriptoriumref01_Put.calls 8220 t160 _ ?side1 A108.out).mono ?_); (case side1 => (first | (with_reducible first | exact HG.out | exact GW.drewN HG.out _ | exact GW.drewN (GW.drewN HG.out _) _) | exact GW.below HG.out (by repeat (first | (with_reducible first | exact HB.out | apply below_alloc | apply pw_below_drewN | apply below_drew1) | exact HB.out)))); rintro e w109 ⟨rfl, hb⟩; refine ⟨_, rfl, ?_⟩; have n0_ := Aside0.mk (below_step (by repeat (first | (with_reducible first | exact HB.out | apply below_alloc | apply pw_below_drewN | apply below_drew1) | exact HB.out)) hb); clear HB; have HB := n0_; clear n0_; (try clear hb); (try clear hb2); (try clear hk); (try clear hi)))
                                                                          go_ret
                                                                          exact ⟨by first | rfl | (simp [errW_none, errW_some] <;> rfl) | (simp [*, errW_none, errW_some] <;> rfl), by repeat (first | (with_reducible first | exact HB.out | apply below_alloc | apply pw_below_drewN | apply below_drew1) | exact HB.out)⟩
                                                                        · rw [if_neg c107] at H
                                                                          have c107b0 : (a0.toList == ([108, 100, 113, 117, 111] : List UInt8)) = false := beq_eq_false_iff_ne.mpr c107
                                                                          have c107b1 : (a0.toList != ([108, 100, 113, 117, 111] : List UInt8)) = true := bne_iff_ne.mpr c107
                                                                          by_cases c110 : a0.toList = ([114, 100, 113, 117, 111] : List UInt8)
                                                                          · rw [if_pos c110] at H
                                                                            have c110b0 : (a0.toList == ([114, 100, 113, 117, 111] : List UInt8)) = true := beq_iff_eq.mpr c110
                                                                            have c110b1 : (a0.toList != ([114, 100, 113, 117, 111] : List UInt8)) = false := bne_eq_false_iff_eq.mpr c110
                                                                            clear c110
                                                                            replace H := Option.bind_eq_some_iff.mp H
                                                                            obtain ⟨t161, A1110, H⟩ := H
                                                                            replace H : (some t161) = some r := H
                                                                            have A111 := Aside0.mk A1110
                                                                            clear A1110
                                                                            obtain rfl := Option.some.inj H
                                                                            go_enter Tryz.func63, Tryz.ntmps63
                                                                            go_wp2_with (first | ((with_reducible refine gate_callee (f := 104) rfl ?_); refine goesL_ (some 114) rfl rfl Tryz.func104 (by kernel_rfl) rfl #[.int .i64 8221] rfl (by (try simp only [List.map_toArray, List.map_cons, List.map_nil]); first | done | rfl | (simp only [List.length_drop, List.length_take]; rfl)) ?_; (with_reducible refine (scriptoriumref01_Put.calls 8221 t161 _ ?side1 A111.out).mono ?_); (case side1 => (first | (with_reducible first | exact HG.out | exact GW.drewN HG.out _ | exact GW.drewN (GW.drewN HG.out _) _) | exact GW.below HG.out (by repeat (first | (with_reducible first | exact HB.out | apply below_alloc | apply pw_below_drewN | apply below_drew1) | exact HB.out)))); rintro e w112 ⟨rfl, hb⟩; refine ⟨_, rfl, ?_⟩; have n0_ := Aside0.mk (below_step (by repeat (first | (with_reducible first | exact HB.out | apply below_alloc | apply pw_below_drewN | apply below_drew1) | exact HB.out)) hb); clear HB; have HB := n0_; clear n0_; (try clear hb); (try clear hb2); (try clear hk); (try clear hi)))
                                                                            go_ret
                                                                            exact ⟨by first | rfl | (simp [errW_none, errW_some] <;> rfl) | (simp [*, errW_none, errW_some] <;> rfl), by repeat (first | (with_reducible first | exact HB.out | apply below_alloc | apply pw_below_drewN | apply below_drew1) | exact HB.out)⟩
                                                                          · rw [if_neg c110] at H
                                                                            have c110b0 : (a0.toList == ([114, 100, 113, 117, 111] : List UInt8)) = false := beq_eq_false_iff_ne.mpr c110
                                                                            have c110b1 : (a0.toList != ([114, 100, 113, 117, 111] : List UInt8)) = true := bne_iff_ne.mpr c110
                                                                            by_cases c113 : a0.toList = ([98, 117, 108, 108] : List UInt8)
                                                                            · rw [if_pos c113] at H
                                                                              have c113b0 : (a0.toList == ([98, 117, 108, 108] : List UInt8)) = true := beq_iff_eq.mpr c113
                                                                              have c113b1 : (a0.toList != ([98, 117, 108, 108] : List UInt8)) = false := bne_eq_false_iff_eq.mpr c113
                                                                              clear c113
                                                                              replace H := Option.bind_eq_some_iff.mp H
                                                                              obtain ⟨t162, A1140, H⟩ := H
                                                                              replace H : (some t162) = some r := H
                                                                              have A114 := Aside0.mk A1140
                                                                              clear A1140
                                                                              obtain rfl := Option.some.inj H
                                                                              go_enter Tryz.func63, Tryz.ntmps63
                                                                              go_wp2_with (first | ((with_reducible refine gate_callee (f := 104) rfl ?_); refine goesL_ (some 117) rfl rfl Tryz.func104 (by kernel_rfl) rfl #[.int .i64 8226] rfl (by (try simp only [List.map_toArray, List.map_cons, List.map_nil]); first | done | rfl | (simp only [List.length_drop, List.length_take]; rfl)) ?_; (with_reducible refine (scriptoriumref01_Put.calls 8226 t162 _ ?side1 A114.out).mono ?_); (case side1 => (first | (with_reducible first | exact HG.out | exact GW.drewN HG.out _ | exact GW.drewN (GW.drewN HG.out _) _) | exact GW.below HG.out (by repeat (first | (with_reducible first | exact HB.out | apply below_alloc | apply pw_below_drewN | apply below_drew1) | exact HB.out)))); rintro e w115 ⟨rfl, hb⟩; refine ⟨_, rfl, ?_⟩; have n0_ := Aside0.mk (below_step (by repeat (first | (with_reducible first | exact HB.out | apply below_alloc | apply pw_below_drewN | apply below_drew1) | exact HB.out)) hb); clear HB; have HB := n0_; clear n0_; (try clear hb); (try clear hb2); (try clear hk); (try clear hi)))
                                                                              go_ret
                                                                              exact ⟨by first | rfl | (simp [errW_none, errW_some] <;> rfl) | (simp [*, errW_none, errW_some] <;> rfl), by repeat (first | (with_reducible first | exact HB.out | apply below_alloc | apply pw_below_drewN | apply below_drew1) | exact HB.out)⟩
                                                                            · rw [if_neg c113] at H
                                                                              have c113b0 : (a0.toList == ([98, 117, 108, 108] : List UInt8)) = false := beq_eq_false_iff_ne.mpr c113
                                                                              have c113b1 : (a0.toList != ([98, 117, 108, 108] : List UInt8)) = true := bne_iff_ne.mpr c113
                                                                              by_cases c116 : a0.toList = ([101, 117, 114, 111] : List UInt8)
                                                                              · rw [if_pos c116] at H
                                                                                have c116b0 : (a0.toList == ([101, 117, 114, 111] : List UInt8)) = true := beq_iff_eq.mpr c116
                                                                                have c116b1 : (a0.toList != ([101, 117, 114, 111] : List UInt8)) = false := bne_eq_false_iff_eq.mpr c116
                                                                                clear c116
                                                                                replace H := Option.bind_eq_some_iff.mp H
                                                                                obtain ⟨t163, A1170, H⟩ := H
                                                                                replace H : (some t163) = some r := H
                                                                                have A117 := Aside0.mk A1170
                                                                                clear A1170
                                                                                obtain rfl := Option.some.inj H
                                                                                go_enter Tryz.func63, Tryz.ntmps63
                                                                                go_wp2_with (first | ((with_reducible refine gate_callee (f := 104) rfl ?_); refine goesL_ (some 120) rfl rfl Tryz.func104 (by kernel_rfl) rfl #[.int .i64 8364] rfl (by (try simp only [List.map_toArray, List.map_cons, List.map_nil]); first | done | rfl | (simp only [List.length_drop, List.length_take]; rfl)) ?_; (with_reducible refine (scriptoriumref01_Put.calls 8364 t163 _ ?side1 A117.out).mono ?_); (case side1 => (first | (with_reducible first | exact HG.out | exact GW.drewN HG.out _ | exact GW.drewN (GW.drewN HG.out _) _) | exact GW.below HG.out (by repeat (first | (with_reducible first | exact HB.out | apply below_alloc | apply pw_below_drewN | apply below_drew1) | exact HB.out)))); rintro e w118 ⟨rfl, hb⟩; refine ⟨_, rfl, ?_⟩; have n0_ := Aside0.mk (below_step (by repeat (first | (with_reducible first | exact HB.out | apply below_alloc | apply pw_below_drewN | apply below_drew1) | exact HB.out)) hb); clear HB; have HB := n0_; clear n0_; (try clear hb); (try clear hb2); (try clear hk); (try clear hi)))
                                                                                go_ret
                                                                                exact ⟨by first | rfl | (simp [errW_none, errW_some] <;> rfl) | (simp [*, errW_none, errW_some] <;> rfl), by repeat (first | (with_reducible first | exact HB.out | apply below_alloc | apply pw_below_drewN | apply below_drew1) | exact HB.out)⟩
                                                                              · rw [if_neg c116] at H
                                                                                have c116b0 : (a0.toList == ([101, 117, 114, 111] : List UInt8)) = false := beq_eq_false_iff_ne.mpr c116
                                                                                have c116b1 : (a0.toList != ([101, 117, 114, 111] : List UInt8)) = true := bne_iff_ne.mpr c116
                                                                                by_cases c119 : a0.toList = ([116, 114, 97, 100, 101] : List UInt8)
                                                                                · rw [if_pos c119] at H
                                                                                  have c119b0 : (a0.toList == ([116, 114, 97, 100, 101] : List UInt8)) = true := beq_iff_eq.mpr c119
                                                                                  have c119b1 : (a0.toList != ([116, 114, 97, 100, 101] : List UInt8)) = false := bne_eq_false_iff_eq.mpr c119
                                                                                  clear c119
                                                                                  replace H := Option.bind_eq_some_iff.mp H
                                                                                  obtain ⟨t164, A1200, H⟩ := H
                                                                                  replace H : (some t164) = some r := H
                                                                                  have A120 := Aside0.mk A1200
                                                                                  clear A1200
                                                                                  obtain rfl := Option.some.inj H
                                                                                  go_enter Tryz.func63, Tryz.ntmps63
                                                                                  go_wp2_with (first | ((with_reducible refine gate_callee (f := 104) rfl ?_); refine goesL_ (some 123) rfl rfl Tryz.func104 (by kernel_rfl) rfl #[.int .i64 8482] rfl (by (try simp only [List.map_toArray, List.map_cons, List.map_nil]); first | done | rfl | (simp only [List.length_drop, List.length_take]; rfl)) ?_; (with_reducible refine (scriptoriumref01_Put.calls 8482 t164 _ ?side1 A120.out).mono ?_); (case side1 => (first | (with_reducible first | exact HG.out | exact GW.drewN HG.out _ | exact GW.drewN (GW.drewN HG.out _) _) | exact GW.below HG.out (by repeat (first | (with_reducible first | exact HB.out | apply below_alloc | apply pw_below_drewN | apply below_drew1) | exact HB.out)))); rintro e w121 ⟨rfl, hb⟩; refine ⟨_, rfl, ?_⟩; have n0_ := Aside0.mk (below_step (by repeat (first | (with_reducible first | exact HB.out | apply below_alloc | apply pw_below_drewN | apply below_drew1) | exact HB.out)) hb); clear HB; have HB := n0_; clear n0_; (try clear hb); (try clear hb2); (try clear hk); (try clear hi)))
                                                                                  go_ret
                                                                                  exact ⟨by first | rfl | (simp [errW_none, errW_some] <;> rfl) | (simp [*, errW_none, errW_some] <;> rfl), by repeat (first | (with_reducible first | exact HB.out | apply below_alloc | apply pw_below_drewN | apply below_drew1) | exact HB.out)⟩
                                                                                · rw [if_neg c119] at H
                                                                                  have c119b0 : (a0.toList == ([116, 114, 97, 100, 101] : List UInt8)) = false := beq_eq_false_iff_ne.mpr c119
                                                                                  have c119b1 : (a0.toList != ([116, 114, 97, 100, 101] : List UInt8)) = true := bne_iff_ne.mpr c119
                                                                                  by_cases c122 : a0.toList = ([108, 97, 114, 114] : List UInt8)
                                                                                  · rw [if_pos c122] at H
                                                                                    have c122b0 : (a0.toList == ([108, 97, 114, 114] : List UInt8)) = true := beq_iff_eq.mpr c122
                                                                                    have c122b1 : (a0.toList != ([108, 97, 114, 114] : List UInt8)) = false := bne_eq_false_iff_eq.mpr c122
                                                                                    clear c122
                                                                                    replace H := Option.bind_eq_some_iff.mp H
                                                                                    obtain ⟨t165, A1230, H⟩ := H
                                                                                    replace H : (some t165) = some r := H
                                                                                    have A123 := Aside0.mk A1230
                                                                                    clear A1230
                                                                                    obtain rfl := Option.some.inj H
                                                                                    go_enter Tryz.func63, Tryz.ntmps63
                                                                                    go_wp2_with (first | ((with_reducible refine gate_callee (f := 104) rfl ?_); refine goesL_ (some 126) rfl rfl Tryz.func104 (by kernel_rfl) rfl #[.int .i64 8592] rfl (by (try simp only [List.map_toArray, List.map_cons, List.map_nil]); first | done | rfl | (simp only [List.length_drop, List.length_take]; rfl)) ?_; (with_reducible refine (scriptoriumref01_Put.calls 8592 t165 _ ?side1 A123.out).mono ?_); (case side1 => (first | (with_reducible first | exact HG.out | exact GW.drewN HG.out _ | exact GW.drewN (GW.drewN HG.out _) _) | exact GW.below HG.out (by repeat (first | (with_reducible first | exact HB.out | apply below_alloc | apply pw_below_drewN | apply below_drew1) | exact HB.out)))); rintro e w124 ⟨rfl, hb⟩; refine ⟨_, rfl, ?_⟩; have n0_ := Aside0.mk (below_step (by repeat (first | (with_reducible first | exact HB.out | apply below_alloc | apply pw_below_drewN | apply below_drew1) | exact HB.out)) hb); clear HB; have HB := n0_; clear n0_; (try clear hb); (try clear hb2); (try clear hk); (try clear hi)))
                                                                                    go_ret
                                                                                    exact ⟨by first | rfl | (simp [errW_none, errW_some] <;> rfl) | (simp [*, errW_none, errW_some] <;> rfl), by repeat (first | (with_reducible first | exact HB.out | apply below_alloc | apply pw_below_drewN | apply below_drew1) | exact HB.out)⟩
                                                                                  · rw [if_neg c122] at H
                                                                                    have c122b0 : (a0.toList == ([108, 97, 114, 114] : List UInt8)) = false := beq_eq_false_iff_ne.mpr c122
                                                                                    have c122b1 : (a0.toList != ([108, 97, 114, 114] : List UInt8)) = true := bne_iff_ne.mpr c122
                                                                                    by_cases c125 : a0.toList = ([114, 97, 114, 114] : List UInt8)
                                                                                    · rw [if_pos c125] at H
                                                                                      have c125b0 : (a0.toList == ([114, 97, 114, 114] : List UInt8)) = true := beq_iff_eq.mpr c125
                                                                                      have c125b1 : (a0.toList != ([114, 97, 114, 114] : List UInt8)) = false := bne_eq_false_iff_eq.mpr c125
                                                                                      clear c125
                                                                                      replace H := Option.bind_eq_some_iff.mp H
                                                                                      obtain ⟨t166, A1260, H⟩ := H
                                                                                      replace H : (some t166) = some r := H
                                                                                      have A126 := Aside0.mk A1260
                                                                                      clear A1260
                                                                                      obtain rfl := Option.some.inj H
                                                                                      go_enter Tryz.func63, Tryz.ntmps63
                                                                                      go_wp2_with (first | ((with_reducible refine gate_callee (f := 104) rfl ?_); refine goesL_ (some 129) rfl rfl Tryz.func104 (by kernel_rfl) rfl #[.int .i64 8594] rfl (by (try simp only [List.map_toArray, List.map_cons, List.map_nil]); first | done | rfl | (simp only [List.length_drop, List.length_take]; rfl)) ?_; (with_reducible refine (scriptoriumref01_Put.calls 8594 t166 _ ?side1 A126.out).mono ?_); (case side1 => (first | (with_reducible first | exact HG.out | exact GW.drewN HG.out _ | exact GW.drewN (GW.drewN HG.out _) _) | exact GW.below HG.out (by repeat (first | (with_reducible first | exact HB.out | apply below_alloc | apply pw_below_drewN | apply below_drew1) | exact HB.out)))); rintro e w127 ⟨rfl, hb⟩; refine ⟨_, rfl, ?_⟩; have n0_ := Aside0.mk (below_step (by repeat (first | (with_reducible first | exact HB.out | apply below_alloc | apply pw_below_drewN | apply below_drew1) | exact HB.out)) hb); clear HB; have HB := n0_; clear n0_; (try clear hb); (try clear hb2); (try clear hk); (try clear hi)))
                                                                                      go_ret
                                                                                      exact ⟨by first | rfl | (simp [errW_none, errW_some] <;> rfl) | (simp [*, errW_none, errW_some] <;> rfl), by repeat (first | (with_reducible first | exact HB.out | apply below_alloc | apply pw_below_drewN | apply below_drew1) | exact HB.out)⟩
                                                                                    · rw [if_neg c125] at H
                                                                                      have c125b0 : (a0.toList == ([114, 97, 114, 114] : List UInt8)) = false := beq_eq_false_iff_ne.mpr c125
                                                                                      have c125b1 : (a0.toList != ([114, 97, 114, 114] : List UInt8)) = true := bne_iff_ne.mpr c125
                                                                                      by_cases c128 : a0.toList = ([72, 105, 108, 98, 101, 114, 116, 83, 112, 97, 99, 101] : List UInt8)
                                                                                      · rw [if_pos c128] at H
                                                                                        have c128b0 : (a0.toList == ([72, 105, 108, 98, 101, 114, 116, 83, 112, 97, 99, 101] : List UInt8)) = true := beq_iff_eq.mpr c128
                                                                                        have c128b1 : (a0.toList != ([72, 105, 108, 98, 101, 114, 116, 83, 112, 97, 99, 101] : List UInt8)) = false := bne_eq_false_iff_eq.mpr c128
                                                                                        clear c128
                                                                                        replace H := Option.bind_eq_some_iff.mp H
                                                                                        obtain ⟨t167, A1290, H⟩ := H
                                                                                        replace H : (some t167) = some r := H
                                                                                        have A129 := Aside0.mk A1290
                                                                                        clear A1290
                                                                                        obtain rfl := Option.some.inj H
                                                                                        go_enter Tryz.func63, Tryz.ntmps63
                                                                                        go_wp2_with (first | ((with_reducible refine gate_callee (f := 104) rfl ?_); refine goesL_ (some 132) rfl rfl Tryz.func104 (by kernel_rfl) rfl #[.int .i64 8459] rfl (by (try simp only [List.map_toArray, List.map_cons, List.map_nil]); first | done | rfl | (simp only [List.length_drop, List.length_take]; rfl)) ?_; (with_reducible refine (scriptoriumref01_Put.calls 8459 t167 _ ?side1 A129.out).mono ?_); (case side1 => (first | (with_reducible first | exact HG.out | exact GW.drewN HG.out _ | exact GW.drewN (GW.drewN HG.out _) _) | exact GW.below HG.out (by repeat (first | (with_reducible first | exact HB.out | apply below_alloc | apply pw_below_drewN | apply below_drew1) | exact HB.out)))); rintro e w130 ⟨rfl, hb⟩; refine ⟨_, rfl, ?_⟩; have n0_ := Aside0.mk (below_step (by repeat (first | (with_reducible first | exact HB.out | apply below_alloc | apply pw_below_drewN | apply below_drew1) | exact HB.out)) hb); clear HB; have HB := n0_; clear n0_; (try clear hb); (try clear hb2); (try clear hk); (try clear hi)))
                                                                                        go_ret
                                                                                        exact ⟨by first | rfl | (simp [errW_none, errW_some] <;> rfl) | (simp [*, errW_none, errW_some] <;> rfl), by repeat (first | (with_reducible first | exact HB.out | apply below_alloc | apply pw_below_drewN | apply below_drew1) | exact HB.out)⟩
                                                                                      · rw [if_neg c128] at H
                                                                                        have c128b0 : (a0.toList == ([72, 105, 108, 98, 101, 114, 116, 83, 112, 97, 99, 101] : List UInt8)) = false := beq_eq_false_iff_ne.mpr c128
                                                                                        have c128b1 : (a0.toList != ([72, 105, 108, 98, 101, 114, 116, 83, 112, 97, 99, 101] : List UInt8)) = true := bne_iff_ne.mpr c128
                                                                                        by_cases c131 : a0.toList = ([68, 105, 102, 102, 101, 114, 101, 110, 116, 105, 97, 108, 68] : List UInt8)
                                                                                        · rw [if_pos c131] at H
                                                                                          have c131b0 : (a0.toList == ([68, 105, 102, 102, 101, 114, 101, 110, 116, 105, 97, 108, 68] : List UInt8)) = true := beq_iff_eq.mpr c131
                                                                                          have c131b1 : (a0.toList != ([68, 105, 102, 102, 101, 114, 101, 110, 116, 105, 97, 108, 68] : List UInt8)) = false := bne_eq_false_iff_eq.mpr c131
                                                                                          clear c131
                                                                                          replace H := Option.bind_eq_some_iff.mp H
                                                                                          obtain ⟨t168, A1320, H⟩ := H
                                                                                          replace H : (some t168) = some r := H
                                                                                          have A132 := Aside0.mk A1320
                                                                                          clear A1320
                                                                                          obtain rfl := Option.some.inj H
                                                                                          go_enter Tryz.func63, Tryz.ntmps63
                                                                                          go_wp2_with (first | ((with_reducible refine gate_callee (f := 104) rfl ?_); refine goesL_ (some 135) rfl rfl Tryz.func104 (by kernel_rfl) rfl #[.int .i64 8518] rfl (by (try simp only [List.map_toArray, List.map_cons, List.map_nil]); first | done | rfl | (simp only [List.length_drop, List.length_take]; rfl)) ?_; (with_reducible refine (scriptoriumref01_Put.calls 8518 t168 _ ?side1 A132.out).mono ?_); (case side1 => (first | (with_reducible first | exact HG.out | exact GW.drewN HG.out _ | exact GW.drewN (GW.drewN HG.out _) _) | exact GW.below HG.out (by repeat (first | (with_reducible first | exact HB.out | apply below_alloc | apply pw_below_drewN | apply below_drew1) | exact HB.out)))); rintro e w133 ⟨rfl, hb⟩; refine ⟨_, rfl, ?_⟩; have n0_ := Aside0.mk (below_step (by repeat (first | (with_reducible first | exact HB.out | apply below_alloc | apply pw_below_drewN | apply below_drew1) | exact HB.out)) hb); clear HB; have HB := n0_; clear n0_; (try clear hb); (try clear hb2); (try clear hk); (try clear hi)))
                                                                                          go_ret
                                                                                          exact ⟨by first | rfl | (simp [errW_none, errW_some] <;> rfl) | (simp [*, errW_none, errW_some] <;> rfl), by repeat (first | (with_reducible first | exact HB.out | apply below_alloc | apply pw_below_drewN | apply below_drew1) | exact HB.out)⟩
                                                                                        · rw [if_neg c131] at H
                                                                                          have c131b0 : (a0.toList == ([68, 105, 102, 102, 101, 114, 101, 110, 116, 105, 97, 108, 68] : List UInt8)) = false := beq_eq_false_iff_ne.mpr c131
                                                                                          have c131b1 : (a0.toList != ([68, 105, 102, 102, 101, 114, 101, 110, 116, 105, 97, 108, 68] : List UInt8)) = true := bne_iff_ne.mpr c131
                                                                                          by_cases c134 : a0.toList = ([110, 103, 69] : List UInt8)
                                                                                          · rw [if_pos c134] at H
                                                                                            have c134b0 : (a0.toList == ([110, 103, 69] : List UInt8)) = true := beq_iff_eq.mpr c134
                                                                                            have c134b1 : (a0.toList != ([110, 103, 69] : List UInt8)) = false := bne_eq_false_iff_eq.mpr c134
                                                                                            clear c134
                                                                                            replace H := Option.bind_eq_some_iff.mp H
                                                                                            obtain ⟨t169, A1350, H⟩ := H
                                                                                            replace H : ((scriptoriumref01_Put.f 824).bind fun t170 => (if t169.size + t170.size ≤ 9223372036854775807 then (some (t169 ++ t170)) else (none))) = some r := H
                                                                                            have A135 := Aside0.mk A1350
                                                                                            clear A1350
                                                                                            replace H := Option.bind_eq_some_iff.mp H
                                                                                            obtain ⟨t170, A1360, H⟩ := H
                                                                                            replace H : (if t169.size + t170.size ≤ 9223372036854775807 then (some (t169 ++ t170)) else (none)) = some r := H
                                                                                            have A136 := Aside0.mk A1360
                                                                                            clear A1360
                                                                                            by_cases c137 : t169.size + t170.size ≤ 9223372036854775807
                                                                                            · rw [if_pos c137] at H
                                                                                              have c137b0 := eq_true c137
                                                                                              have c137b1 : decide (t169.size + t170.size ≤ 9223372036854775807) = true := decide_eq_true c137
                                                                                              try have c137b2 : (9223372036854775807 < t169.size + t170.size) = False := eq_false (Nat.not_lt.2 c137)
                                                                                              obtain rfl := Option.some.inj H
                                                                                              go_enter Tryz.func63, Tryz.ntmps63
                                                                                              go_wp2_with (first | ((with_reducible refine gate_callee (f := 104) rfl ?_); refine goesL_ (some 138) rfl rfl Tryz.func104 (by kernel_rfl) rfl #[.int .i64 8807] rfl (by (try simp only [List.map_toArray, List.map_cons, List.map_nil]); first | done | rfl | (simp only [List.length_drop, List.length_take]; rfl)) ?_; (with_reducible refine (scriptoriumref01_Put.calls 8807 t169 _ ?side1 A135.out).mono ?_); (case side1 => (first | (with_reducible first | exact HG.out | exact GW.drewN HG.out _ | exact GW.drewN (GW.drewN HG.out _) _) | exact GW.below HG.out (by repeat (first | (with_reducible first | exact HB.out | apply below_alloc | apply pw_below_drewN | apply below_drew1) | exact HB.out)))); rintro e w138 ⟨rfl, hb⟩; refine ⟨_, rfl, ?_⟩; have n0_ := Aside0.mk (below_step (by repeat (first | (with_reducible first | exact HB.out | apply below_alloc | apply pw_below_drewN | apply below_drew1) | exact HB.out)) hb); clear HB; have HB := n0_; clear n0_; (try clear hb); (try clear hb2); (try clear hk); (try clear hi)) | ((with_reducible refine gate_callee (f := 104) rfl ?_); refine goesL_ (some 139) rfl rfl Tryz.func104 (by kernel_rfl) rfl #[.int .i64 824] rfl (by (try simp only [List.map_toArray, List.map_cons, List.map_nil]); first | done | rfl | (simp only [List.length_drop, List.length_take]; rfl)) ?_; (with_reducible refine (scriptoriumref01_Put.calls 824 t170 _ ?side1 A136.out).mono ?_); (case side1 => (first | (with_reducible first | exact HG.out | exact GW.drewN HG.out _ | exact GW.drewN (GW.drewN HG.out _) _) | exact GW.below HG.out (by repeat (first | (with_reducible first | exact HB.out | apply below_alloc | apply pw_below_drewN | apply below_drew1) | exact HB.out)))); rintro e w139 ⟨rfl, hb⟩; refine ⟨_, rfl, ?_⟩; have n0_ := Aside0.mk (below_step (by repeat (first | (with_reducible first | exact HB.out | apply below_alloc | apply pw_below_drewN | apply below_drew1) | exact HB.out)) hb); clear HB; have HB := n0_; clear n0_; (try clear hb); (try clear hb2); (try clear hk); (try clear hi)))
                                                                                              go_ret
                                                                                              exact ⟨by first | rfl | (simp [errW_none, errW_some] <;> rfl) | (simp [*, errW_none, errW_some] <;> rfl), by repeat (first | (with_reducible first | exact HB.out | apply below_alloc | apply pw_below_drewN | apply below_drew1) | exact HB.out)⟩
                                                                                            · rw [if_neg c137] at H
                                                                                              exact absurd H (by simp)
                                                                                          · rw [if_neg c134] at H
                                                                                            have c134b0 : (a0.toList == ([110, 103, 69] : List UInt8)) = false := beq_eq_false_iff_ne.mpr c134
                                                                                            have c134b1 : (a0.toList != ([110, 103, 69] : List UInt8)) = true := bne_iff_ne.mpr c134
                                                                                            by_cases c140 : a0.toList = ([110, 118, 108, 116] : List UInt8)
                                                                                            · rw [if_pos c140] at H
                                                                                              have c140b0 : (a0.toList == ([110, 118, 108, 116] : List UInt8)) = true := beq_iff_eq.mpr c140
                                                                                              have c140b1 : (a0.toList != ([110, 118, 108, 116] : List UInt8)) = false := bne_eq_false_iff_eq.mpr c140
                                                                                              clear c140
                                                                                              replace H := Option.bind_eq_some_iff.mp H
                                                                                              obtain ⟨t171, A1410, H⟩ := H
                                                                                              replace H : ((scriptoriumref01_Put.f 8402).bind fun t172 => (if t171.size + t172.size ≤ 9223372036854775807 then (some (t171 ++ t172)) else (none))) = some r := H
                                                                                              have A141 := Aside0.mk A1410
                                                                                              clear A1410
                                                                                              replace H := Option.bind_eq_some_iff.mp H
                                                                                              obtain ⟨t172, A1420, H⟩ := H
                                                                                              replace H : (if t171.size + t172.size ≤ 9223372036854775807 then (some (t171 ++ t172)) else (none)) = some r := H
                                                                                              have A142 := Aside0.mk A1420
                                                                                              clear A1420
                                                                                              by_cases c143 : t171.size + t172.size ≤ 9223372036854775807
                                                                                              · rw [if_pos c143] at H
                                                                                                have c143b0 := eq_true c143
                                                                                                have c143b1 : decide (t171.size + t172.size ≤ 9223372036854775807) = true := decide_eq_true c143
                                                                                                try have c143b2 : (9223372036854775807 < t171.size + t172.size) = False := eq_false (Nat.not_lt.2 c143)
                                                                                                obtain rfl := Option.some.inj H
                                                                                                go_enter Tryz.func63, Tryz.ntmps63
                                                                                                go_wp2_with (first | ((with_reducible refine gate_callee (f := 104) rfl ?_); refine goesL_ (some 143) rfl rfl Tryz.func104 (by kernel_rfl) rfl #[.int .i64 60] rfl (by (try simp only [List.map_toArray, List.map_cons, List.map_nil]); first | done | rfl | (simp only [List.length_drop, List.length_take]; rfl)) ?_; (with_reducible refine (scriptoriumref01_Put.calls 60 t171 _ ?side1 A141.out).mono ?_); (case side1 => (first | (with_reducible first | exact HG.out | exact GW.drewN HG.out _ | exact GW.drewN (GW.drewN HG.out _) _) | exact GW.below HG.out (by repeat (first | (with_reducible first | exact HB.out | apply below_alloc | apply pw_below_drewN | apply below_drew1) | exact HB.out)))); rintro e w144 ⟨rfl, hb⟩; refine ⟨_, rfl, ?_⟩; have n0_ := Aside0.mk (below_step (by repeat (first | (with_reducible first | exact HB.out | apply below_alloc | apply pw_below_drewN | apply below_drew1) | exact HB.out)) hb); clear HB; have HB := n0_; clear n0_; (try clear hb); (try clear hb2); (try clear hk); (try clear hi)) | ((with_reducible refine gate_callee (f := 104) rfl ?_); refine goesL_ (some 144) rfl rfl Tryz.func104 (by kernel_rfl) rfl #[.int .i64 8402] rfl (by (try simp only [List.map_toArray, List.map_cons, List.map_nil]); first | done | rfl | (simp only [List.length_drop, List.length_take]; rfl)) ?_; (with_reducible refine (scriptoriumref01_Put.calls 8402 t172 _ ?side1 A142.out).mono ?_); (case side1 => (first | (with_reducible first | exact HG.out | exact GW.drewN HG.out _ | exact GW.drewN (GW.drewN HG.out _) _) | exact GW.below HG.out (by repeat (first | (with_reducible first | exact HB.out | apply below_alloc | apply pw_below_drewN | apply below_drew1) | exact HB.out)))); rintro e w145 ⟨rfl, hb⟩; refine ⟨_, rfl, ?_⟩; have n0_ := Aside0.mk (below_step (by repeat (first | (with_reducible first | exact HB.out | apply below_alloc | apply pw_below_drewN | apply below_drew1) | exact HB.out)) hb); clear HB; have HB := n0_; clear n0_; (try clear hb); (try clear hb2); (try clear hk); (try clear hi)))
                                                                                                go_ret
                                                                                                exact ⟨by first | rfl | (simp [errW_none, errW_some] <;> rfl) | (simp [*, errW_none, errW_some] <;> rfl), by repeat (first | (with_reducible first | exact HB.out | apply below_alloc | apply pw_below_drewN | apply below_drew1) | exact HB.out)⟩
                                                                                              · rw [if_neg c143] at H
                                                                                                exact absurd H (by simp)
                                                                                            · rw [if_neg c140] at H
                                                                                              have c140b0 : (a0.toList == ([110, 118, 108, 116] : List UInt8)) = false := beq_eq_false_iff_ne.mpr c140
                                                                                              have c140b1 : (a0.toList != ([110, 118, 108, 116] : List UInt8)) = true := bne_iff_ne.mpr c140
                                                                                              obtain rfl := Option.some.inj H
                                                                                              go_enter Tryz.func63, Tryz.ntmps63
                                                                                              go_wp2
                                                                                              go_ret
                                                                                              exact ⟨by first | rfl | (simp [errW_none, errW_some] <;> rfl) | (simp [*, errW_none, errW_some] <;> rfl), by repeat (first | (with_reducible first | exact HB.out | apply below_alloc | apply pw_below_drewN | apply below_drew1) | exact HB.out)⟩

end Go.Proofs.YthdlibgiejpjeaaGreatDoor.GR
