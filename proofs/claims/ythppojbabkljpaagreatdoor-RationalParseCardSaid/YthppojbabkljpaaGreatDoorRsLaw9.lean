/- The walk of the law RationalParse. -/
import Derived.Test.YthppojbabkljpaaGreatDoorRsV
import Derived.Test.YthppojbabkljpaaGreatDoorRtL
namespace Go.Proofs.YthppojbabkljpaaGreatDoor.RsLaw9
open Go.RowKit RnA RnB RnS RnC RnK RnM RnL RnN RnD RnE RnQ RnR RnG RnP RnW RnX RoA RoB RoC RoD RoE RoF RoG RoH RoI RoJ RoK RoL RoM RoN PnA PnB PnC PnD PnE PnF PnG PnH PnI PnJ PnK PnL RtA RtB RtC RtD RtE RtG RtH RtI RtJ RtK RtL RpA RpB RpC RpD RpE RpF RpG RpH RnY RpI RpJ RpK RpL RsX RsY RsW RsV
set_option maxHeartbeats 8000000 in
set_option maxRecDepth 100000 in
theorem parse_law (s : ByteArray) (w : World) (hs : s.size ≤ maxLen) (he : Env w) :
    Calls Tryz.prog 3 #[.string s] w fun e w' => e = .returned (.bool true) ∧ Below w.heap.size w w' := by
  unfold maxLen at hs
  have HAW := Lib.hid (fun w (h : Env w) => awake_any w h)
  by_cases h2 : 200 < s.size
  · have HA := hide (HAW.out w he)
    clear he
    go_enter Tryz.func3, Tryz.ntmps3
    go_wp2_with fail
    refine HA.out.mono ?_
    rintro e w3 ⟨rfl, hb3⟩
    go_wp2_with fail
    go_ret
    exact ⟨rfl, hb3⟩
  · have P1 := hide (parse_any s w (by omega) he)
    have HE := hide he
    have R1 := Lib.hid (fun w => rparse_any s w (by omega))
    generalize parseQ s.data.toList = p at *
    obtain ⟨q, c⟩ := p
    unfold RCPost at P1 R1
    simp only [enc_open] at P1 R1
    have S1 := fun W => rat_same (negB q) (bs (nm q)) (dstr q) W
    have hrg := rat_guard
    clear he
    go_enter Tryz.func3, Tryz.ntmps3
    go_wp2_with fail
    refine P1.out.mono ?_
    rintro e w5 ⟨rfl, hb5⟩
    obtain ⟨V6, hV6, HX6, hc6, hl6⟩ := box_new w5 (.bool (negB q)) (.string (bs (nm q))) (.string (dstr q))
    have HC6 := hide (hb5.trans (hc6.mono hb5.size))
    clear hb5 hc6 P1
    go_wp2_with fail
    refine (R1.out _).mono ?_
    rintro e w7 ⟨rfl, hb7⟩
    obtain ⟨V8, hV8, HY8, hc8, hl8⟩ := box_new w7 (.bool (negB q)) (.string (bs (nm q))) (.string (dstr q))
    have hb8 := hb7.trans (hc8.mono hb7.size)
    have HX8 := hide (HX6.out.keep hb8 HX6.out.lt)
    have HC8 := hide (HC6.out.trans (hb8.mono HC6.out.size))
    clear hb7 hc8 hb8 HC6 HX6
    have he8 := hide (HE.out.below HC8.out)
    have HAW8 := hide (HAW.out _ he8.out)
    go_wp2_with fail
    refine HAW8.out.mono ?_
    rintro e w9 ⟨rfl, hb9⟩
    have HX9 := hide (HX8.out.keep hb9 HX8.out.lt)
    have HY9 := hide (HY8.out.keep hb9 HY8.out.lt)
    have hbf := HC8.out.trans (hb9.mono HC8.out.size)
    obtain ⟨c0, c1, c2, _⟩ := HX9.out
    obtain ⟨d0, d1, d2, _⟩ := HY9.out
    go_wp2_with fail
    go_ret
    exact ⟨rfl, hbf⟩
end Go.Proofs.YthppojbabkljpaaGreatDoor.RsLaw9
