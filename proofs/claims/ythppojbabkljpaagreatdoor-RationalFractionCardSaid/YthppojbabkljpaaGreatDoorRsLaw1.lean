/- The walk of the law RationalFraction. -/
import Derived.Test.YthppojbabkljpaaGreatDoorRsK
namespace Go.Proofs.YthppojbabkljpaaGreatDoor.RsLaw1
open Go.RowKit RnA RnB RnS RnC RnK RnM RnL RnN RnD RnE RnQ RnR RnP RnW RnX RoA RoB RoC RoD RoE RoF RoG RoH RoI RoJ RoK RoL RoM RoN PnA PnB PnC PnD PnE PnF PnG PnH PnI PnJ PnK PnL RtA RtB RtC RpA RpB RpC RpD RpE RpF RpG RpH RsX
set_option maxHeartbeats 2000000 in
set_option maxRecDepth 100000 in
theorem fraction_law (a b : Int) (w : World) (ha : In64 a) (hb : In64 b) (he : Env w) :
    Calls Tryz.prog 6 #[.int .i64 a, .int .i64 b] w fun e w' => e = .returned (.bool true) ∧ Below w.heap.size w w' := by
  have H1 := Lib.hid (fun w => fraction_any a b w ha hb)
  have H2 := Lib.hid (fun w => rfraction_any a b w ha hb)
  have H3 := Lib.hid (fun w => int_any a w ha)
  have H4 := Lib.hid (fun w => rint_any a w ha)
  have HAW := Lib.hid (fun w (h : Env w) => awake_any w h)
  generalize makeQ (decide (a < 0) != decide (b < 0)) a.natAbs b.natAbs = p at *
  obtain ⟨q, ok⟩ := p
  generalize intQ a = i at *
  unfold RBPost at H1 H2
  unfold RPost at H3 H4
  simp only [enc_open] at H1 H2 H3 H4
  have S1 := fun W => rat_same (negB q) (bs (nm q)) (dstr q) W
  have S2 := fun W => rat_same (negB i) (bs (nm i)) (dstr i) W
  have hrg := rat_guard
  go_enter Tryz.func6, Tryz.ntmps6
  go_wp2_with fail
  refine (H1.out _).mono ?_
  rintro e w1 ⟨rfl, hb1⟩
  obtain ⟨V1, hV1, HX1, hc1, hl1⟩ := box_new w1 (.bool (negB q)) (.string (bs (nm q))) (.string (dstr q))
  have HB1 := hb1.trans (hc1.mono hb1.size)
  go_wp2_with fail
  refine (H2.out _).mono ?_
  rintro e w2 ⟨rfl, hb2⟩
  obtain ⟨V2, hV2, HY2, hc2, hl2⟩ := box_new w2 (.bool (negB q)) (.string (bs (nm q))) (.string (dstr q))
  have hs2 := hb2.size
  have HX2 := hide (HX1.out.keep (hb2.trans (hc2.mono hs2)) (by omega))
  have HB2 := HB1.trans ((hb2.trans (hc2.mono hs2)).mono HB1.size)
  clear HX1 HB1 hb1 hc1 hc2 hb2
  have he2 := hide (he.below HB2)
  have HA2 := hide (HAW.out _ he2.out)
  go_wp2_with fail
  refine HA2.out.mono ?_
  rintro e w3 ⟨rfl, hb3⟩
  have HX3 := hide (HX2.out.keep hb3 (by omega))
  have HY3 := hide (HY2.out.keep hb3 (by omega))
  have HB3 := HB2.trans (hb3.mono HB2.size)
  clear HX2 HY2 HB2 hb3 HA2 he2
  obtain ⟨c0, c1, c2, _⟩ := HX3.out
  obtain ⟨d0, d1, d2, _⟩ := HY3.out
  go_wp2_with fail
  refine (H3.out _).mono ?_
  rintro e w4 ⟨rfl, hb4⟩
  have HB4 := HB3.trans (hb4.mono HB3.size)
  clear HB3 hb4 c0 c1 c2 d0 d1 d2
  go_wp2_with fail
  refine (H4.out _).mono ?_
  rintro e w5 ⟨rfl, hb5⟩
  have HB5 := HB4.trans (hb5.mono HB4.size)
  clear hb5 HB4
  go_wp2_with fail
  go_ret
  exact ⟨rfl, HB5⟩
end Go.Proofs.YthppojbabkljpaaGreatDoor.RsLaw1
