/- The walk of the law RationalInt64. -/
import Derived.Test.YthppojbabkljpaaGreatDoorRsV
namespace Go.Proofs.YthppojbabkljpaaGreatDoor.RsLaw7
open Go.RowKit RnA RnB RnS RnC RnK RnM RnL RnN RnD RnE RnQ RnR RnG RnP RnW RnX RoA RoB RoC RoD RoE RoF RoG RoH RoI RoJ RoK RoL RoM RoN PnA PnB PnC PnD PnE PnF PnG PnH PnI PnJ PnK PnL RtA RtB RtC RtD RtE RtG RtH RtI RtJ RpA RpB RpC RpD RpE RpF RpG RpH RnY RpI RpJ RpK RpL RsX RsY RsW RsV
set_option maxHeartbeats 8000000 in
set_option maxRecDepth 100000 in
theorem int64_law (n : Bool) (a d : ByteArray) (m : Int) (w : World) (h1 : a.size ≤ maxLen) (h2 : d.size ≤ maxLen) (hm : In64 m) (he : Env w) :
    Calls Tryz.prog 8 #[.agg #[.bool n, .string a, .string d], .int .i64 m] w fun e w' => e = .returned (.bool true) ∧ Below w.heap.size w w' := by
  have HAW := Lib.hid (fun w (h : Env w) => awake_any w h)
  obtain ⟨V0, hV0, HX0, hc0, hl0⟩ := box_new w (.bool n) (.string a) (.string d)
  obtain ⟨V1, hV1, HL1, hc1, hl1⟩ := box_new V0 (.bool n) (.string a) (.string d)
  have HA3 := hide (HX0.out.keep hc1 hl0)
  have HC3 := hide (hc0.trans (hc1.mono hc0.size))
  have HFEW := hide (few_one n a d V1 V0.heap.size h1 h2 HL1.out)
  obtain ⟨a0, a1, a2, _⟩ := HX0.out
  clear hc0 hc1
  cases hf : fewB a d
  · rw [hf] at HFEW
    go_enter Tryz.func8, Tryz.ntmps8
    go_wp2_with fail
    refine HFEW.out.mono ?_
    rintro e w2 ⟨rfl, hb2⟩
    have hbf := HC3.out.trans (hb2.mono HC3.out.size)
    have he2 := hide (he.below hbf)
    go_wp2_with fail
    refine (HAW.out _ he2.out).mono ?_
    rintro e w3 ⟨rfl, hb3⟩
    go_wp2_with fail
    go_ret
    exact ⟨rfl, hbf.trans (hb3.mono hbf.size)⟩
  · rw [hf] at HFEW
    obtain ⟨x1, x2⟩ := few_size hf
    have P1 := Lib.hid (fun w => pint64_any n a d w (by omega) (by omega))
    have R1 := Lib.hid (fun w => rint64_any n a d w (by omega) (by omega))
    have P2 := Lib.hid (fun w => int_any m w hm)
    have hls := lt_int hm
    have P3 := Lib.hid (fun w => pint64_any (negB (intQ m)) (bs (nm (intQ m))) (dstr (intQ m)) w (by have := hls.num; omega) (by have := hls.dstr; omega))
    rw [fix_self, int64_int hm] at P3
    generalize int64Q (fixQ n a.data.toList d.data.toList) = p at *
    generalize intQ m = i at *
    obtain ⟨q, ok⟩ := p
    unfold IPost at P1 R1 P3
    unfold RPost at P2
    simp only [enc_open] at P2
    simp only at P1 R1 P3
    obtain ⟨m1, m2⟩ := hm
    clear hls x1 x2
    clear h1 h2 hf
    go_enter Tryz.func8, Tryz.ntmps8
    go_wp2_with fail
    refine HFEW.out.mono ?_
    rintro e w3 ⟨rfl, hb3⟩
    have HA4 := hide (HA3.out.keep hb3 HA3.out.lt)
    have HC4 := hide (HC3.out.trans (hb3.mono HC3.out.size))
    have he4 := hide (he.below HC4.out)
    clear a0 a1 a2 hb3 HA3 HC3 HFEW hV0 hV1 HX0 HL1
    obtain ⟨a0, a1, a2, _⟩ := HA4.out
    go_wp2_with fail
    refine (P1.out _).mono ?_
    rintro e w5 ⟨rfl, hb5⟩
    have HA5 := hide (HA4.out.keep hb5 HA4.out.lt)
    have HC5 := hide (HC4.out.trans (hb5.mono HC4.out.size))
    clear a0 a1 a2 hb5 HA4 HC4 he4
    obtain ⟨a0, a1, a2, _⟩ := HA5.out
    go_wp2_with fail
    refine (R1.out _).mono ?_
    rintro e w6 ⟨rfl, hb6⟩
    have HC6 := hide (HC5.out.trans (hb6.mono HC5.out.size))
    clear a0 a1 a2 hb6 HA5 HC5
    go_wp2_with fail
    refine (P2.out _).mono ?_
    rintro e w7 ⟨rfl, hb7⟩
    have HC7 := hide (HC6.out.trans (hb7.mono HC6.out.size))
    clear hb7 HC6
    go_wp2_with fail
    refine (P3.out _).mono ?_
    rintro e w8 ⟨rfl, hb8⟩
    have HC8 := hide (HC7.out.trans (hb8.mono HC7.out.size))
    have he8 := hide (he.below HC8.out)
    have HAW8 := hide (HAW.out _ he8.out)
    clear hb8 HC7
    go_wp2_with fail
    refine HAW8.out.mono ?_
    rintro e w9 ⟨rfl, hb9⟩
    have hbf := HC8.out.trans (hb9.mono HC8.out.size)
    clear hb9
    go_wp2_with fail
    go_ret
    exact ⟨rfl, hbf⟩
end Go.Proofs.YthppojbabkljpaaGreatDoor.RsLaw7
