/- The walk of the law RationalValid. -/
import Derived.Test.YthppojbabkljpaaDoorRsV
namespace Go.Proofs.YthppojbabkljpaaDoor.RsLaw14
theorem here : True := trivial
open Go.RowKit RnA RnB RnS RnC RnK RnM RnL RnN RnD RnE RnQ RnR RnG RnP RnW RnX RoA RoB RoC RoD RoE RoF RoG RoH RoI RoJ RoK RoL RoM RoN PnA PnB PnC PnD PnE PnF PnG PnH PnI PnJ PnK PnL RtA RtB RtC RtD RtE RtG RtH RtI RtJ RpA RpB RpC RpD RpE RpF RpG RpH RnY RpI RpJ RpK RpL RsX RsY RsW RsV
set_option maxHeartbeats 8000000 in
set_option maxRecDepth 100000 in
theorem valid_law (n : Bool) (a d : ByteArray) (w : World) (h1 : a.size ≤ maxLen) (h2 : d.size ≤ maxLen) (he : Env w) :
    Calls Tryd.prog 3 #[.agg #[.bool n, .string a, .string d]] w fun e w' => e = .returned (.bool true) ∧ Below w.heap.size w w' := by
  have HAW := Lib.hid (fun w (h : Env w) => awake_any w h)
  obtain ⟨V0, hV0, HX0, hc0, hl0⟩ := box_new w (.bool n) (.string a) (.string d)
  obtain ⟨V1, hV1, HL1, hc1, hl1⟩ := box_new V0 (.bool n) (.string a) (.string d)
  have HA3 := hide (HX0.out.keep hc1 hl0)
  have HC3 := hide (hc0.trans (hc1.mono hc0.size))
  have HFEW := hide (few_one n a d V1 V0.heap.size h1 h2 HL1.out)
  obtain ⟨a0, a1, a2, _⟩ := HX0.out
  clear hc0 hc1
  cases hf : fewB a d
  · rw [hf] at HFEW
    go_enter Tryd.func3, Tryd.ntmps3
    go_wp2_with fail
    refine HFEW.out.mono ?_
    rintro e w2 ⟨rfl, hb2⟩
    have hbf := HC3.out.trans (hb2.mono HC3.out.size)
    have he2 := hide (he.below hbf)
    go_wp2_with fail
    refine (HAW.out _ he2.out).mono ?_
    rintro e w3 ⟨rfl, hb3⟩
    go_wp2_with fail
    go_ret
    exact ⟨rfl, hbf.trans (hb3.mono hbf.size)⟩
  · rw [hf] at HFEW
    obtain ⟨x1, x2⟩ := few_size hf
    have P1 := Lib.hid (fun W (v : Qin.In (Below W.heap.size W)) => v_in (valid_any n a d v.val (by omega) (by omega)))
    have R1 := Lib.hid (fun W (v : Qin.In (Below W.heap.size W)) => v_in (rvalid_any n a d v.val (by omega) (by omega)))
    generalize validB n a.data.toList d.data.toList = b at *
    clear x1 x2
    clear h1 h2 hf
    go_enter Tryd.func3, Tryd.ntmps3
    go_wp2_with fail
    refine HFEW.out.mono ?_
    rintro e w3 ⟨rfl, hb3⟩
    have HA4 := hide (HA3.out.keep hb3 HA3.out.lt)
    have HC4 := hide (HC3.out.trans (hb3.mono HC3.out.size))
    have he4 := hide (he.below HC4.out)
    clear a0 a1 a2 hb3 HA3 HC3 HFEW hV0 hV1 HX0 HL1
    have HAWI := Lib.hid (fun x => awake_in w3 he4.out x)
    cases b
    all_goals
      go_wp2_with fail
      obtain ⟨k0, k1, k2⟩ := HA4.out.kin
      refine Qin.region (I := Below w3.heap.size w3) (Qin.start _ w3) (by kernel_rfl) (by kernel_rfl) ?_
      repeat (go_big_quiet_step ((first | (go_at_call 8; with_reducible exact HAWI.out _) | (go_at_call 9; with_reducible exact P1.out _ _) | (go_at_call 10; with_reducible exact R1.out _ _))))
      refine wpQuiet_nil ?_
      intro y
      have hbf := HC4.out.trans (y.ok.mono HC4.out.size)
      clear k0 k1 k2
      go_wp2_with fail
      go_ret
      exact ⟨rfl, hbf⟩
end Go.Proofs.YthppojbabkljpaaDoor.RsLaw14
