/- The walk of the law RationalFloor. -/
import Derived.Test.YthppojbabkljpaaGreatDoorRsV
import Derived.Test.YthppojbabkljpaaGreatDoorRtK
namespace Go.Proofs.YthppojbabkljpaaGreatDoor.RsLaw8
open Go.RowKit RnA RnB RnS RnC RnK RnM RnL RnN RnD RnE RnQ RnR RnG RnP RnW RnX RoA RoB RoC RoD RoE RoF RoG RoH RoI RoJ RoK RoL RoM RoN PnA PnB PnC PnD PnE PnF PnG PnH PnI PnJ PnK PnL RtA RtB RtC RtD RtE RtG RtH RtI RtJ RtK RpA RpB RpC RpD RpE RpF RpG RpH RnY RpI RpJ RpK RpL RsX RsY RsW RsV
theorem floor_facts (q : Rat) : 0 ≤ sgnQ (q - mk (negB q) (floorN q) 1) ∧ cmpQ (q - mk (negB q) (floorN q) 1) (intQ 1) < 0 ∧ (mk (negB q) (floorN q) 1).den = 1 := by
  have e : mk (negB q) (floorN q) 1 = ((q.floor : Int) : Rat) := (floor_eq q).symm
  obtain ⟨h1, h2⟩ := floor_bounds q
  rw [e]
  refine ⟨sgn_nonneg h1, ?_, by simp⟩
  rw [show intQ 1 = 1 from rfl]
  exact cmp_lt h2
theorem floor_lt {q : Rat} {k : Nat} (h : Lt q k) : Lt (mk (negB q) (floorN q) 1) (k + 1) := by
  have h0 : 1 < 256 ^ (k + 1) := Nat.lt_of_lt_of_le (by decide : 1 < 256 ^ 1) (pow_mono (by omega))
  refine mk_lt (by decide) ?_ h0
  have h1 : floorN q ≤ nm q + 1 := by
    unfold floorN
    have := Nat.div_le_self (nm q) q.den
    split <;> omega
  have h2 := h.1
  rw [Nat.pow_succ]
  omega
set_option maxHeartbeats 8000000 in
set_option maxRecDepth 100000 in
theorem floor_law (n : Bool) (a d : ByteArray) (w : World) (h1 : a.size ≤ maxLen) (h2 : d.size ≤ maxLen) (he : Env w) :
    Calls Tryz.prog 14 #[.agg #[.bool n, .string a, .string d]] w fun e w' => e = .returned (.bool true) ∧ Below w.heap.size w w' := by
  have HAW := Lib.hid (fun w (h : Env w) => awake_any w h)
  obtain ⟨V0, hV0, HX0, hc0, hl0⟩ := box_new w (.bool n) (.string a) (.string d)
  obtain ⟨V1, hV1, HL1, hc1, hl1⟩ := box_new V0 (.bool n) (.string a) (.string d)
  have HA3 := hide (HX0.out.keep hc1 hl0)
  have HC3 := hide (hc0.trans (hc1.mono hc0.size))
  have HFEW := hide (few_one n a d V1 V0.heap.size h1 h2 HL1.out)
  obtain ⟨a0, a1, a2, _⟩ := HX0.out
  clear hc0 hc1
  cases hf : fewB a d
  · rw [hf] at HFEW
    go_enter Tryz.func14, Tryz.ntmps14
    go_wp2_with fail
    refine HFEW.out.mono ?_
    rintro e w2 ⟨rfl, hb2⟩
    have hbf := HC3.out.trans (hb2.mono HC3.out.size)
    have he2 := hide (he.below hbf)
    go_wp2_with fail
    refine (HAW.out _ he2.out).mono ?_
    rintro e w3 ⟨rfl, hb3⟩
    go_wp2_with fail
    go_ret
    exact ⟨rfl, hbf.trans (hb3.mono hbf.size)⟩
  · rw [hf] at HFEW
    obtain ⟨x1, x2⟩ := few_size hf
    have hlq := lt_raw (n := n) x1 x2 (by decide)
    have P1 := Lib.hid (fun w => floor_any n a d w (by omega) (by omega))
    have R1 := Lib.hid (fun W (v : Qin.In (Below W.heap.size W)) => q_in (rfloor_any n a d v.val (by omega) (by omega)))
    have P2 := Lib.hid (fun w b e h1 h2 h3 => psub_any n a d b e ⟨#[]⟩ w 25 (by omega) (by omega) h1 h2 h3 (by decide))
    generalize hq : fixQ n a.data.toList d.data.toList = q at *
    obtain ⟨g1, g2, g3⟩ := floor_facts q
    have hlf := floor_lt hlq
    generalize mk (negB q) (floorN q) 1 = f at *
    have hdf := dstr_one g3
    have hld := hlq.add hlf.neg
    rw [show q + -f = q - f by grind] at hld
    have hff := fix_self f
    have P2 := Lib.hid (fun w => P2.out w (negB f) (bs (nm f)) hlf.num (Nat.zero_le _) (by decide))
    rw [hdf] at hff
    rw [hff] at P2
    have P3 := Lib.hid (fun W (v : Qin.In (Below W.heap.size W)) => v_in (sign_any (negB (q - f)) (bs (nm (q - f))) (dstr (q - f)) v.val (by have := hld.num; omega) (by have := hld.dstr; omega)))
    rw [fix_self] at P3
    have P4 := Lib.hid (fun W (v : Qin.In (Below W.heap.size W)) => q_in (int_any 1 v.val ⟨by decide, by decide⟩))
    have hl1 := lt_int (n := 1) ⟨by decide, by decide⟩
    have P5 := Lib.hid (fun W (v : Qin.In (Below W.heap.size W)) => v_in (pcmp_any (negB (q - f)) (bs (nm (q - f))) (dstr (q - f)) (negB (intQ 1)) (bs (nm (intQ 1))) (dstr (intQ 1)) v.val 100 (by have := hld.num; omega) (by have := hld.dstr; omega) (by have := hl1.num; omega) (by have := hl1.dstr; omega) (by decide) (by decide)))
    rw [fix_self, fix_self] at P5
    unfold RPost at P1 P2
    rw [enc_open, hdf] at P1
    rw [enc_open] at P2
    rw [hdf] at R1
    generalize sgnQ (q - f) = s at *
    generalize cmpQ (q - f) (intQ 1) = c at *
    generalize q - f = D at *
    generalize intQ 1 = one at *
    have S1 := fun W => rat_same (negB f) (bs (nm f)) ⟨#[]⟩ W
    have hrg := rat_guard
    clear hlq hlf hld hff hl1 hq g3 hdf x1 x2
    clear h1 h2 hf
    go_enter Tryz.func14, Tryz.ntmps14
    go_wp2_with fail
    refine HFEW.out.mono ?_
    rintro e w3 ⟨rfl, hb3⟩
    have HA4 := hide (HA3.out.keep hb3 HA3.out.lt)
    have HC4 := hide (HC3.out.trans (hb3.mono HC3.out.size))
    have he4 := hide (he.below HC4.out)
    clear a0 a1 a2 hb3 HA3 HC3 HFEW hV0 hV1 HX0 HL1
    obtain ⟨a0, a1, a2, _⟩ := HA4.out
    go_wp2_with fail
    refine (P1.out _).mono ?_
    rintro e w5 ⟨rfl, hb5⟩
    obtain ⟨V6, hV6, HX6, hc6, hl6⟩ := box_new w5 (.bool (negB f)) (.string (bs (nm f))) (.string ⟨#[]⟩)
    have hb6 := hb5.trans (hc6.mono hb5.size)
    have HA6 := hide (HA4.out.keep hb6 HA4.out.lt)
    have HC6 := hide (HC4.out.trans (hb6.mono HC4.out.size))
    have HV6 := hide hV6
    clear a0 a1 a2 hb5 hc6 hb6 HA4 HC4 he4 hV6
    go_upto_region 4 with fail
    rw [HV6.out]
    obtain ⟨a0, a1, a2, _⟩ := HA6.out
    obtain ⟨c0, c1, c2, _⟩ := HX6.out
    go_wp2_with fail
    refine (P2.out _).mono ?_
    rintro e w7 ⟨rfl, hb7⟩
    obtain ⟨V8, hV8, HY8, hc8, hl8⟩ := box_new w7 (.bool (negB D)) (.string (bs (nm D))) (.string (dstr D))
    have hb8 := hb7.trans (hc8.mono hb7.size)
    have HA8 := hide (HA6.out.keep hb8 HA6.out.lt)
    have HX8 := hide (HX6.out.keep hb8 HX6.out.lt)
    have HC8 := hide (HC6.out.trans (hb8.mono HC6.out.size))
    clear a0 a1 a2 c0 c1 c2 hb7 hc8 hb8 HA6 HC6 HX6
    have he8 := hide (he.below HC8.out)
    have HV8 := hide hV8
    clear hV8
    go_upto_region 5 with fail
    rw [HV8.out]
    have HAWI := Lib.hid (fun x => awake_in V8 he8.out x)
    obtain ⟨k0, k1, k2⟩ := HA8.out.kin
    obtain ⟨l0, l1, l2⟩ := HX8.out.kin
    obtain ⟨m0, m1, m2⟩ := HY8.out.kin
    refine Qin.region (I := Below V8.heap.size V8) (Qin.start _ V8) (by kernel_rfl) (by kernel_rfl) ?_
    repeat (go_big_quiet_step ((first | (go_at_call 16; with_reducible exact HAWI.out _) | (go_at_call 56; with_reducible exact R1.out _ _) | (go_at_call 48; with_reducible exact P3.out _ _) | (go_at_call 27; with_reducible exact P4.out _ _) | (go_at_call 47; with_reducible exact P5.out _ _))))
    refine wpQuiet_nil ?_
    intro y
    have hbf := HC8.out.trans (y.ok.mono HC8.out.size)
    clear k0 k1 k2 l0 l1 l2 m0 m1 m2
    go_wp2_with fail
    go_ret
    exact ⟨rfl, hbf⟩
end Go.Proofs.YthppojbabkljpaaGreatDoor.RsLaw8
