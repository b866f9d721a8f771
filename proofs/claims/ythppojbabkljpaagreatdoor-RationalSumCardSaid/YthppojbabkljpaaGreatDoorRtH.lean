/- The walks of the reference's Signum, Sign, Opposite, Negate, Int64. -/
import Derived.Test.YthppojbabkljpaaGreatDoorRtG
namespace Go.Proofs.YthppojbabkljpaaGreatDoor.RtH
open Go.RowKit RnA RnB RnS RnC RnK RnM RnL RnN RnD RnE RnQ RnR RnG RnP RnW RnX RoA RoB RoC RoD RoE RoF RoG RoH RoI RoJ RoK RoL RoM RoN PnA PnB PnC PnD PnE PnF PnG PnH PnI PnJ PnK PnL RtA RtB RtC RtE RtG RpA RpB RpC RpD RpE RpF RpG RpH RnY RpI RpJ RpK RpL
set_option maxHeartbeats 1000000 in
set_option maxRecDepth 100000 in
theorem rsignum_q (q : Rat) (w : World) :
    Calls Tryz.prog 100 #[.agg #[.bool (negB q), .string (bs (nm q)), .string (dstr q)]] w fun e w' => e = .returned (.int .i64 (sgnQ q)) ∧ Below w.heap.size w w' := by
  have hs := hide (sgnB_eq q)
  generalize sgnQ q = s at *
  generalize negB q = n at *
  generalize dstr q = D at *
  generalize bs (nm q) = t at *
  obtain ⟨V0, hV0, HX0, hc0, hl0⟩ := box_new w (.bool n) (.string t) (.string D)
  obtain ⟨c0, c1, c2, _⟩ := HX0.out
  by_cases h0 : 0 < t.size
  · obtain ⟨e1, e2⟩ := str_ne h0
    cases n
    · have hr : Hid (s = 1) := by show _ = _; rw [← hs.out]; unfold sgnB; rw [if_neg (by omega)]; rfl
      go_enter Tryz.func100, Tryz.ntmps100
      go_wp2_with fail
      go_ret
      exact ⟨by rw [hr.out]; rfl, hc0⟩
    · have hr : Hid (s = -1) := by show _ = _; rw [← hs.out]; unfold sgnB; rw [if_neg (by omega)]; rfl
      go_enter Tryz.func100, Tryz.ntmps100
      go_wp2_with fail
      go_ret
      exact ⟨by rw [hr.out]; rfl, hc0⟩
  · obtain ⟨e1, e2⟩ := str_em (s := t) (by omega)
    have hr : Hid (s = 0) := by show _ = _; rw [← hs.out]; unfold sgnB; rw [if_pos (by omega)]
    go_enter Tryz.func100, Tryz.ntmps100
    go_wp2_with fail
    go_ret
    exact ⟨by rw [hr.out]; rfl, hc0⟩
set_option maxHeartbeats 1000000 in
set_option maxRecDepth 100000 in
theorem rsign_any (n : Bool) (a d : ByteArray) (w : World) (ha : a.size ≤ 100000) (hd : d.size ≤ 100000) :
    Calls Tryz.prog 49 #[.agg #[.bool n, .string a, .string d]] w fun e w' => e = .returned (.int .i64 (sgnQ (fixQ n a.data.toList d.data.toList))) ∧ Below w.heap.size w w' := by
  have HC := Lib.hid (fun w => rfix_any n a d w ha hd)
  generalize fixQ n a.data.toList d.data.toList = q at *
  rw [enc_open] at HC
  have HS := Lib.hid (fun w => rsignum_q q w)
  obtain ⟨V0, hV0, HX0, hc0, hl0⟩ := box_new w (.bool n) (.string a) (.string d)
  obtain ⟨c0, c1, c2, _⟩ := HX0.out
  go_enter Tryz.func49, Tryz.ntmps49
  go_wp2_with fail
  refine (HC.out _).mono ?_
  rintro e w1 ⟨rfl, hb1⟩
  have HB1 := hc0.trans (hb1.mono hc0.size)
  go_wp2_with fail
  refine (HS.out _).mono ?_
  rintro e w2 ⟨rfl, hb2⟩
  go_wp2_with fail
  go_ret
  exact ⟨rfl, HB1.trans (hb2.mono HB1.size)⟩
set_option maxHeartbeats 1000000 in
set_option maxRecDepth 100000 in
theorem ropp_q (q : Rat) (w : World) :
    Calls Tryz.prog 94 #[.agg #[.bool (negB q), .string (bs (nm q)), .string (dstr q)]] w (RPost (-q) w) := by
  unfold RPost
  have hr := hide (enc_neg q)
  have h0 : Hid (nm q ≠ 0 → 0 < (bs (nm q)).size) := fun h => bytes_ne_nil h
  have h1 : Hid (nm q = 0 → bs (nm q) = ⟨#[]⟩) := fun h => by rw [h, bs0]
  generalize enc (-q) = E at *
  generalize dstr q = D at *
  by_cases hz : nm q = 0
  · have hr2 := hr.out
    have hn0 : negB q = false := by
      cases hn : negB q
      · rfl
      · exact absurd hz (nm_neg hn)
    rw [h1.out hz, decide_eq_false (by omega), Bool.and_false] at hr2
    have HR := hide hr2
    rw [h1.out hz, hn0]
    clear hn0
    clear hr2 hr h0 h1 hz
    obtain ⟨W0, W1, hW, hW1, hW0, HX1, HY1, HB1, hsz⟩ := start2 w (.bool false) (.string ⟨#[]⟩) (.string D)
    obtain ⟨c0, c1, c2, f0, f1, f2⟩ := HX1.out
    obtain ⟨p0, p1, p2, q0, q1, q2⟩ := HY1.out
    all_goals
      go_enter Tryz.func94, Tryz.ntmps94
      go_wp2_with fail
      refine bodyPost_ret (results_rat rfl _ rfl (HY1.out.set3 _ _ _)) rfl ?_
      exact ⟨by rw [HR.out], below_set3 HB1.out (by omega) _ _ _⟩
  · have hr2 := hr.out
    rw [decide_eq_true hz, Bool.and_true] at hr2
    have HR := hide hr2
    obtain ⟨e1, e2⟩ := str_ne (h0.out hz)
    generalize negB q = n at *
    generalize bs (nm q) = t at *
    clear hr2 hr h0 h1 hz
    obtain ⟨W0, W1, hW, hW1, hW0, HX1, HY1, HB1, hsz⟩ := start2 w (.bool n) (.string t) (.string D)
    obtain ⟨V, hV⟩ : ∃ V, W1.setCell ⟨w.heap.size, 0, none⟩ (.bool !n) = V := ⟨_, rfl⟩
    have HX2 : Hid (Bx V w.heap.size (.bool !n) (.string t) (.string D)) := by rw [← hV]; exact HX1.out.put0 _
    have HY2 : Hid (Bx V (w.heap.size + 1) (.bool false) (.string ⟨#[]⟩) (.string ⟨#[]⟩)) := by rw [← hV]; exact HY1.out.other (by omega) 0 _
    have HB2 : Hid (Below w.heap.size w V) := by rw [← hV]; exact HB1.out.setCell (by show w.heap.size ≤ w.heap.size; omega) _
    obtain ⟨c0, c1, c2, f0, f1, f2⟩ := HX1.out
    cases n
    all_goals
      simp only [Bool.not_true, Bool.not_false] at hV HX2 HR
      obtain ⟨d0, d1, d2, g0, g1, g2⟩ := HX2.out
      obtain ⟨p0, p1, p2, q0, q1, q2⟩ := HY2.out
      go_enter Tryz.func94, Tryz.ntmps94
      go_wp2_with fail
      refine bodyPost_ret (results_rat rfl _ rfl (HY2.out.set3 _ _ _)) rfl ?_
      exact ⟨by rw [HR.out], below_set3 HB2.out (by omega) _ _ _⟩
set_option maxHeartbeats 1000000 in
set_option maxRecDepth 100000 in
theorem rneg_any (n : Bool) (a d : ByteArray) (w : World) (ha : a.size ≤ 100000) (hd : d.size ≤ 100000) :
    Calls Tryz.prog 38 #[.agg #[.bool n, .string a, .string d]] w (RPost (-fixQ n a.data.toList d.data.toList) w) := by
  have HC := Lib.hid (fun w => rfix_any n a d w ha hd)
  generalize fixQ n a.data.toList d.data.toList = q at *
  rw [enc_open] at HC
  have HS := Lib.hid (fun w => ropp_q q w)
  unfold RPost at HS ⊢
  rw [enc_open] at HS ⊢
  generalize -q = p at *
  obtain ⟨W0, W1, hW, hW1, hW0, HX1, HY1, HB1, hsz⟩ := start2 w (.bool n) (.string a) (.string d)
  obtain ⟨c0, c1, c2, _⟩ := HX1.out
  go_enter Tryz.func38, Tryz.ntmps38
  go_wp2_with fail
  refine (HC.out _).mono ?_
  rintro e w1 ⟨rfl, hb1⟩
  have HY2 := hide (HY1.out.keep hb1 (by omega))
  have HB2 := hide (HB1.out.trans (hb1.mono (by omega)))
  have hs1 := hb1.size
  clear hb1
  go_wp2_with fail
  refine (HS.out _).mono ?_
  rintro e w2 ⟨rfl, hb2⟩
  have HY3 := hide (HY2.out.keep hb2 (by omega))
  have HB3 := hide (HB2.out.trans (hb2.mono (by omega)))
  obtain ⟨p0, p1, p2, q0, q1, q2⟩ := HY3.out
  go_wp2_with fail
  refine bodyPost_ret (results_rat rfl _ rfl (HY3.out.set3 _ _ _)) rfl ?_
  exact ⟨rfl, below_set3 HB3.out (by omega) _ _ _⟩
set_option maxHeartbeats 4000000 in
set_option maxRecDepth 100000 in
theorem rint64_any (n : Bool) (a d : ByteArray) (w : World) (ha : a.size ≤ 40000) (hd : d.size ≤ 40000) :
    Calls Tryz.prog 32 #[.agg #[.bool n, .string a, .string d]] w (IPost (int64Q (fixQ n a.data.toList d.data.toList)) w) := by
  have HC := Lib.hid (fun w => rfix_any n a d w (by omega) (by omega))
  obtain ⟨hs1, hs2⟩ := fix_size (n := n) (a := a) (d := d)
  generalize fixQ n a.data.toList d.data.toList = q at *
  rw [enc_open] at HC
  have HU := Lib.hid (fun w => ruint_any (bs (nm q)) w (by omega))
  rw [nv_bs] at HU
  have hfrac : Hid (q.den ≠ 1 → int64Q q = (0, false)) := i64_frac
  have hpos : Hid (q.den = 1 → negB q = false → int64Q q = if nm q ≤ 9223372036854775807 then ((nm q : Int), true) else (0, false)) := i64_pos
  have hneg : Hid (q.den = 1 → negB q = true → int64Q q = if nm q ≤ 9223372036854775808 then (-(nm q : Int), true) else (0, false)) := i64_neg
  have hd1 : Hid (q.den = 1 → dstr q = ⟨#[]⟩) := dstr_one
  have hd2 : Hid (q.den ≠ 1 → 0 < (dstr q).size) := fun h => by rw [dstr_big h]; exact bytes_ne_nil q.den_nz
  unfold IPost
  generalize int64Q q = R at *
  obtain ⟨V0, hV0, HX0, hc0, hl0⟩ := box_new w (.bool n) (.string a) (.string d)
  obtain ⟨a0, a1, a2, _⟩ := HX0.out
  have HC0 := hide hc0
  clear hc0
  generalize bs (nm q) = N at *
  go_enter Tryz.func32, Tryz.ntmps32
  go_wp2_with fail
  refine (HC.out _).mono ?_
  rintro e w1 ⟨rfl, hb1⟩
  have HX1 := hide (HX0.out.keep hb1 hl0)
  have HC1 := hide (HC0.out.trans (hb1.mono HC0.out.size))
  clear hb1 a0 a1 a2 HX0 HC0 hV0
  obtain ⟨a0, a1, a2, f0, f1, f2⟩ := HX1.out
  obtain ⟨V, hV⟩ : ∃ V, (((w1.setCell ⟨w.heap.size, 0, none⟩ (.bool (negB q))).setCell ⟨w.heap.size, 1, none⟩ (.string N)).setCell ⟨w.heap.size, 2, none⟩ (.string (dstr q))) = V := ⟨_, rfl⟩
  have HX2 := hide (HX1.out.set3 (.bool (negB q)) (.string N) (.string (dstr q)))
  have HC2 := hide (below_set3 HC1.out (Nat.le_refl _) (.bool (negB q)) (.string N) (.string (dstr q)))
  rw [hV] at HX2 HC2
  have HV := hide hV
  clear hV
  obtain ⟨d0, d1, d2, _⟩ := HX2.out
  go_wp2_with fail
  rw [HV.out]
  refine (HU.out _).mono ?_
  rintro e w3 ⟨rfl, hb3⟩
  have HX3 := hide (HX2.out.keep hb3 HX2.out.lt)
  have HC3 := hide (HC2.out.trans (hb3.mono HC2.out.size))
  clear hb3 a0 a1 a2 f0 f1 f2 d0 d1 d2 HV HX2 HC2 HX1 HC1 HC HU
  obtain ⟨a0, a1, a2, _⟩ := HX3.out
  have HBF := HC3.out
  by_cases hden : q.den = 1
  · have hp := hpos.out hden
    have hn := hneg.out hden
    have HP := hide hp
    have HN := hide hn
    rw [hd1.out hden] at a2
    clear hp hn hpos hneg hfrac hd1 hd2 hden
    have nmneg : Hid (negB q = true → nm q ≠ 0) := nm_neg
    generalize nm q = u at *
    by_cases hu : u < 18446744073709551616
    · rw [show uintOf u = (u, true) by unfold uintOf; rw [if_pos hu]]
      cases hb : negB q
      · have hr := HP.out hb
        rw [hb] at a0
        clear HP HN
        by_cases h2 : u ≤ 9223372036854775807
        · rw [if_pos h2] at hr
          have HR := hide hr
          clear hr
          go_wp2_with fail
          go_ret2
          exact ⟨by rw [HR.out]; rfl, HBF⟩
        · rw [if_neg h2] at hr
          have HR := hide hr
          clear hr
          go_wp2_with fail
          go_ret2
          exact ⟨by rw [HR.out]; rfl, HBF⟩
      · have hr := HN.out hb
        rw [hb] at a0
        clear HP HN
        by_cases h2 : u ≤ 9223372036854775808
        · rw [if_pos h2] at hr
          have HR := hide hr
          clear hr
          have hu1 : 0 < u := by
            rcases Nat.eq_zero_or_pos u with h | h
            · exact absurd h (nmneg.out hb)
            · exact h
          go_wp2_with fail
          go_ret2
          exact ⟨by rw [HR.out]; exact congrArg (fun x => Ending.returned (.tuple #[.int .i64 x, .bool true])) (by omega), HBF⟩
        · rw [if_neg h2] at hr
          have HR := hide hr
          clear hr
          go_wp2_with fail
          go_ret2
          exact ⟨by rw [HR.out]; rfl, HBF⟩
    · have hr : R = (0, false) := by
        cases hb : negB q
        · rw [HP.out hb, if_neg (by omega)]
        · rw [HN.out hb, if_neg (by omega)]
      have HR := hide hr
      rw [show uintOf u = (0, false) by unfold uintOf; rw [if_neg hu]]
      clear HP HN hr hu
      go_wp2_with fail
      go_ret2
      exact ⟨by rw [HR.out]; rfl, HBF⟩
  · have HR := hide (hfrac.out hden)
    obtain ⟨e1, e2⟩ := str_ne (hd2.out hden)
    clear hpos hneg hfrac hd1 hd2 hden
    generalize uintOf (nm q) = p at *
    obtain ⟨u, ok⟩ := p
    cases ok
    all_goals
      go_wp2_with fail
      go_ret2
      exact ⟨by rw [HR.out]; rfl, HBF⟩
end Go.Proofs.YthppojbabkljpaaGreatDoor.RtH
