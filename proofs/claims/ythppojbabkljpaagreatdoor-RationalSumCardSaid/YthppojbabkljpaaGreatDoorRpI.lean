/- The walks of the program's signOf, Sign, negate, Negate, Int64. -/
import Derived.Test.YthppojbabkljpaaGreatDoorRnY
import Derived.Test.YthppojbabkljpaaGreatDoorQtl
namespace Go.Proofs.YthppojbabkljpaaGreatDoor.RpI
open Go.RowKit RnA RnB RnS RnC RnK RnM RnL RnN RnD RnE RnQ RnR RnP RnW RnX RoA RoB RoC RoD RoE RoF RoG RoH RoI RoJ RoK RoL RoM RoN PnA PnB PnC PnD PnE PnF PnG PnH PnI PnJ PnK PnL RtA RtB RtC RpA RpB RpC RpD RpE RpF RpG RpH RnY
set_option maxHeartbeats 1000000 in
set_option maxRecDepth 100000 in
theorem signof_any (q : Rat) (w : World) :
    Calls Tryz.prog 98 #[.agg #[.bool (negB q), .string (bs (nm q)), .string (dstr q)]] w fun e w' => e = .returned (.int .i64 (sgnQ q)) ∧ Below w.heap.size w w' := by
  have hs := hide (sgnB_eq q)
  generalize sgnQ q = s at *
  generalize negB q = n at *
  generalize dstr q = D at *
  generalize bs (nm q) = t at *
  obtain ⟨V0, hV0, HX0, hc0, hl0⟩ := box_new w (.bool n) (.string t) (.string D)
  obtain ⟨c0, c1, c2, _⟩ := HX0.out
  by_cases h0 : 0 < t.size
  · obtain ⟨e1, e2⟩ := str_ne h0
    cases n
    · have hr : Hid (s = 1) := by show _ = _; rw [← hs.out]; unfold sgnB; rw [if_neg (by omega)]; rfl
      go_enter Tryz.func98, Tryz.ntmps98
      go_wp2_with fail
      go_ret
      exact ⟨by rw [hr.out]; rfl, hc0⟩
    · have hr : Hid (s = -1) := by show _ = _; rw [← hs.out]; unfold sgnB; rw [if_neg (by omega)]; rfl
      go_enter Tryz.func98, Tryz.ntmps98
      go_wp2_with fail
      go_ret
      exact ⟨by rw [hr.out]; rfl, hc0⟩
  · obtain ⟨e1, e2⟩ := str_em (s := t) (by omega)
    have hr : Hid (s = 0) := by show _ = _; rw [← hs.out]; unfold sgnB; rw [if_pos (by omega)]
    go_enter Tryz.func98, Tryz.ntmps98
    go_wp2_with fail
    go_ret
    exact ⟨by rw [hr.out]; rfl, hc0⟩
set_option maxHeartbeats 1000000 in
set_option maxRecDepth 100000 in
theorem sign_any (n : Bool) (a d : ByteArray) (w : World) (ha : a.size ≤ 100000) (hd : d.size ≤ 100000) :
    Calls Tryz.prog 48 #[.agg #[.bool n, .string a, .string d]] w fun e w' => e = .returned (.int .i64 (sgnQ (fixQ n a.data.toList d.data.toList))) ∧ Below w.heap.size w w' := by
  have HC := Lib.hid (fun w => clean_any n a d w ha hd)
  generalize fixQ n a.data.toList d.data.toList = q at *
  rw [enc_open] at HC
  have HS := Lib.hid (fun w => signof_any q w)
  obtain ⟨V0, hV0, HX0, hc0, hl0⟩ := box_new w (.bool n) (.string a) (.string d)
  obtain ⟨c0, c1, c2, _⟩ := HX0.out
  go_enter Tryz.func48, Tryz.ntmps48
  go_wp2_with fail
  refine (HC.out _).mono ?_
  rintro e w1 ⟨rfl, hb1⟩
  have HB1 := hc0.trans (hb1.mono hc0.size)
  go_wp2_with fail
  refine (HS.out _).mono ?_
  rintro e w2 ⟨rfl, hb2⟩
  go_wp2_with fail
  go_ret
  exact ⟨rfl, HB1.trans (hb2.mono HB1.size)⟩
theorem enc_neg (q : Rat) : enc (-q) = .agg #[.bool (!negB q && decide (nm q ≠ 0)), .string (bs (nm q)), .string (dstr q)] := by
  rw [enc_open, negB_neg, nm_neg_eq, dstr_neg]
theorem _root_.Go.Proofs.YthppojbabkljpaaGreatDoor.RtA.Bx.put0 {w : World} {k : Nat} {x y z : Value} (h : Bx w k x y z) (x' : Value) : Bx (w.setCell ⟨k, 0, none⟩ x') k x' y z := by
  obtain ⟨e0, e1, e2, e3, e4, e5⟩ := h
  refine ⟨?_, ?_, ?_, fr_set e3, fr_set e4, fr_set e5⟩
  · exact World.cell?_setCell_same _ _ _ e0
  · rw [World.cell?_setCell_other _ _ _ _ (by intro e; injection e with e1 e2; omega)]; assumption
  · rw [World.cell?_setCell_other _ _ _ _ (by intro e; injection e with e1 e2; omega)]; assumption
set_option maxHeartbeats 1000000 in
set_option maxRecDepth 100000 in
theorem negate_any (q : Rat) (w : World) :
    Calls Tryz.prog 93 #[.agg #[.bool (negB q), .string (bs (nm q)), .string (dstr q)]] w (RPost (-q) w) := by
  unfold RPost
  have hr := hide (enc_neg q)
  have h0 : Hid (nm q ≠ 0 → 0 < (bs (nm q)).size) := fun h => bytes_ne_nil h
  have h1 : Hid (nm q = 0 → bs (nm q) = ⟨#[]⟩) := fun h => by rw [h, bs0]
  generalize enc (-q) = E at *
  generalize dstr q = D at *
  by_cases hz : nm q = 0
  · have hr2 := hr.out
    rw [h1.out hz, decide_eq_false (by omega), Bool.and_false] at hr2
    have HR := hide hr2
    rw [h1.out hz]
    generalize negB q = n at *
    clear hr2 hr h0 h1 hz
    obtain ⟨W0, W1, hW, hW1, hW0, HX1, HY1, HB1, hsz⟩ := start2 w (.bool n) (.string ⟨#[]⟩) (.string D)
    obtain ⟨V, hV⟩ : ∃ V, W1.setCell ⟨w.heap.size, 0, none⟩ (.bool false) = V := ⟨_, rfl⟩
    have HX2 : Hid (Bx V w.heap.size (.bool false) (.string ⟨#[]⟩) (.string D)) := by rw [← hV]; exact HX1.out.put0 _
    have HY2 : Hid (Bx V (w.heap.size + 1) (.bool false) (.string ⟨#[]⟩) (.string ⟨#[]⟩)) := by rw [← hV]; exact HY1.out.other (by omega) 0 _
    have HB2 : Hid (Below w.heap.size w V) := by rw [← hV]; exact HB1.out.setCell (by show w.heap.size ≤ w.heap.size; omega) _
    obtain ⟨c0, c1, c2, f0, f1, f2⟩ := HX1.out
    obtain ⟨d0, d1, d2, g0, g1, g2⟩ := HX2.out
    obtain ⟨p0, p1, p2, q0, q1, q2⟩ := HY2.out
    cases n
    all_goals
      go_enter Tryz.func93, Tryz.ntmps93
      go_wp2_with fail
      refine bodyPost_ret (results_rat rfl _ rfl (HY2.out.set3 _ _ _)) rfl ?_
      exact ⟨by rw [HR.out], below_set3 HB2.out (by omega) _ _ _⟩
  · have hr2 := hr.out
    rw [decide_eq_true hz, Bool.and_true] at hr2
    have HR := hide hr2
    obtain ⟨e1, e2⟩ := str_ne (h0.out hz)
    generalize negB q = n at *
    generalize bs (nm q) = t at *
    clear hr2 hr h0 h1 hz
    obtain ⟨W0, W1, hW, hW1, hW0, HX1, HY1, HB1, hsz⟩ := start2 w (.bool n) (.string t) (.string D)
    obtain ⟨V, hV⟩ : ∃ V, W1.setCell ⟨w.heap.size, 0, none⟩ (.bool !n) = V := ⟨_, rfl⟩
    have HX2 : Hid (Bx V w.heap.size (.bool !n) (.string t) (.string D)) := by rw [← hV]; exact HX1.out.put0 _
    have HY2 : Hid (Bx V (w.heap.size + 1) (.bool false) (.string ⟨#[]⟩) (.string ⟨#[]⟩)) := by rw [← hV]; exact HY1.out.other (by omega) 0 _
    have HB2 : Hid (Below w.heap.size w V) := by rw [← hV]; exact HB1.out.setCell (by show w.heap.size ≤ w.heap.size; omega) _
    obtain ⟨c0, c1, c2, f0, f1, f2⟩ := HX1.out
    cases n
    all_goals
      simp only [Bool.not_true, Bool.not_false] at hV HX2 HR
      obtain ⟨d0, d1, d2, g0, g1, g2⟩ := HX2.out
      obtain ⟨p0, p1, p2, q0, q1, q2⟩ := HY2.out
      go_enter Tryz.func93, Tryz.ntmps93
      go_wp2_with fail
      refine bodyPost_ret (results_rat rfl _ rfl (HY2.out.set3 _ _ _)) rfl ?_
      exact ⟨by rw [HR.out], below_set3 HB2.out (by omega) _ _ _⟩
set_option maxHeartbeats 1000000 in
set_option maxRecDepth 100000 in
theorem neg_any (n : Bool) (a d : ByteArray) (w : World) (ha : a.size ≤ 100000) (hd : d.size ≤ 100000) :
    Calls Tryz.prog 37 #[.agg #[.bool n, .string a, .string d]] w (RPost (-fixQ n a.data.toList d.data.toList) w) := by
  have HC := Lib.hid (fun w => clean_any n a d w ha hd)
  generalize fixQ n a.data.toList d.data.toList = q at *
  rw [enc_open] at HC
  have HS := Lib.hid (fun w => negate_any q w)
  unfold RPost at HS ⊢
  rw [enc_open] at HS ⊢
  generalize -q = p at *
  obtain ⟨W0, W1, hW, hW1, hW0, HX1, HY1, HB1, hsz⟩ := start2 w (.bool n) (.string a) (.string d)
  obtain ⟨c0, c1, c2, _⟩ := HX1.out
  go_enter Tryz.func37, Tryz.ntmps37
  go_wp2_with fail
  refine (HC.out _).mono ?_
  rintro e w1 ⟨rfl, hb1⟩
  have HY2 := hide (HY1.out.keep hb1 (by omega))
  have HB2 := hide (HB1.out.trans (hb1.mono (by omega)))
  have hs1 := hb1.size
  clear hb1
  go_wp2_with fail
  refine (HS.out _).mono ?_
  rintro e w2 ⟨rfl, hb2⟩
  have HY3 := hide (HY2.out.keep hb2 (by omega))
  have HB3 := hide (HB2.out.trans (hb2.mono (by omega)))
  obtain ⟨p0, p1, p2, q0, q1, q2⟩ := HY3.out
  go_wp2_with fail
  refine bodyPost_ret (results_rat rfl _ rfl (HY3.out.set3 _ _ _)) rfl ?_
  exact ⟨rfl, below_set3 HB3.out (by omega) _ _ _⟩
end Go.Proofs.YthppojbabkljpaaGreatDoor.RpI
