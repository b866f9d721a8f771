/- The walk of the reference's Floor. -/
import Derived.Test.YthppojbabkljpaaGreatDoorRtJ
namespace Go.Proofs.YthppojbabkljpaaGreatDoor.RtK
open Go.RowKit RnA RnB RnS RnC RnK RnM RnL RnN RnD RnE RnQ RnR RnG RnP RnW RnX RoA RoB RoC RoD RoE RoF RoG RoH RoI RoJ RoK RoL RoM RoN PnA PnB PnC PnD PnE PnF PnG PnH PnI PnJ PnK PnL RtA RtB RtC RtE RtG RtH RtI RtJ RpA RpB RpC RpD RpE RpF RpG RpH RnY RpI RpJ RpK RpL
/-- a row of one limb of the walk's own -/
theorem one_row (w : World) (x T : Nat) (h0 : x ≠ 0) (h : x < 4294967296) : NAt (w.alloc (.cells #[.int .u32 (x : Int)] T)) (some ⟨w.heap.size, 0, none⟩) 1 x := by
  refine ⟨?_, by rw [limbs_one h0 h]; exact Nat.le_refl _, by decide⟩
  rw [limbs_one h0 h]
  refine ⟨fun y hy => by simp at hy; omega, by show 1 ≤ maxLen; decide, fun _ => ⟨w.heap.size, 0, rfl, by simp, fun k y hk => ?_⟩⟩
  match k, hk with
  | 0, hk =>
    simp at hk
    subst hk
    simp [go_sem]
  | k + 1, hk => simp at hk
theorem len_one : (limbs 1).length = 1 := by rw [limbs_one (by decide) (by decide)]; rfl
theorem len_ten : (limbs 10).length = 1 := by rw [limbs_one (by decide) (by decide)]; rfl
theorem new_one (w : World) : ∃ V, w.alloc (.cells #[.int .u32 1] 52) = V ∧ Hid (NAt V (some ⟨w.heap.size, 0, none⟩) 1 1) ∧ Below w.heap.size w V :=
  ⟨_, rfl, one_row w 1 _ (by decide) (by decide), (Below.refl _ _).alloc (Nat.le_refl _) _⟩
theorem new_ten (w : World) : ∃ V, w.alloc (.cells #[.int .u32 10] 52) = V ∧ Hid (NAt V (some ⟨w.heap.size, 0, none⟩) 1 10) ∧ Below w.heap.size w V :=
  ⟨_, rfl, one_row w 10 _ (by decide) (by decide), (Below.refl _ _).alloc (Nat.le_refl _) _⟩
theorem rdivq {x y : Nat} {A B : Option Addr} {c c' : Nat} {w : World} (ha : NAt w A c x) (hb : NAt w B c' y) (hx : sz x ≤ 100000) (hy : y ≠ 0) :
    Calls Tryz.prog 80 #[.slice A (limbs x).length c, .slice B (limbs y).length c'] w (QPost (x / y) (x % y) w) := rdivide_any x y _ _ A B c c' w ha.1 hb.1 rfl rfl ha.2.1 ha.2.2 hx hy
theorem QPost.out {q r : Nat} {w : World} {e : Ending} {w' : World} (h : QPost q r w e w') : ∃ A c A' c', e = .returned (.tuple #[.slice A (limbs q).length c, .slice A' (limbs r).length c']) ∧ Hid (NAt w' A c q) ∧ (limbs q).length ≤ 9223372036854775807 ∧ (limbs r).length ≤ 9223372036854775807 ∧ Below w.heap.size w w' := by
  obtain ⟨A, c, A', c', h1, h2, h3, h4, h5, h6, h7, h8⟩ := h
  exact ⟨A, c, A', c', h1, ⟨h6, h2, h3⟩, h6.len, h7.len, h8⟩
theorem mod_ne {q : Rat} (h : q.den ≠ 1) : nm q % q.den ≠ 0 := by
  intro h0
  have hr : (nm q).gcd q.den = 1 := q.reduced
  have hd := Nat.dvd_of_mod_eq_zero h0
  rw [Nat.gcd_eq_right hd] at hr
  exact h hr
theorem floor_one {q : Rat} (h : q.den = 1) : mk (negB q) (floorN q) 1 = q := by
  unfold floorN
  rw [h, Nat.div_one, Nat.mod_one, if_neg (by simp), Nat.add_zero]
  have := mk_nm q
  rwa [h] at this
theorem floor_neg {q : Rat} (h : q.den ≠ 1) (hn : negB q = true) : floorN q = nm q / q.den + 1 := by
  unfold floorN
  rw [if_pos ⟨hn, mod_ne h⟩]
theorem floor_pos {q : Rat} (hn : negB q = false) : floorN q = nm q / q.den := by
  unfold floorN
  rw [if_neg (by rw [hn]; simp), Nat.add_zero]
set_option maxHeartbeats 4000000 in
set_option maxRecDepth 100000 in
theorem rfloor_any (n : Bool) (a d : ByteArray) (w : World) (ha : a.size ≤ 40000) (hd : d.size ≤ 40000) :
    Calls Tryz.prog 56 #[.agg #[.bool n, .string a, .string d]] w (RPost (mk (negB (fixQ n a.data.toList d.data.toList)) (floorN (fixQ n a.data.toList d.data.toList)) 1) w) := by
  have HF := Lib.hid (fun w => rfix_any n a d w (by omega) (by omega))
  have hlq := lt_raw (n := n) (k := 40001) (a := a) (d := d) (by omega) (by omega) (by omega)
  generalize fixQ n a.data.toList d.data.toList = q at *
  rw [enc_open] at HF
  have s1 := hlq.num
  have s2 := hlq.dstr
  have z1 : sz (nm q) ≤ 40000 := sz_bs (by omega)
  have z2 : sz (nm q / q.den) ≤ 40000 := Nat.le_trans (sz_div _ _) z1
  have z3 : sz (nm q / q.den + 1) ≤ 40001 := sz_add1 z2 (Nat.le_trans (sz_small (by decide)) (by decide))
  have HL := Lib.hid (fun w => rlimbsq (nm q) w (by omega))
  have HD := Lib.hid (fun w => rden_any q w (by omega))
  have hdn := hide q.den_nz
  unfold RPost
  rw [enc_open]
  generalize hr : mk (negB q) (floorN q) 1 = r
  have HRR := hide hr
  clear hr
  obtain ⟨W0, W1, hW, hW1, hW0, HX1, HY1, HB1, hsz⟩ := start2 w (.bool n) (.string a) (.string d)
  obtain ⟨a0, a1, a2, _⟩ := HX1.out
  go_enter Tryz.func56, Tryz.ntmps56
  go_wp2_with fail
  refine (HF.out _).mono ?_
  rintro e w2 ⟨rfl, hb2⟩
  have HX2 := hide (HX1.out.keep hb2 HX1.out.lt)
  have HY2 := hide (HY1.out.keep hb2 HY1.out.lt)
  have HB2 := hide (HB1.out.trans (hb2.mono HB1.out.size))
  clear hb2 a0 a1 a2 hW hW1 HX1 HY1 HB1 HF
  have HX3 := hide (HX2.out.set3 (.bool (negB q)) (.string (bs (nm q))) (.string (dstr q)))
  have HY3 := hide (HY2.out.other3 (j := w.heap.size) (by omega) (.bool (negB q)) (.string (bs (nm q))) (.string (dstr q)))
  have HB3 := hide (below_set3 HB2.out (Nat.le_refl _) (.bool (negB q)) (.string (bs (nm q))) (.string (dstr q)))
  obtain ⟨a0, a1, a2, f0, f1, f2⟩ := HX2.out
  obtain ⟨V, hV⟩ : ∃ V, (((w2.setCell ⟨w.heap.size, 0, none⟩ (.bool (negB q))).setCell ⟨w.heap.size, 1, none⟩ (.string (bs (nm q)))).setCell ⟨w.heap.size, 2, none⟩ (.string (dstr q))) = V := ⟨_, rfl⟩
  rw [hV] at HX3 HY3 HB3
  obtain ⟨c0, c1, c2, _⟩ := HX3.out
  by_cases h1 : q.den = 1
  · obtain rfl : r = q := by rw [← HRR.out]; exact floor_one h1
    have hds := dstr_one h1
    have HDS := hide hds
    rw [hds] at c2 hV HX3 ⊢
    obtain ⟨p0, p1, p2, q0, q1, q2⟩ := HY3.out
    clear h1 hds HL HD hdn HRR s2
    go_wp2_with fail
    refine bodyPost_ret (results_rat rfl _ rfl (HY3.out.set3 _ _ _)) rfl ?_
    exact ⟨by rw [HDS.out], below_set3 HB3.out (by omega) _ _ _⟩
  · have hds : 0 < (dstr q).size := by rw [dstr_big h1]; exact bytes_ne_nil q.den_nz
    have hfn : Hid (negB q = true → floorN q = nm q / q.den + 1) := floor_neg h1
    have hfp : Hid (negB q = false → floorN q = nm q / q.den) := floor_pos
    obtain ⟨e1, e2⟩ := str_ne hds
    have HV := hide hV
    clear h1 hds hV
    go_wp2_with fail
    rw [HV.out]
    clear a0 a1 a2 f0 f1 f2 c0 c1 c2 HX2 HY2 HB2 HV
    obtain ⟨k0, k1, k2⟩ := HX3.out.kin
    have hb3 := draw_below V
    refine Qmx.wp_region (C := Beh V) 10 (by kernel_rfl) (by kernel_rfl) (by kernel_rfl) ?_
    generalize { V with drawn := V.drawn + 1 } = w3 at *
    simp only [List.take_succ_cons, List.take_zero, List.drop_succ_cons, List.drop_zero]
    refine Qmx.quiet_n 2 (beh hb3) (by kernel_rfl) ?_
    simp only [List.take_succ_cons, List.take_zero, List.drop_succ_cons, List.drop_zero]
    repeat (go_big_quiet_step (fail))
    refine wpQuiet_nil ?_
    refine Qmx.by_call (by kernel_rfl) (beh hb3) ?_
    go_wp2_with fail
    refine (HL.out _).mono ?_
    rintro e w4 hp
    obtain ⟨A4, c4, rfl, HN4, hl4, hb4⟩ := LPost.out hp
    have hB4 := hb3.trans (hb4.mono hb3.size)
    clear hp hb4
    go_wp2_with fail
    refine ⟨rfl, ?_⟩
    refine Qmx.quiet_n 1 (beh hB4) (by kernel_rfl) ?_
    simp only [List.take_succ_cons, List.take_zero, List.drop_succ_cons, List.drop_zero]
    repeat (go_big_quiet_step (fail))
    refine wpQuiet_nil ?_
    refine Qmx.by_call (by kernel_rfl) (beh hB4) ?_
    go_wp2_with fail
    refine (HD.out _).mono ?_
    rintro e w5 hp
    obtain ⟨A5, c5, rfl, HN5, hl5, hb5⟩ := LPost.out hp
    replace HN4 := hide (HN4.out.next hb5)
    have hB5 := hB4.trans (hb5.mono hB4.size)
    clear hp hb5
    go_wp2_with fail
    refine ⟨rfl, ?_⟩
    refine Qmx.by_call (by kernel_rfl) (beh hB5) ?_
    go_wp2_with fail
    refine (rdivq HN4.out HN5.out (by omega) hdn.out).mono ?_
    rintro e w6 hp
    obtain ⟨A6, c6, A7, c7, rfl, HN6, hl6, hl7, hb6⟩ := QPost.out hp
    have hB6 := hB5.trans (hb6.mono hB5.size)
    clear hp hb6
    go_wp2_with fail
    refine ⟨rfl, ?_⟩
    refine Qmx.quiet_n 4 (beh hB6) (by kernel_rfl) ?_
    simp only [List.take_succ_cons, List.take_zero, List.drop_succ_cons, List.drop_zero]
    repeat (go_big_quiet_step (fail))
    refine wpQuiet_nil ?_
    refine Qmx.by_end (beh hB6) ?_
    have HX6 := hide (HX3.out.keep hB6 HX3.out.lt)
    have HY6 := hide (HY3.out.keep hB6 HY3.out.lt)
    have HB7 := hide (HB3.out.trans (hB6.mono HB3.out.size))
    clear k0 k1 k2 hB4 hB5 hB6 hb3 HN4 HN5 HL HD HX3 HY3 HB3
    obtain ⟨a0, a1, a2, _⟩ := HX6.out
    cases hn : negB q
    · rw [hn] at a0 HX6
      have hval : Hid (mk false (nm q / q.den) 1 = r) := by show _ = _; rw [← HRR.out, hfp.out hn, hn]
      obtain ⟨V8, hV8, HO8, hb8⟩ := new_one w6
      have HN8 := hide (HN6.out.next hb8)
      have HR := rredq hval.out HN8.out HO8.out (by omega) (Nat.le_trans (sz_small (by decide)) (by decide)) (by decide)
      rw [len_one] at HR
      have HRD := hide HR
      have HX8 := hide (HX6.out.keep hb8 HX6.out.lt)
      have HY8 := hide (HY6.out.keep hb8 HY6.out.lt)
      have HB8 := hide (HB7.out.trans (hb8.mono HB7.out.size))
      clear HR hb8 hval hfp hfn
      go_wp2_with fail
      refine HRD.out.mono ?_
      rintro e w9 ⟨rfl, hb9⟩
      have HY9 := hide (HY8.out.keep hb9 HY8.out.lt)
      have HB9 := hide (HB8.out.trans (hb9.mono HB8.out.size))
      obtain ⟨p0, p1, p2, q0, q1, q2⟩ := HY9.out
      go_wp2_with fail
      refine bodyPost_ret (results_rat rfl _ rfl (HY9.out.set3 _ _ _)) rfl ?_
      exact ⟨rfl, below_set3 HB9.out (by omega) _ _ _⟩
    · rw [hn] at a0 HX6
      have hval : Hid (mk true (nm q / q.den + 1) 1 = r) := by show _ = _; rw [← HRR.out, hfn.out hn, hn]
      obtain ⟨V8, hV8, HO8, hb8⟩ := new_one w6
      have HN8 := hide (HN6.out.next hb8)
      have HP := rplusq HN8.out HO8.out (by omega) (Nat.le_trans (sz_small (by decide)) (by decide))
      rw [len_one] at HP
      have HPL := hide HP
      have HX8 := hide (HX6.out.keep hb8 HX6.out.lt)
      have HY8 := hide (HY6.out.keep hb8 HY6.out.lt)
      have HB8 := hide (HB7.out.trans (hb8.mono HB7.out.size))
      clear HP hb8 hfp hfn
      go_wp2_with fail
      refine HPL.out.mono ?_
      rintro e w9 hp
      obtain ⟨A9, c9, rfl, HN9, hl9, hb9⟩ := LPost.out hp
      have HX9 := hide (HX8.out.keep hb9 HX8.out.lt)
      have HY9 := hide (HY8.out.keep hb9 HY8.out.lt)
      have HB9 := hide (HB8.out.trans (hb9.mono HB8.out.size))
      obtain ⟨V10, hV10, HO10, hb10⟩ := new_one w9
      have HN10 := hide (HN9.out.next hb10)
      have HR := rredq hval.out HN10.out HO10.out (by omega) (Nat.le_trans (sz_small (by decide)) (by decide)) (by decide)
      rw [len_one] at HR
      have HRD := hide HR
      have HY10 := hide (HY9.out.keep hb10 HY9.out.lt)
      have HB10 := hide (HB9.out.trans (hb10.mono HB9.out.size))
      clear HR hb9 hb10 hp hval a0 a1 a2
      obtain ⟨a0, a1, a2, _⟩ := HX9.out
      go_wp2_with fail
      refine HRD.out.mono ?_
      rintro e w11 ⟨rfl, hb11⟩
      have HY11 := hide (HY10.out.keep hb11 HY10.out.lt)
      have HB11 := hide (HB10.out.trans (hb11.mono HB10.out.size))
      obtain ⟨p0, p1, p2, q0, q1, q2⟩ := HY11.out
      go_wp2_with fail
      refine bodyPost_ret (results_rat rfl _ rfl (HY11.out.set3 _ _ _)) rfl ?_
      exact ⟨rfl, below_set3 HB11.out (by omega) _ _ _⟩
end Go.Proofs.YthppojbabkljpaaGreatDoor.RtK
