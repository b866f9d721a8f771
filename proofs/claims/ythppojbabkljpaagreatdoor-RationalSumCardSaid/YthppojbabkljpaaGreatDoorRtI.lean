/- The walk of the reference's Plus. -/
import Derived.Test.YthppojbabkljpaaGreatDoorRtH
namespace Go.Proofs.YthppojbabkljpaaGreatDoor.RtI
open Go.RowKit RnA RnB RnS RnC RnK RnM RnL RnN RnD RnE RnQ RnR RnG RnP RnW RnX RoA RoB RoC RoD RoE RoF RoG RoH RoI RoJ RoK RoL RoM RoN PnA PnB PnC PnD PnE PnF PnG PnH PnI PnJ PnK PnL RtA RtB RtC RtE RtG RtH RpA RpB RpC RpD RpE RpF RpG RpH RnY RpI RpJ RpK RpL
theorem rplusq {x y : Nat} {A B : Option Addr} {c c' : Nat} {w : World} (ha : NAt w A c x) (hb : NAt w B c' y) (hx : sz x ≤ 100000) (hy : sz y ≤ 100000) :
    Calls Tryz.prog 103 #[.slice A (limbs x).length c, .slice B (limbs y).length c'] w (LPost (limbs (x + y)) w) := rplus_any x y A B c c' w ha.1 hb.1 hx hy
theorem rminusq {x y : Nat} {A B : Option Addr} {c c' : Nat} {w : World} (ha : NAt w A c x) (hb : NAt w B c' y) (hx : sz x ≤ 100000) (hyx : y ≤ x) :
    Calls Tryz.prog 131 #[.slice A (limbs x).length c, .slice B (limbs y).length c'] w (LPost (limbs (x - y)) w) := rminus_any x y A B c c' w ha.1 hb.1 (by omega) hyx
theorem rorderq {x y : Nat} {A B : Option Addr} {c c' : Nat} {w : World} (ha : NAt w A c x) (hb : NAt w B c' y) :
    Calls Tryz.prog 127 #[.slice A (limbs x).length c, .slice B (limbs y).length c'] w fun e w' => e = .returned (.int .i64 (cmpN x y)) ∧ Below w.heap.size w w' := rorder_any x y A B c c' w ha.1 hb.1
theorem over_same {a b : Rat} (h : negB a = negB b) : mk (negB a) (nm a * b.den + nm b * a.den) (a.den * b.den) = a + b := by
  rw [← mk_add_eq _ _ _ _ (Nat.mul_ne_zero a.den_nz b.den_nz), (over_prod a b).1, h, (over_prod a b).2]
theorem over_ge {a b : Rat} (h : negB a ≠ negB b) (hle : nm b * a.den ≤ nm a * b.den) : mk (negB a) (nm a * b.den - nm b * a.den) (a.den * b.den) = a + b := by
  rw [← mk_add_ge h _ _ _ (Nat.mul_ne_zero a.den_nz b.den_nz) hle, (over_prod a b).1, (over_prod a b).2]
theorem over_lt {a b : Rat} (h : negB a ≠ negB b) (hlt : nm a * b.den < nm b * a.den) : mk (negB b) (nm b * a.den - nm a * b.den) (a.den * b.den) = a + b := by
  rw [← mk_add_lt h _ _ _ (Nat.mul_ne_zero a.den_nz b.den_nz) hlt, (over_prod a b).1, (over_prod a b).2]
theorem sz_sub {x y k : Nat} (h : sz x ≤ k) : sz (x - y) ≤ k := sz_le (Nat.lt_of_le_of_lt (Nat.sub_le x y) (Nat.lt_of_lt_of_le (sz_lt x) (Nat.pow_le_pow_right (by omega) h)))
theorem sz_add1 {x y k : Nat} (h1 : sz x ≤ k) (h2 : sz y ≤ k) : sz (x + y) ≤ k + 1 := by
  have e1 := Nat.lt_of_lt_of_le (sz_lt x) (Nat.pow_le_pow_right (n := 4294967296) (by omega) h1)
  have e2 := Nat.lt_of_lt_of_le (sz_lt y) (Nat.pow_le_pow_right (n := 4294967296) (by omega) h2)
  refine sz_le ?_
  rw [Nat.pow_succ]
  omega
set_option maxHeartbeats 8000000 in
set_option maxRecDepth 100000 in
theorem rplus_q (a b : Rat) (w : World) (k : Nat) (ha : Lt a k) (hb : Lt b k) (hk : k ≤ 40000) :
    Calls Tryz.prog 92 #[.agg #[.bool (negB a), .string (bs (nm a)), .string (dstr a)], .agg #[.bool (negB b), .string (bs (nm b)), .string (dstr b)]] w (RPost (a + b) w) := by
  have s1 := ha.num
  have s2 := ha.dstr
  have s3 := hb.num
  have s4 := hb.dstr
  have z1 : sz (nm a) ≤ 40000 := sz_bs (by omega)
  have z2 : sz (nm b) ≤ 40000 := sz_bs (by omega)
  have z3 : sz a.den ≤ 40000 := sz_bs (by have := ha.den; omega)
  have z4 : sz b.den ≤ 40000 := sz_bs (by have := hb.den; omega)
  have z5 : sz (nm a * b.den) ≤ 80000 := Nat.le_trans (sz_mul _ _) (by omega)
  have z6 : sz (nm b * a.den) ≤ 80000 := Nat.le_trans (sz_mul _ _) (by omega)
  have z7 : sz (a.den * b.den) ≤ 80000 := Nat.le_trans (sz_mul _ _) (by omega)
  have z8 := sz_add1 z5 z6
  have z9 : sz (nm a * b.den - nm b * a.den) ≤ 80000 := sz_sub z5
  have z10 : sz (nm b * a.den - nm a * b.den) ≤ 80000 := sz_sub z6
  have hnz : Hid (a.den * b.den ≠ 0) := Nat.mul_ne_zero a.den_nz b.den_nz
  have HL := Lib.hid (fun x w h => rlimbsq x w h)
  have HD1 := Lib.hid (fun w => rden_any a w (by omega))
  have HD2 := Lib.hid (fun w => rden_any b w (by omega))
  have hsame : Hid (negB a = negB b → mk (negB a) (nm a * b.den + nm b * a.den) (a.den * b.den) = a + b) := over_same
  have hge : Hid (negB a ≠ negB b → nm b * a.den ≤ nm a * b.den → mk (negB a) (nm a * b.den - nm b * a.den) (a.den * b.den) = a + b) := over_ge
  have hlt : Hid (negB a ≠ negB b → nm a * b.den < nm b * a.den → mk (negB b) (nm b * a.den - nm a * b.den) (a.den * b.den) = a + b) := over_lt
  unfold RPost
  obtain ⟨W0, W1, W2, hW0, hW1, hW2, hs0, hs1, HA, HB, HR, HC, hsz⟩ := start3 w (.bool (negB a)) (.string (bs (nm a))) (.string (dstr a)) (.bool (negB b)) (.string (bs (nm b))) (.string (dstr b))
  obtain ⟨a0, a1, a2, _⟩ := HA.out
  obtain ⟨b0, b1, b2, _⟩ := HB.out
  by_cases h0 : nm a = 0
  · have hz : Hid (enc (a + b) = enc b) := by
      show _ = _
      rw [nm_zero.1 h0, Rat.zero_add]
    rw [enc_open b] at hz
    generalize enc (a + b) = E at *
    have h1 : (bs (nm a)).size = 0 := by rw [h0, bs0]; rfl
    clear h0 HL HD1 HD2 z1 z2 z3 z4 z5 z6 z7 z8 z9 z10 hsame hge hlt
    generalize bs (nm a) = ta at *
    generalize bs (nm b) = tb at *
    obtain ⟨d0, d1, d2, g0, g1, g2⟩ := HR.out
    obtain ⟨e1, e2⟩ := str_em h1
    go_enter Tryz.func92, Tryz.ntmps92
    go_wp2_with fail
    refine bodyPost_ret (results_rat rfl _ rfl (HR.out.set3 _ _ _)) rfl ?_
    exact ⟨by rw [hz.out], below_set3 HC.out (by omega) _ _ _⟩
  by_cases h00 : nm b = 0
  · have hz : Hid (enc (a + b) = enc a) := by
      show _ = _
      rw [nm_zero.1 h00, Rat.add_zero]
    rw [enc_open a] at hz
    generalize enc (a + b) = E at *
    have h1 := bytes_ne_nil h0
    have h2 : (bs (nm b)).size = 0 := by rw [h00, bs0]; rfl
    clear h0 h00 HL HD1 HD2 z1 z2 z3 z4 z5 z6 z7 z8 z9 z10 hsame hge hlt
    generalize bs (nm a) = ta at *
    generalize bs (nm b) = tb at *
    obtain ⟨d0, d1, d2, g0, g1, g2⟩ := HR.out
    obtain ⟨e1, e2⟩ := str_ne h1
    obtain ⟨e3, e4⟩ := str_em h2
    go_enter Tryz.func92, Tryz.ntmps92
    go_wp2_with fail
    refine bodyPost_ret (results_rat rfl _ rfl (HR.out.set3 _ _ _)) rfl ?_
    exact ⟨by rw [hz.out], below_set3 HC.out (by omega) _ _ _⟩
  · obtain ⟨e1, e2⟩ := str_ne (bytes_ne_nil h0)
    obtain ⟨e3, e4⟩ := str_ne (bytes_ne_nil h00)
    clear h0 h00
    rw [enc_open]
    generalize a + b = r at *
    go_enter Tryz.func92, Tryz.ntmps92
    go_wp2_with fail
    clear hW0 hW1 hW2
    refine (HD1.out _).mono ?_
    rintro e w3 hp
    obtain ⟨A4, c4, rfl, HN4, hl4, hb3⟩ := LPost.out hp
    clear hp
    replace HA := hide (HA.out.keep hb3 HA.out.lt)
    replace HB := hide (HB.out.keep hb3 HB.out.lt)
    replace HR := hide (HR.out.keep hb3 HR.out.lt)
    replace HC := hide (HC.out.trans (hb3.mono HC.out.size))
    clear hb3 a0 a1 a2 b0 b1 b2
    obtain ⟨a0, a1, a2, _⟩ := HA.out
    obtain ⟨b0, b1, b2, _⟩ := HB.out
    go_wp2_with fail
    refine (HD2.out _).mono ?_
    rintro e w4 hp
    obtain ⟨A5, c5, rfl, HN5, hl5, hb4⟩ := LPost.out hp
    clear hp
    replace HN4 := hide (HN4.out.next hb4)
    replace HA := hide (HA.out.keep hb4 HA.out.lt)
    replace HB := hide (HB.out.keep hb4 HB.out.lt)
    replace HR := hide (HR.out.keep hb4 HR.out.lt)
    replace HC := hide (HC.out.trans (hb4.mono HC.out.size))
    clear hb4 a0 a1 a2 b0 b1 b2
    obtain ⟨a0, a1, a2, _⟩ := HA.out
    obtain ⟨b0, b1, b2, _⟩ := HB.out
    go_wp2_with fail
    refine (HL.out _ _ (by omega)).mono ?_
    rintro e w5 hp
    obtain ⟨A6, c6, rfl, HN6, hl6, hb5⟩ := LPost.out hp
    clear hp
    replace HN4 := hide (HN4.out.next hb5)
    replace HN5 := hide (HN5.out.next hb5)
    replace HA := hide (HA.out.keep hb5 HA.out.lt)
    replace HB := hide (HB.out.keep hb5 HB.out.lt)
    replace HR := hide (HR.out.keep hb5 HR.out.lt)
    replace HC := hide (HC.out.trans (hb5.mono HC.out.size))
    clear hb5 a0 a1 a2 b0 b1 b2
    obtain ⟨a0, a1, a2, _⟩ := HA.out
    obtain ⟨b0, b1, b2, _⟩ := HB.out
    go_wp2_with fail
    refine (rtimesq HN6.out HN5.out (by omega) (by omega)).mono ?_
    rintro e w6 hp
    obtain ⟨A7, c7, rfl, HN7, hl7, hb6⟩ := LPost.out hp
    clear hp
    replace HN4 := hide (HN4.out.next hb6)
    replace HN5 := hide (HN5.out.next hb6)
    replace HA := hide (HA.out.keep hb6 HA.out.lt)
    replace HB := hide (HB.out.keep hb6 HB.out.lt)
    replace HR := hide (HR.out.keep hb6 HR.out.lt)
    replace HC := hide (HC.out.trans (hb6.mono HC.out.size))
    clear hb6 a0 a1 a2 b0 b1 b2
    obtain ⟨a0, a1, a2, _⟩ := HA.out
    obtain ⟨b0, b1, b2, _⟩ := HB.out
    go_wp2_with fail
    refine (HL.out _ _ (by omega)).mono ?_
    rintro e w7 hp
    obtain ⟨A8, c8, rfl, HN8, hl8, hb7⟩ := LPost.out hp
    clear hp
    replace HN4 := hide (HN4.out.next hb7)
    replace HN5 := hide (HN5.out.next hb7)
    replace HN7 := hide (HN7.out.next hb7)
    replace HA := hide (HA.out.keep hb7 HA.out.lt)
    replace HB := hide (HB.out.keep hb7 HB.out.lt)
    replace HR := hide (HR.out.keep hb7 HR.out.lt)
    replace HC := hide (HC.out.trans (hb7.mono HC.out.size))
    clear hb7 a0 a1 a2 b0 b1 b2
    obtain ⟨a0, a1, a2, _⟩ := HA.out
    obtain ⟨b0, b1, b2, _⟩ := HB.out
    go_wp2_with fail
    refine (rtimesq HN8.out HN4.out (by omega) (by omega)).mono ?_
    rintro e w8 hp
    obtain ⟨A9, c9, rfl, HN9, hl9, hb8⟩ := LPost.out hp
    clear hp
    replace HN4 := hide (HN4.out.next hb8)
    replace HN5 := hide (HN5.out.next hb8)
    replace HN7 := hide (HN7.out.next hb8)
    replace HA := hide (HA.out.keep hb8 HA.out.lt)
    replace HB := hide (HB.out.keep hb8 HB.out.lt)
    replace HR := hide (HR.out.keep hb8 HR.out.lt)
    replace HC := hide (HC.out.trans (hb8.mono HC.out.size))
    clear hb8 a0 a1 a2 b0 b1 b2
    obtain ⟨a0, a1, a2, _⟩ := HA.out
    obtain ⟨b0, b1, b2, _⟩ := HB.out
    go_wp2_with fail
    refine (rtimesq HN4.out HN5.out (by omega) (by omega)).mono ?_
    rintro e w9 hp
    obtain ⟨A10, c10, rfl, HN10, hl10, hb9⟩ := LPost.out hp
    clear hp
    replace HN7 := hide (HN7.out.next hb9)
    replace HN9 := hide (HN9.out.next hb9)
    replace HA := hide (HA.out.keep hb9 HA.out.lt)
    replace HB := hide (HB.out.keep hb9 HB.out.lt)
    replace HR := hide (HR.out.keep hb9 HR.out.lt)
    replace HC := hide (HC.out.trans (hb9.mono HC.out.size))
    clear hb9 a0 a1 a2 b0 b1 b2
    obtain ⟨a0, a1, a2, _⟩ := HA.out
    obtain ⟨b0, b1, b2, _⟩ := HB.out
    by_cases hs : negB a = negB b
    · have hbb : (negB a == negB b) = true := by simpa using hs
      have hval := hide (hsame.out hs)
      clear hs
      go_wp2_with fail
      obtain ⟨k0, k1, k2⟩ := HA.out.kin
      obtain ⟨l0, l1, l2⟩ := HB.out.kin
      have hbd := draw_below w9
      replace HN7 := hide (HN7.out.next hbd)
      replace HN9 := hide (HN9.out.next hbd)
      replace HN10 := hide (HN10.out.next hbd)
      refine Qmx.wp_region (C := Beh w9) 7 (by kernel_rfl) (by kernel_rfl) (by kernel_rfl) ?_
      generalize { w9 with drawn := World.drawn w9 + 1 } = w10 at *
      simp only [List.take_succ_cons, List.take_zero, List.drop_succ_cons, List.drop_zero]
      refine Qmx.quiet_n 4 (beh hbd) (by kernel_rfl) ?_
      simp only [List.take_succ_cons, List.take_zero, List.drop_succ_cons, List.drop_zero]
      repeat (go_big_quiet_step (fail))
      refine wpQuiet_nil ?_
      refine Qmx.by_call (by kernel_rfl) (beh hbd) ?_
      go_wp2_with fail
      refine (rplusq HN7.out HN9.out (by omega) (by omega)).mono ?_
      rintro e w11 hp
      obtain ⟨A11, c11, rfl, HN11, hl11, hb11⟩ := LPost.out hp
      clear hp
      replace HN10 := hide (HN10.out.next hb11)
      have hB11 := hbd.trans (hb11.mono hbd.size)
      clear hb11
      go_wp2_with fail
      refine ⟨rfl, ?_⟩
      refine Qmx.quiet_n 1 (beh hB11) (by kernel_rfl) ?_
      simp only [List.take_succ_cons, List.take_zero, List.drop_succ_cons, List.drop_zero]
      repeat (go_big_quiet_step (fail))
      refine wpQuiet_nil ?_
      refine Qmx.by_call (by kernel_rfl) (beh hB11) ?_
      go_wp2_with fail
      refine (rredq hval.out HN11.out HN10.out (by omega) (by omega) hnz.out).mono ?_
      rintro e w12 ⟨rfl, hb12⟩
      have hB12 := hB11.trans (hb12.mono hB11.size)
      go_wp2_with fail
      refine ⟨rfl, ?_⟩
      refine Qmx.by_end (beh hB12) ?_
      have HR5 := hide (HR.out.keep hB12 HR.out.lt)
      have HC5 := hide (HC.out.trans (hB12.mono HC.out.size))
      obtain ⟨d0, d1, d2, g0, g1, g2⟩ := HR5.out
      go_wp2_with fail
      refine bodyPost_ret (results_rat rfl _ rfl (HR5.out.set3 _ _ _)) rfl ?_
      exact ⟨rfl, below_set3 HC5.out (by omega) _ _ _⟩
    · have hbb : (negB a == negB b) = false := by simpa using hs
      by_cases hc : nm a * b.den < nm b * a.den
      · have hval := hide (hlt.out hs hc)
        have hcm := cmpN_lt hc
        clear hs
        go_wp2_with fail
        refine (rorderq HN7.out HN9.out).mono ?_
        rw [← hcm]
        rintro e w9o ⟨rfl, hbo⟩
        replace HN7 := hide (HN7.out.next hbo)
        replace HN9 := hide (HN9.out.next hbo)
        replace HN10 := hide (HN10.out.next hbo)
        replace HA := hide (HA.out.keep hbo HA.out.lt)
        replace HB := hide (HB.out.keep hbo HB.out.lt)
        replace HR := hide (HR.out.keep hbo HR.out.lt)
        replace HC := hide (HC.out.trans (hbo.mono HC.out.size))
        clear hbo hcm a0 a1 a2 b0 b1 b2
        go_wp2_with fail
        obtain ⟨k0, k1, k2⟩ := HA.out.kin
        obtain ⟨l0, l1, l2⟩ := HB.out.kin
        have hbd := draw_below w9o
        replace HN7 := hide (HN7.out.next hbd)
        replace HN9 := hide (HN9.out.next hbd)
        replace HN10 := hide (HN10.out.next hbd)
        refine Qmx.wp_region (C := Beh w9o) 7 (by kernel_rfl) (by kernel_rfl) (by kernel_rfl) ?_
        generalize { w9o with drawn := World.drawn w9o + 1 } = w10 at *
        simp only [List.take_succ_cons, List.take_zero, List.drop_succ_cons, List.drop_zero]
        refine Qmx.quiet_n 4 (beh hbd) (by kernel_rfl) ?_
        simp only [List.take_succ_cons, List.take_zero, List.drop_succ_cons, List.drop_zero]
        repeat (go_big_quiet_step (fail))
        refine wpQuiet_nil ?_
        refine Qmx.by_call (by kernel_rfl) (beh hbd) ?_
        go_wp2_with fail
        refine (rminusq HN9.out HN7.out (by omega) (by omega)).mono ?_
        rintro e w11 hp
        obtain ⟨A11, c11, rfl, HN11, hl11, hb11⟩ := LPost.out hp
        clear hp
        replace HN10 := hide (HN10.out.next hb11)
        have hB11 := hbd.trans (hb11.mono hbd.size)
        clear hb11
        go_wp2_with fail
        refine ⟨rfl, ?_⟩
        refine Qmx.quiet_n 1 (beh hB11) (by kernel_rfl) ?_
        simp only [List.take_succ_cons, List.take_zero, List.drop_succ_cons, List.drop_zero]
        repeat (go_big_quiet_step (fail))
        refine wpQuiet_nil ?_
        refine Qmx.by_call (by kernel_rfl) (beh hB11) ?_
        go_wp2_with fail
        refine (rredq hval.out HN11.out HN10.out (by omega) (by omega) hnz.out).mono ?_
        rintro e w12 ⟨rfl, hb12⟩
        have hB12 := hB11.trans (hb12.mono hB11.size)
        go_wp2_with fail
        refine ⟨rfl, ?_⟩
        refine Qmx.by_end (beh hB12) ?_
        have HR5 := hide (HR.out.keep hB12 HR.out.lt)
        have HC5 := hide (HC.out.trans (hB12.mono HC.out.size))
        obtain ⟨d0, d1, d2, g0, g1, g2⟩ := HR5.out
        go_wp2_with fail
        refine bodyPost_ret (results_rat rfl _ rfl (HR5.out.set3 _ _ _)) rfl ?_
        exact ⟨rfl, below_set3 HC5.out (by omega) _ _ _⟩
      · have hval := hide (hge.out hs (by omega))
        have hcm : 0 ≤ cmpN (nm a * b.den) (nm b * a.den) := by unfold cmpN; rw [if_neg hc]; split <;> omega
        clear hs
        go_wp2_with fail
        refine (rorderq HN7.out HN9.out).mono ?_
        generalize cmpN (nm a * b.den) (nm b * a.den) = cm at *
        rintro e w9o ⟨rfl, hbo⟩
        replace HN7 := hide (HN7.out.next hbo)
        replace HN9 := hide (HN9.out.next hbo)
        replace HN10 := hide (HN10.out.next hbo)
        replace HA := hide (HA.out.keep hbo HA.out.lt)
        replace HB := hide (HB.out.keep hbo HB.out.lt)
        replace HR := hide (HR.out.keep hbo HR.out.lt)
        replace HC := hide (HC.out.trans (hbo.mono HC.out.size))
        clear hbo a0 a1 a2 b0 b1 b2
        go_wp2_with fail
        obtain ⟨k0, k1, k2⟩ := HA.out.kin
        obtain ⟨l0, l1, l2⟩ := HB.out.kin
        have hbd := draw_below w9o
        replace HN7 := hide (HN7.out.next hbd)
        replace HN9 := hide (HN9.out.next hbd)
        replace HN10 := hide (HN10.out.next hbd)
        refine Qmx.wp_region (C := Beh w9o) 7 (by kernel_rfl) (by kernel_rfl) (by kernel_rfl) ?_
        generalize { w9o with drawn := World.drawn w9o + 1 } = w10 at *
        simp only [List.take_succ_cons, List.take_zero, List.drop_succ_cons, List.drop_zero]
        refine Qmx.quiet_n 4 (beh hbd) (by kernel_rfl) ?_
        simp only [List.take_succ_cons, List.take_zero, List.drop_succ_cons, List.drop_zero]
        repeat (go_big_quiet_step (fail))
        refine wpQuiet_nil ?_
        refine Qmx.by_call (by kernel_rfl) (beh hbd) ?_
        go_wp2_with fail
        refine (rminusq HN7.out HN9.out (by omega) (by omega)).mono ?_
        rintro e w11 hp
        obtain ⟨A11, c11, rfl, HN11, hl11, hb11⟩ := LPost.out hp
        clear hp
        replace HN10 := hide (HN10.out.next hb11)
        have hB11 := hbd.trans (hb11.mono hbd.size)
        clear hb11
        go_wp2_with fail
        refine ⟨rfl, ?_⟩
        refine Qmx.quiet_n 1 (beh hB11) (by kernel_rfl) ?_
        simp only [List.take_succ_cons, List.take_zero, List.drop_succ_cons, List.drop_zero]
        repeat (go_big_quiet_step (fail))
        refine wpQuiet_nil ?_
        refine Qmx.by_call (by kernel_rfl) (beh hB11) ?_
        go_wp2_with fail
        refine (rredq hval.out HN11.out HN10.out (by omega) (by omega) hnz.out).mono ?_
        rintro e w12 ⟨rfl, hb12⟩
        have hB12 := hB11.trans (hb12.mono hB11.size)
        go_wp2_with fail
        refine ⟨rfl, ?_⟩
        refine Qmx.by_end (beh hB12) ?_
        have HR5 := hide (HR.out.keep hB12 HR.out.lt)
        have HC5 := hide (HC.out.trans (hB12.mono HC.out.size))
        obtain ⟨d0, d1, d2, g0, g1, g2⟩ := HR5.out
        go_wp2_with fail
        refine bodyPost_ret (results_rat rfl _ rfl (HR5.out.set3 _ _ _)) rfl ?_
        exact ⟨rfl, below_set3 HC5.out (by omega) _ _ _⟩
end Go.Proofs.YthppojbabkljpaaGreatDoor.RtI
