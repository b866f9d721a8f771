/- The walks of the reference's Times and Over. -/
import Derived.Test.YthppojbabkljpaaGreatDoorRpL
import Derived.Test.YthppojbabkljpaaGreatDoorRtE
import Derived.Test.YthppojbabkljpaaGreatDoorQmx
namespace Go.Proofs.YthppojbabkljpaaGreatDoor.RtG
open Go.RowKit RnA RnB RnS RnC RnK RnM RnL RnN RnD RnE RnQ RnR RnG RnP RnW RnX RoA RoB RoC RoD RoE RoF RoG RoH RoI RoJ RoK RoL RoM RoN PnA PnB PnC PnD PnE PnF PnG PnH PnI PnJ PnK PnL RtA RtB RtC RtE RpA RpB RpC RpD RpE RpF RpG RpH RnY RpI RpJ RpK RpL
theorem rlimbsq (x : Nat) (w : World) (h : (bs x).size ≤ 1000000) : Calls Tryz.prog 79 #[.string (bs x)] w (LPost (limbs x) w) := by
  have h1 := rlimbs_any (bs x) w h
  rwa [nv_bs] at h1
theorem rtimesq {x y : Nat} {A B : Option Addr} {c c' : Nat} {w : World} (ha : NAt w A c x) (hb : NAt w B c' y) (hx : sz x ≤ 100000) (hy : sz y ≤ 100000) :
    Calls Tryz.prog 69 #[.slice A (limbs x).length c, .slice B (limbs y).length c'] w (LPost (limbs (x * y)) w) := rtimes_any x y A B c c' w ha.1 hb.1 hx hy
theorem rredq {s : Bool} {x y : Nat} {q : Rat} (hq : mk s x y = q) {A B : Option Addr} {c c' : Nat} {w : World} (ha : NAt w A c x) (hb : NAt w B c' y) (hx : sz x ≤ 100000) (hy : sz y ≤ 100000) (h0 : y ≠ 0) :
    Calls Tryz.prog 70 #[.bool s, .slice A (limbs x).length c, .slice B (limbs y).length c'] w fun e w' => e = .returned (.agg #[.bool (negB q), .string (bs (nm q)), .string (dstr q)]) ∧ Below w.heap.size w w' := by
  have h := rreduced_any s x y A B c c' w ha hb hx hy h0
  rw [hq] at h
  exact h
theorem LPost.out {x : Nat} {w : World} {e : Ending} {w' : World} (h : LPost (limbs x) w e w') : ∃ A c, e = .returned (.slice A (limbs x).length c) ∧ Hid (NAt w' A c x) ∧ (limbs x).length ≤ 9223372036854775807 ∧ Below w.heap.size w w' := by
  obtain ⟨A, c, h1, h2, h3, h4, h5⟩ := h
  exact ⟨A, c, h1, ⟨h4, h2, h3⟩, h4.len, h5⟩
theorem sz_bs {x k : Nat} (h : (bs x).size ≤ 4 * k) : sz x ≤ k := by have := nv_le h; rwa [nv_bs] at this
/-- the worlds behind a world -/
abbrev Beh (W : World) (w' : World) : Prop := ∃ x : Qin.In (Below W.heap.size W), w' = x.val
theorem beh {W w' : World} (h : Below W.heap.size W w') : Beh W w' := ⟨⟨w', h⟩, rfl⟩
theorem draw_below (W : World) : Below W.heap.size W { W with drawn := W.drawn + 1 } := Qin.start _ W
set_option maxHeartbeats 4000000 in
set_option maxRecDepth 100000 in
theorem rtimes_q (a b : Rat) (w : World) (k : Nat) (ha : Lt a k) (hb : Lt b k) (hk : k ≤ 40000) :
    Calls Tryz.prog 96 #[.agg #[.bool (negB a), .string (bs (nm a)), .string (dstr a)], .agg #[.bool (negB b), .string (bs (nm b)), .string (dstr b)]] w (RPost (a * b) w) := by
  have s1 := ha.num
  have s2 := ha.dstr
  have s3 := hb.num
  have s4 := hb.dstr
  have z1 : sz (nm a) ≤ 40000 := sz_bs (by omega)
  have z2 : sz (nm b) ≤ 40000 := sz_bs (by omega)
  have z3 : sz a.den ≤ 40000 := sz_bs (by have := ha.den; omega)
  have z4 : sz b.den ≤ 40000 := sz_bs (by have := hb.den; omega)
  have z5 : sz (nm a * nm b) ≤ 80000 := Nat.le_trans (sz_mul _ _) (by omega)
  have z6 : sz (a.den * b.den) ≤ 80000 := Nat.le_trans (sz_mul _ _) (by omega)
  have hnz : Hid (a.den * b.den ≠ 0) := Nat.mul_ne_zero a.den_nz b.den_nz
  have HL := Lib.hid (fun x w h => rlimbsq x w h)
  have HD1 := Lib.hid (fun w => rden_any a w (by omega))
  have HD2 := Lib.hid (fun w => rden_any b w (by omega))
  have hval := hide (mul_eq a b)
  unfold RPost
  obtain ⟨W0, W1, W2, hW0, hW1, hW2, hs0, hs1, HA2, HB2, HR2, HC2, hsz⟩ := start3 w (.bool (negB a)) (.string (bs (nm a))) (.string (dstr a)) (.bool (negB b)) (.string (bs (nm b))) (.string (dstr b))
  by_cases h0 : nm a = 0 ∨ nm b = 0
  · have hz : Hid (enc (a * b) = enc 0) := by
      show _ = _
      rcases h0 with h0 | h0
      · rw [nm_zero.1 h0, Rat.zero_mul]
      · rw [nm_zero.1 h0, Rat.mul_zero]
    generalize enc (a * b) = E at *
    have hz1 : (bs (nm a)).size = 0 ∨ (0 < (bs (nm a)).size ∧ (bs (nm b)).size = 0) := by
      by_cases h1 : nm a = 0
      · left; rw [h1, bs0]; rfl
      · right
        exact ⟨bytes_ne_nil h1, by rw [h0.resolve_left h1, bs0]; rfl⟩
    clear h0 hval HL HD1 HD2 z1 z2 z3 z4 z5 z6
    generalize bs (nm a) = ta at *
    generalize bs (nm b) = tb at *
    obtain ⟨a0, a1, a2, _⟩ := HA2.out
    obtain ⟨b0, b1, b2, _⟩ := HB2.out
    obtain ⟨d0, d1, d2, g0, g1, g2⟩ := HR2.out
    rcases hz1 with h1 | ⟨h1, h2⟩
    · obtain ⟨e1, e2⟩ := str_em h1
      go_enter Tryz.func96, Tryz.ntmps96
      go_wp2_with fail
      refine bodyPost_ret (results_rat rfl _ rfl (HR2.out.set3 _ _ _)) rfl ?_
      exact ⟨by rw [hz.out, enc_zero_val], below_set3 HC2.out (by omega) _ _ _⟩
    · obtain ⟨e1, e2⟩ := str_ne h1
      obtain ⟨e3, e4⟩ := str_em h2
      go_enter Tryz.func96, Tryz.ntmps96
      go_wp2_with fail
      refine bodyPost_ret (results_rat rfl _ rfl (HR2.out.set3 _ _ _)) rfl ?_
      exact ⟨by rw [hz.out, enc_zero_val], below_set3 HC2.out (by omega) _ _ _⟩
  · have h1 := bytes_ne_nil (m := nm a) (by omega)
    have h2 := bytes_ne_nil (m := nm b) (by omega)
    obtain ⟨e1, e2⟩ := str_ne h1
    obtain ⟨e3, e4⟩ := str_ne h2
    obtain ⟨a0, a1, a2, _⟩ := HA2.out
    obtain ⟨b0, b1, b2, _⟩ := HB2.out
    clear h0 h1 h2
    rw [enc_open]
    generalize hr : a * b = r at *
    have HR := hide hr
    clear hr
    go_enter Tryz.func96, Tryz.ntmps96
    go_wp2_with fail
    clear a0 a1 a2 b0 b1 b2 hW0 hW1 hW2
    obtain ⟨k0, k1, k2⟩ := HA2.out.kin
    obtain ⟨l0, l1, l2⟩ := HB2.out.kin
    have hb3 := draw_below W2
    refine Qmx.wp_region (C := Beh W2) 18 (by kernel_rfl) (by kernel_rfl) (by kernel_rfl) ?_
    generalize { W2 with drawn := W2.drawn + 1 } = w3 at *
    simp only [List.take_succ_cons, List.take_zero, List.drop_succ_cons, List.drop_zero]
    refine Qmx.quiet_n 7 (beh hb3) (by kernel_rfl) ?_
    simp only [List.take_succ_cons, List.take_zero, List.drop_succ_cons, List.drop_zero]
    repeat (go_big_quiet_step (fail))
    refine wpQuiet_nil ?_
    refine Qmx.by_call (by kernel_rfl) (beh hb3) ?_
    go_wp2_with fail
    refine (HL.out _ _ (by omega)).mono ?_
    rintro e w4 hp
    obtain ⟨A4, c4, rfl, HN4, hl4, hb4⟩ := LPost.out hp
    clear hp
    have hB4 := hb3.trans (hb4.mono hb3.size)
    clear hb4
    go_wp2_with fail
    refine ⟨rfl, ?_⟩
    refine Qmx.quiet_n 2 (beh hB4) (by kernel_rfl) ?_
    simp only [List.take_succ_cons, List.take_zero, List.drop_succ_cons, List.drop_zero]
    repeat (go_big_quiet_step (fail))
    refine wpQuiet_nil ?_
    refine Qmx.by_call (by kernel_rfl) (beh hB4) ?_
    go_wp2_with fail
    refine (HL.out _ _ (by omega)).mono ?_
    rintro e w5 hp
    obtain ⟨A5, c5, rfl, HN5, hl5, hb5⟩ := LPost.out hp
    clear hp
    replace HN4 := hide (HN4.out.next hb5)
    have hB5 := hB4.trans (hb5.mono hB4.size)
    clear hb5
    go_wp2_with fail
    refine ⟨rfl, ?_⟩
    refine Qmx.by_call (by kernel_rfl) (beh hB5) ?_
    go_wp2_with fail
    refine (rtimesq HN4.out HN5.out (by omega) (by omega)).mono ?_
    rintro e w6 hp
    obtain ⟨A6, c6, rfl, HN6, hl6, hb6⟩ := LPost.out hp
    clear hp
    replace HN4 := hide (HN4.out.next hb6)
    replace HN5 := hide (HN5.out.next hb6)
    have hB6 := hB5.trans (hb6.mono hB5.size)
    clear hb6
    go_wp2_with fail
    refine ⟨rfl, ?_⟩
    refine Qmx.quiet_n 1 (beh hB6) (by kernel_rfl) ?_
    simp only [List.take_succ_cons, List.take_zero, List.drop_succ_cons, List.drop_zero]
    repeat (go_big_quiet_step (fail))
    refine wpQuiet_nil ?_
    refine Qmx.by_call (by kernel_rfl) (beh hB6) ?_
    go_wp2_with fail
    refine (HD1.out _).mono ?_
    rintro e w7 hp
    obtain ⟨A7, c7, rfl, HN7, hl7, hb7⟩ := LPost.out hp
    clear hp
    replace HN4 := hide (HN4.out.next hb7)
    replace HN5 := hide (HN5.out.next hb7)
    replace HN6 := hide (HN6.out.next hb7)
    have hB7 := hB6.trans (hb7.mono hB6.size)
    clear hb7
    go_wp2_with fail
    refine ⟨rfl, ?_⟩
    refine Qmx.quiet_n 1 (beh hB7) (by kernel_rfl) ?_
    simp only [List.take_succ_cons, List.take_zero, List.drop_succ_cons, List.drop_zero]
    repeat (go_big_quiet_step (fail))
    refine wpQuiet_nil ?_
    refine Qmx.by_call (by kernel_rfl) (beh hB7) ?_
    go_wp2_with fail
    refine (HD2.out _).mono ?_
    rintro e w8 hp
    obtain ⟨A8, c8, rfl, HN8, hl8, hb8⟩ := LPost.out hp
    clear hp
    replace HN4 := hide (HN4.out.next hb8)
    replace HN5 := hide (HN5.out.next hb8)
    replace HN6 := hide (HN6.out.next hb8)
    replace HN7 := hide (HN7.out.next hb8)
    have hB8 := hB7.trans (hb8.mono hB7.size)
    clear hb8
    go_wp2_with fail
    refine ⟨rfl, ?_⟩
    refine Qmx.by_call (by kernel_rfl) (beh hB8) ?_
    go_wp2_with fail
    refine (rtimesq HN7.out HN8.out (by omega) (by omega)).mono ?_
    rintro e w9 hp
    obtain ⟨A9, c9, rfl, HN9, hl9, hb9⟩ := LPost.out hp
    clear hp
    replace HN4 := hide (HN4.out.next hb9)
    replace HN5 := hide (HN5.out.next hb9)
    replace HN6 := hide (HN6.out.next hb9)
    replace HN7 := hide (HN7.out.next hb9)
    replace HN8 := hide (HN8.out.next hb9)
    have hB9 := hB8.trans (hb9.mono hB8.size)
    clear hb9
    go_wp2_with fail
    refine ⟨rfl, ?_⟩
    refine Qmx.by_call (by kernel_rfl) (beh hB9) ?_
    go_wp2_with fail
    refine (rredq hval.out HN6.out HN9.out (by omega) (by omega) hnz.out).mono ?_
    rintro e w10 ⟨rfl, hb10⟩
    have hB10 := hB9.trans (hb10.mono hB9.size)
    go_wp2_with fail
    refine ⟨rfl, ?_⟩
    refine Qmx.by_end (beh hB10) ?_
    have HR5 := hide (HR2.out.keep hB10 HR2.out.lt)
    have HC5 := hide (HC2.out.trans (hB10.mono HC2.out.size))
    obtain ⟨d0, d1, d2, g0, g1, g2⟩ := HR5.out
    go_wp2_with fail
    refine bodyPost_ret (results_rat rfl _ rfl (HR5.out.set3 _ _ _)) rfl ?_
    exact ⟨rfl, below_set3 HC5.out (by omega) _ _ _⟩
set_option maxHeartbeats 4000000 in
set_option maxRecDepth 100000 in
theorem rover_q (a b : Rat) (w : World) (k : Nat) (ha : Lt a k) (hb : Lt b k) (hk : k ≤ 40000) (hb0 : nm b ≠ 0) :
    Calls Tryz.prog 87 #[.agg #[.bool (negB a), .string (bs (nm a)), .string (dstr a)], .agg #[.bool (negB b), .string (bs (nm b)), .string (dstr b)]] w (RPost (a / b) w) := by
  have s1 := ha.num
  have s2 := ha.dstr
  have s3 := hb.num
  have s4 := hb.dstr
  have z1 : sz (nm a) ≤ 40000 := sz_bs (by omega)
  have z2 : sz (nm b) ≤ 40000 := sz_bs (by omega)
  have z3 : sz a.den ≤ 40000 := sz_bs (by have := ha.den; omega)
  have z4 : sz b.den ≤ 40000 := sz_bs (by have := hb.den; omega)
  have z5 : sz (nm a * b.den) ≤ 80000 := Nat.le_trans (sz_mul _ _) (by omega)
  have z6 : sz (a.den * nm b) ≤ 80000 := Nat.le_trans (sz_mul _ _) (by omega)
  have hnz : Hid (a.den * nm b ≠ 0) := Nat.mul_ne_zero a.den_nz hb0
  have HL := Lib.hid (fun x w h => rlimbsq x w h)
  have HD1 := Lib.hid (fun w => rden_any a w (by omega))
  have HD2 := Lib.hid (fun w => rden_any b w (by omega))
  have hval := hide (div_eq a b (fun e => hb0 (nm_zero.2 e)))
  clear hb0
  unfold RPost
  obtain ⟨W0, W1, W2, hW0, hW1, hW2, hs0, hs1, HA2, HB2, HR2, HC2, hsz⟩ := start3 w (.bool (negB a)) (.string (bs (nm a))) (.string (dstr a)) (.bool (negB b)) (.string (bs (nm b))) (.string (dstr b))
  by_cases h0 : nm a = 0
  · have hz : Hid (enc (a / b) = enc 0) := by
      show _ = _
      rw [nm_zero.1 h0, Rat.div_def, Rat.zero_mul]
    generalize enc (a / b) = E at *
    have h1 : (bs (nm a)).size = 0 := by rw [h0, bs0]; rfl
    clear h0 hval HL HD1 HD2 z1 z2 z3 z4 z5 z6
    generalize bs (nm a) = ta at *
    generalize bs (nm b) = tb at *
    obtain ⟨a0, a1, a2, _⟩ := HA2.out
    obtain ⟨b0, b1, b2, _⟩ := HB2.out
    obtain ⟨d0, d1, d2, g0, g1, g2⟩ := HR2.out
    obtain ⟨e1, e2⟩ := str_em h1
    go_enter Tryz.func87, Tryz.ntmps87
    go_wp2_with fail
    refine bodyPost_ret (results_rat rfl _ rfl (HR2.out.set3 _ _ _)) rfl ?_
    exact ⟨by rw [hz.out, enc_zero_val], below_set3 HC2.out (by omega) _ _ _⟩
  · have h1 := bytes_ne_nil h0
    obtain ⟨e1, e2⟩ := str_ne h1
    obtain ⟨a0, a1, a2, _⟩ := HA2.out
    obtain ⟨b0, b1, b2, _⟩ := HB2.out
    clear h0 h1
    rw [enc_open]
    generalize hr : a / b = r at *
    have HR := hide hr
    clear hr
    go_enter Tryz.func87, Tryz.ntmps87
    go_wp2_with fail
    clear a0 a1 a2 b0 b1 b2 hW0 hW1 hW2
    obtain ⟨k0, k1, k2⟩ := HA2.out.kin
    obtain ⟨l0, l1, l2⟩ := HB2.out.kin
    have hb3 := draw_below W2
    refine Qmx.wp_region (C := Beh W2) 18 (by kernel_rfl) (by kernel_rfl) (by kernel_rfl) ?_
    generalize { W2 with drawn := W2.drawn + 1 } = w3 at *
    simp only [List.take_succ_cons, List.take_zero, List.drop_succ_cons, List.drop_zero]
    refine Qmx.quiet_n 7 (beh hb3) (by kernel_rfl) ?_
    simp only [List.take_succ_cons, List.take_zero, List.drop_succ_cons, List.drop_zero]
    repeat (go_big_quiet_step (fail))
    refine wpQuiet_nil ?_
    refine Qmx.by_call (by kernel_rfl) (beh hb3) ?_
    go_wp2_with fail
    refine (HL.out _ _ (by omega)).mono ?_
    rintro e w4 hp
    obtain ⟨A4, c4, rfl, HN4, hl4, hb4⟩ := LPost.out hp
    clear hp
    have hB4 := hb3.trans (hb4.mono hb3.size)
    clear hb4
    go_wp2_with fail
    refine ⟨rfl, ?_⟩
    refine Qmx.quiet_n 1 (beh hB4) (by kernel_rfl) ?_
    simp only [List.take_succ_cons, List.take_zero, List.drop_succ_cons, List.drop_zero]
    repeat (go_big_quiet_step (fail))
    refine wpQuiet_nil ?_
    refine Qmx.by_call (by kernel_rfl) (beh hB4) ?_
    go_wp2_with fail
    refine (HD2.out _).mono ?_
    rintro e w5 hp
    obtain ⟨A5, c5, rfl, HN5, hl5, hb5⟩ := LPost.out hp
    clear hp
    replace HN4 := hide (HN4.out.next hb5)
    have hB5 := hB4.trans (hb5.mono hB4.size)
    clear hb5
    go_wp2_with fail
    refine ⟨rfl, ?_⟩
    refine Qmx.by_call (by kernel_rfl) (beh hB5) ?_
    go_wp2_with fail
    refine (rtimesq HN4.out HN5.out (by omega) (by omega)).mono ?_
    rintro e w6 hp
    obtain ⟨A6, c6, rfl, HN6, hl6, hb6⟩ := LPost.out hp
    clear hp
    replace HN4 := hide (HN4.out.next hb6)
    replace HN5 := hide (HN5.out.next hb6)
    have hB6 := hB5.trans (hb6.mono hB5.size)
    clear hb6
    go_wp2_with fail
    refine ⟨rfl, ?_⟩
    refine Qmx.quiet_n 1 (beh hB6) (by kernel_rfl) ?_
    simp only [List.take_succ_cons, List.take_zero, List.drop_succ_cons, List.drop_zero]
    repeat (go_big_quiet_step (fail))
    refine wpQuiet_nil ?_
    refine Qmx.by_call (by kernel_rfl) (beh hB6) ?_
    go_wp2_with fail
    refine (HD1.out _).mono ?_
    rintro e w7 hp
    obtain ⟨A7, c7, rfl, HN7, hl7, hb7⟩ := LPost.out hp
    clear hp
    replace HN4 := hide (HN4.out.next hb7)
    replace HN5 := hide (HN5.out.next hb7)
    replace HN6 := hide (HN6.out.next hb7)
    have hB7 := hB6.trans (hb7.mono hB6.size)
    clear hb7
    go_wp2_with fail
    refine ⟨rfl, ?_⟩
    refine Qmx.quiet_n 2 (beh hB7) (by kernel_rfl) ?_
    simp only [List.take_succ_cons, List.take_zero, List.drop_succ_cons, List.drop_zero]
    repeat (go_big_quiet_step (fail))
    refine wpQuiet_nil ?_
    refine Qmx.by_call (by kernel_rfl) (beh hB7) ?_
    go_wp2_with fail
    refine (HL.out _ _ (by omega)).mono ?_
    rintro e w8 hp
    obtain ⟨A8, c8, rfl, HN8, hl8, hb8⟩ := LPost.out hp
    clear hp
    replace HN4 := hide (HN4.out.next hb8)
    replace HN5 := hide (HN5.out.next hb8)
    replace HN6 := hide (HN6.out.next hb8)
    replace HN7 := hide (HN7.out.next hb8)
    have hB8 := hB7.trans (hb8.mono hB7.size)
    clear hb8
    go_wp2_with fail
    refine ⟨rfl, ?_⟩
    refine Qmx.by_call (by kernel_rfl) (beh hB8) ?_
    go_wp2_with fail
    refine (rtimesq HN7.out HN8.out (by omega) (by omega)).mono ?_
    rintro e w9 hp
    obtain ⟨A9, c9, rfl, HN9, hl9, hb9⟩ := LPost.out hp
    clear hp
    replace HN4 := hide (HN4.out.next hb9)
    replace HN5 := hide (HN5.out.next hb9)
    replace HN6 := hide (HN6.out.next hb9)
    replace HN7 := hide (HN7.out.next hb9)
    replace HN8 := hide (HN8.out.next hb9)
    have hB9 := hB8.trans (hb9.mono hB8.size)
    clear hb9
    go_wp2_with fail
    refine ⟨rfl, ?_⟩
    refine Qmx.by_call (by kernel_rfl) (beh hB9) ?_
    go_wp2_with fail
    refine (rredq hval.out HN6.out HN9.out (by omega) (by omega) hnz.out).mono ?_
    rintro e w10 ⟨rfl, hb10⟩
    have hB10 := hB9.trans (hb10.mono hB9.size)
    go_wp2_with fail
    refine ⟨rfl, ?_⟩
    refine Qmx.by_end (beh hB10) ?_
    have HR5 := hide (HR2.out.keep hB10 HR2.out.lt)
    have HC5 := hide (HC2.out.trans (hB10.mono HC2.out.size))
    obtain ⟨d0, d1, d2, g0, g1, g2⟩ := HR5.out
    go_wp2_with fail
    refine bodyPost_ret (results_rat rfl _ rfl (HR5.out.set3 _ _ _)) rfl ?_
    exact ⟨rfl, below_set3 HC5.out (by omega) _ _ _⟩
end Go.Proofs.YthppojbabkljpaaGreatDoor.RtG
