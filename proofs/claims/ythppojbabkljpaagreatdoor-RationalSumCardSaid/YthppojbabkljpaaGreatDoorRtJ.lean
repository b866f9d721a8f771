/- The walks of the reference's Minus, Add, Subtract, Multiply, Divide, Less, Lesser, Greater, Compare, Min, Max. -/
import Derived.Test.YthppojbabkljpaaGreatDoorRtI
namespace Go.Proofs.YthppojbabkljpaaGreatDoor.RtJ
open Go.RowKit RnA RnB RnS RnC RnK RnM RnL RnN RnD RnE RnQ RnR RnG RnP RnW RnX RoA RoB RoC RoD RoE RoF RoG RoH RoI RoJ RoK RoL RoM RoN PnA PnB PnC PnD PnE PnF PnG PnH PnI PnJ PnK PnL RtA RtB RtC RtE RtG RtH RtI RpA RpB RpC RpD RpE RpF RpG RpH RnY RpI RpJ RpK RpL
theorem fix_in (n : Bool) (a d : ByteArray) (q : Rat) (hq : fixQ n a.data.toList d.data.toList = q) (W : World) (v : Qin.In (Below W.heap.size W)) (ha : a.size ≤ 100000) (hd : d.size ≤ 100000) : Calls Tryz.prog 22 #[.agg #[.bool n, .string a, .string d]] v.val fun e w' => e = .returned (.agg #[.bool (negB q), .string (bs (nm q)), .string (dstr q)]) ∧ ∃ y : Qin.In (Below W.heap.size W), w' = y.val :=
  Qin.call ((rfix_any n a d v.val ha hd).mono fun _ _ ⟨h1, h2⟩ => ⟨by rw [h1, hq, enc_open], v.ok.trans (h2.mono v.ok.size)⟩)
set_option maxHeartbeats 4000000 in
set_option maxRecDepth 100000 in
theorem rminus_q (a b : Rat) (w : World) (k : Nat) (ha : Lt a k) (hb : Lt b k) (hk : k ≤ 40000) :
    Calls Tryz.prog 95 #[.agg #[.bool (negB a), .string (bs (nm a)), .string (dstr a)], .agg #[.bool (negB b), .string (bs (nm b)), .string (dstr b)]] w (RPost (a - b) w) := by
  have HN := Lib.hid (fun W (v : Qin.In (Below W.heap.size W)) => q_in (ropp_q b v.val))
  have HS := Lib.hid (fun W (v : Qin.In (Below W.heap.size W)) => q_in (rplus_q a (-b) v.val k ha hb.neg hk))
  rw [show a + -b = a - b by grind] at HS
  unfold RPost
  rw [enc_open]
  generalize a - b = r at *
  generalize -b = p at *
  obtain ⟨W0, W1, W2, hW0, hW1, hW2, hs0, hs1, HA2, HB2, HR2, HC2, hsz⟩ := start3 w (.bool (negB a)) (.string (bs (nm a))) (.string (dstr a)) (.bool (negB b)) (.string (bs (nm b))) (.string (dstr b))
  go_enter Tryz.func95, Tryz.ntmps95
  go_wp2_with fail
  obtain ⟨k0, k1, k2⟩ := HA2.out.kin
  obtain ⟨l0, l1, l2⟩ := HB2.out.kin
  refine Qtl.region (I := Below W2.heap.size W2) 4 (Qin.start _ _) (by kernel_rfl) (by kernel_rfl) ?_
  simp only [List.take_succ_cons, List.take_zero, List.drop_succ_cons, List.drop_zero]
  repeat (go_big_quiet_step ((first | (go_at_call 94; with_reducible exact HN.out _ _) | (go_at_call 92; with_reducible exact HS.out _ _))))
  refine wpQuiet_nil ?_
  intro v
  clear k0 k1 k2 l0 l1 l2
  have HR5 := hide (HR2.out.keep v.ok HR2.out.lt)
  have HC5 := hide (HC2.out.trans (v.ok.mono HC2.out.size))
  obtain ⟨d0, d1, d2, g0, g1, g2⟩ := HR5.out
  go_wp2_with fail
  refine bodyPost_ret (results_rat rfl _ rfl (HR5.out.set3 _ _ _)) rfl ?_
  exact ⟨rfl, below_set3 HC5.out (by omega) _ _ _⟩
set_option maxHeartbeats 4000000 in
set_option maxRecDepth 100000 in
theorem radd_any (n : Bool) (a d : ByteArray) (n' : Bool) (a' d' : ByteArray) (w : World) (k : Nat) (ha : a.size ≤ k) (hd : d.size ≤ k) (ha' : a'.size ≤ k) (hd' : d'.size ≤ k) (hk : 1 ≤ k) (hk2 : k ≤ 40000) :
    Calls Tryz.prog 40 #[.agg #[.bool n, .string a, .string d], .agg #[.bool n', .string a', .string d']] w (RPost (fixQ n a.data.toList d.data.toList + fixQ n' a'.data.toList d'.data.toList) w) := by
  have hl := lt_raw (n := n) ha hd hk
  have hl' := lt_raw (n := n') ha' hd' hk
  have HC := Lib.hid (fun W v => fix_in n a d _ rfl W v (by omega) (by omega))
  have HC' := Lib.hid (fun W v => fix_in n' a' d' _ rfl W v (by omega) (by omega))
  generalize fixQ n a.data.toList d.data.toList = q at *
  generalize fixQ n' a'.data.toList d'.data.toList = q' at *
  have HS := Lib.hid (fun W (v : Qin.In (Below W.heap.size W)) => q_in (rplus_q q q' v.val k hl hl' hk2))
  generalize q + q' = r at *
  unfold RPost
  rw [enc_open]
  clear hl hl'
  obtain ⟨W0, W1, W2, hW0, hW1, hW2, hs0, hs1, HA2, HB2, HR2, HC2, hsz⟩ := start3 w (.bool n) (.string a) (.string d) (.bool n') (.string a') (.string d')
  go_enter Tryz.func40, Tryz.ntmps40
  go_wp2_with fail
  obtain ⟨k0, k1, k2⟩ := HA2.out.kin
  obtain ⟨l0, l1, l2⟩ := HB2.out.kin
  refine Qtl.region (I := Below W2.heap.size W2) 5 (Qin.start _ _) (by kernel_rfl) (by kernel_rfl) ?_
  simp only [List.take_succ_cons, List.take_zero, List.drop_succ_cons, List.drop_zero]
  repeat (go_big_quiet_step ((first | (go_at_call 22; first | (with_reducible exact HC.out _ _) | (with_reducible exact HC'.out _ _)) | (go_at_call 92; with_reducible exact HS.out _ _))))
  refine wpQuiet_nil ?_
  intro v
  clear k0 k1 k2 l0 l1 l2
  have HR5 := hide (HR2.out.keep v.ok HR2.out.lt)
  have HC5 := hide (HC2.out.trans (v.ok.mono HC2.out.size))
  obtain ⟨d0, d1, d2, g0, g1, g2⟩ := HR5.out
  go_wp2_with fail
  refine bodyPost_ret (results_rat rfl _ rfl (HR5.out.set3 _ _ _)) rfl ?_
  exact ⟨rfl, below_set3 HC5.out (by omega) _ _ _⟩
set_option maxHeartbeats 4000000 in
set_option maxRecDepth 100000 in
theorem rsub_any (n : Bool) (a d : ByteArray) (n' : Bool) (a' d' : ByteArray) (w : World) (k : Nat) (ha : a.size ≤ k) (hd : d.size ≤ k) (ha' : a'.size ≤ k) (hd' : d'.size ≤ k) (hk : 1 ≤ k) (hk2 : k ≤ 40000) :
    Calls Tryz.prog 42 #[.agg #[.bool n, .string a, .string d], .agg #[.bool n', .string a', .string d']] w (RPost (fixQ n a.data.toList d.data.toList - fixQ n' a'.data.toList d'.data.toList) w) := by
  have hl := lt_raw (n := n) ha hd hk
  have hl' := lt_raw (n := n') ha' hd' hk
  have HC := Lib.hid (fun W v => fix_in n a d _ rfl W v (by omega) (by omega))
  have HC' := Lib.hid (fun W v => fix_in n' a' d' _ rfl W v (by omega) (by omega))
  generalize fixQ n a.data.toList d.data.toList = q at *
  generalize fixQ n' a'.data.toList d'.data.toList = q' at *
  have HS := Lib.hid (fun W (v : Qin.In (Below W.heap.size W)) => q_in (rminus_q q q' v.val k hl hl' hk2))
  generalize q - q' = r at *
  unfold RPost
  rw [enc_open]
  clear hl hl'
  obtain ⟨W0, W1, W2, hW0, hW1, hW2, hs0, hs1, HA2, HB2, HR2, HC2, hsz⟩ := start3 w (.bool n) (.string a) (.string d) (.bool n') (.string a') (.string d')
  go_enter Tryz.func42, Tryz.ntmps42
  go_wp2_with fail
  obtain ⟨k0, k1, k2⟩ := HA2.out.kin
  obtain ⟨l0, l1, l2⟩ := HB2.out.kin
  refine Qtl.region (I := Below W2.heap.size W2) 5 (Qin.start _ _) (by kernel_rfl) (by kernel_rfl) ?_
  simp only [List.take_succ_cons, List.take_zero, List.drop_succ_cons, List.drop_zero]
  repeat (go_big_quiet_step ((first | (go_at_call 22; first | (with_reducible exact HC.out _ _) | (with_reducible exact HC'.out _ _)) | (go_at_call 95; with_reducible exact HS.out _ _))))
  refine wpQuiet_nil ?_
  intro v
  clear k0 k1 k2 l0 l1 l2
  have HR5 := hide (HR2.out.keep v.ok HR2.out.lt)
  have HC5 := hide (HC2.out.trans (v.ok.mono HC2.out.size))
  obtain ⟨d0, d1, d2, g0, g1, g2⟩ := HR5.out
  go_wp2_with fail
  refine bodyPost_ret (results_rat rfl _ rfl (HR5.out.set3 _ _ _)) rfl ?_
  exact ⟨rfl, below_set3 HC5.out (by omega) _ _ _⟩
set_option maxHeartbeats 4000000 in
set_option maxRecDepth 100000 in
theorem rmul_any (n : Bool) (a d : ByteArray) (n' : Bool) (a' d' : ByteArray) (w : World) (k : Nat) (ha : a.size ≤ k) (hd : d.size ≤ k) (ha' : a'.size ≤ k) (hd' : d'.size ≤ k) (hk : 1 ≤ k) (hk2 : k ≤ 40000) :
    Calls Tryz.prog 44 #[.agg #[.bool n, .string a, .string d], .agg #[.bool n', .string a', .string d']] w (RPost (fixQ n a.data.toList d.data.toList * fixQ n' a'.data.toList d'.data.toList) w) := by
  have hl := lt_raw (n := n) ha hd hk
  have hl' := lt_raw (n := n') ha' hd' hk
  have HC := Lib.hid (fun W v => fix_in n a d _ rfl W v (by omega) (by omega))
  have HC' := Lib.hid (fun W v => fix_in n' a' d' _ rfl W v (by omega) (by omega))
  generalize fixQ n a.data.toList d.data.toList = q at *
  generalize fixQ n' a'.data.toList d'.data.toList = q' at *
  have HS := Lib.hid (fun W (v : Qin.In (Below W.heap.size W)) => q_in (rtimes_q q q' v.val k hl hl' hk2))
  generalize q * q' = r at *
  unfold RPost
  rw [enc_open]
  clear hl hl'
  obtain ⟨W0, W1, W2, hW0, hW1, hW2, hs0, hs1, HA2, HB2, HR2, HC2, hsz⟩ := start3 w (.bool n) (.string a) (.string d) (.bool n') (.string a') (.string d')
  go_enter Tryz.func44, Tryz.ntmps44
  go_wp2_with fail
  obtain ⟨k0, k1, k2⟩ := HA2.out.kin
  obtain ⟨l0, l1, l2⟩ := HB2.out.kin
  refine Qtl.region (I := Below W2.heap.size W2) 5 (Qin.start _ _) (by kernel_rfl) (by kernel_rfl) ?_
  simp only [List.take_succ_cons, List.take_zero, List.drop_succ_cons, List.drop_zero]
  repeat (go_big_quiet_step ((first | (go_at_call 22; first | (with_reducible exact HC.out _ _) | (with_reducible exact HC'.out _ _)) | (go_at_call 96; with_reducible exact HS.out _ _))))
  refine wpQuiet_nil ?_
  intro v
  clear k0 k1 k2 l0 l1 l2
  have HR5 := hide (HR2.out.keep v.ok HR2.out.lt)
  have HC5 := hide (HC2.out.trans (v.ok.mono HC2.out.size))
  obtain ⟨d0, d1, d2, g0, g1, g2⟩ := HR5.out
  go_wp2_with fail
  refine bodyPost_ret (results_rat rfl _ rfl (HR5.out.set3 _ _ _)) rfl ?_
  exact ⟨rfl, below_set3 HC5.out (by omega) _ _ _⟩
set_option maxHeartbeats 4000000 in
set_option maxRecDepth 100000 in
theorem rless_q (a b : Rat) (w : World) (k : Nat) (ha : Lt a k) (hb : Lt b k) (hk : k ≤ 40000) :
    Calls Tryz.prog 134 #[.agg #[.bool (negB a), .string (bs (nm a)), .string (dstr a)], .agg #[.bool (negB b), .string (bs (nm b)), .string (dstr b)]] w fun e w' => e = .returned (.bool (decide (cmpQ a b < 0))) ∧ Below w.heap.size w w' := by
  have HM := Lib.hid (fun w => rminus_q a b w k ha hb hk)
  have HS := Lib.hid (fun w => rsignum_q (a - b) w)
  rw [sgn_sub] at HS
  unfold RPost at HM
  rw [enc_open] at HM
  generalize cmpQ a b = c at *
  generalize a - b = r at *
  obtain ⟨W0, W2, hW0, hW2, hs0, HA2, HB2, HC2, hsz⟩ := startb w (.bool (negB a)) (.string (bs (nm a))) (.string (dstr a)) (.bool (negB b)) (.string (bs (nm b))) (.string (dstr b))
  obtain ⟨a0, a1, a2, _⟩ := HA2.out
  obtain ⟨b0, b1, b2, _⟩ := HB2.out
  go_enter Tryz.func134, Tryz.ntmps134
  go_wp2_with fail
  refine (HM.out _).mono ?_
  rintro e w3 ⟨rfl, hb3⟩
  have hb4 := HC2.out.trans (hb3.mono HC2.out.size)
  go_wp2_with fail
  refine (HS.out _).mono ?_
  rintro e w4 ⟨rfl, hb5⟩
  have hb6 := hb4.trans (hb5.mono hb4.size)
  go_wp2_with fail
  go_ret
  exact ⟨rfl, hb6⟩
theorem minQ_b {a b : Rat} (h : cmpQ b a < 0) : minQ a b = b := by
  unfold minQ
  rw [if_neg]
  unfold cmpQ at h ⊢
  split at h
  · split
    · grind
    · split <;> grind
  · split at h <;> omega
theorem minQ_a {a b : Rat} (h : ¬ cmpQ b a < 0) : minQ a b = a := by
  unfold minQ
  rw [if_pos]
  unfold cmpQ at h ⊢
  split at h
  · omega
  · split
    · omega
    · split
      · omega
      · grind
theorem maxQ_b {a b : Rat} (h : cmpQ a b < 0) : maxQ a b = b := by unfold maxQ; rw [if_neg (by omega)]
theorem maxQ_a {a b : Rat} (h : ¬ cmpQ a b < 0) : maxQ a b = a := by unfold maxQ; rw [if_pos (by omega)]
set_option maxHeartbeats 4000000 in
set_option maxRecDepth 100000 in
theorem rlesser_q (a b : Rat) (w : World) (k : Nat) (ha : Lt a k) (hb : Lt b k) (hk : k ≤ 40000) :
    Calls Tryz.prog 101 #[.agg #[.bool (negB a), .string (bs (nm a)), .string (dstr a)], .agg #[.bool (negB b), .string (bs (nm b)), .string (dstr b)]] w (RPost (minQ a b) w) := by
  have HM := Lib.hid (fun w => rless_q b a w k hb ha hk)
  have hr1 : Hid (cmpQ b a < 0 → minQ a b = b) := minQ_b
  have hr2 : Hid (¬ cmpQ b a < 0 → minQ a b = a) := minQ_a
  unfold RPost
  generalize minQ a b = r at *
  generalize cmpQ b a = c at *
  rw [enc_open]
  obtain ⟨W0, W1, W2, hW0, hW1, hW2, hs0, hs1, HA2, HB2, HR2, HC2, hsz⟩ := start3 w (.bool (negB a)) (.string (bs (nm a))) (.string (dstr a)) (.bool (negB b)) (.string (bs (nm b))) (.string (dstr b))
  obtain ⟨a0, a1, a2, _⟩ := HA2.out
  obtain ⟨b0, b1, b2, _⟩ := HB2.out
  by_cases hc : c < 0
  · obtain rfl := hr1.out hc
    rw [decide_eq_true hc] at HM
    clear hr1 hr2 hc
    go_enter Tryz.func101, Tryz.ntmps101
    go_wp2_with fail
    refine (HM.out _).mono ?_
    rintro e w4 ⟨rfl, hb4⟩
    have HR4 := hide (HR2.out.keep hb4 HR2.out.lt)
    have HB4 := hide (HB2.out.keep hb4 HB2.out.lt)
    have HC4 := hide (HC2.out.trans (hb4.mono HC2.out.size))
    clear hb4 a0 a1 a2 b0 b1 b2
    obtain ⟨b0, b1, b2, _⟩ := HB4.out
    obtain ⟨d0, d1, d2, g0, g1, g2⟩ := HR4.out
    go_wp2_with fail
    refine bodyPost_ret (results_rat rfl _ rfl (HR4.out.set3 _ _ _)) rfl ?_
    exact ⟨rfl, below_set3 HC4.out (by omega) _ _ _⟩
  · obtain rfl := hr2.out (by omega)
    rw [decide_eq_false hc] at HM
    clear hr1 hr2 hc
    go_enter Tryz.func101, Tryz.ntmps101
    go_wp2_with fail
    refine (HM.out _).mono ?_
    rintro e w4 ⟨rfl, hb4⟩
    have HR4 := hide (HR2.out.keep hb4 HR2.out.lt)
    have HA4 := hide (HA2.out.keep hb4 HA2.out.lt)
    have HC4 := hide (HC2.out.trans (hb4.mono HC2.out.size))
    clear hb4 a0 a1 a2 b0 b1 b2
    obtain ⟨a0, a1, a2, _⟩ := HA4.out
    obtain ⟨d0, d1, d2, g0, g1, g2⟩ := HR4.out
    go_wp2_with fail
    refine bodyPost_ret (results_rat rfl _ rfl (HR4.out.set3 _ _ _)) rfl ?_
    exact ⟨rfl, below_set3 HC4.out (by omega) _ _ _⟩
set_option maxHeartbeats 4000000 in
set_option maxRecDepth 100000 in
theorem rgreater_q (a b : Rat) (w : World) (k : Nat) (ha : Lt a k) (hb : Lt b k) (hk : k ≤ 40000) :
    Calls Tryz.prog 102 #[.agg #[.bool (negB a), .string (bs (nm a)), .string (dstr a)], .agg #[.bool (negB b), .string (bs (nm b)), .string (dstr b)]] w (RPost (maxQ a b) w) := by
  have HM := Lib.hid (fun w => rless_q a b w k ha hb hk)
  have hr1 : Hid (cmpQ a b < 0 → maxQ a b = b) := maxQ_b
  have hr2 : Hid (¬ cmpQ a b < 0 → maxQ a b = a) := maxQ_a
  unfold RPost
  generalize maxQ a b = r at *
  generalize cmpQ a b = c at *
  rw [enc_open]
  obtain ⟨W0, W1, W2, hW0, hW1, hW2, hs0, hs1, HA2, HB2, HR2, HC2, hsz⟩ := start3 w (.bool (negB a)) (.string (bs (nm a))) (.string (dstr a)) (.bool (negB b)) (.string (bs (nm b))) (.string (dstr b))
  obtain ⟨a0, a1, a2, _⟩ := HA2.out
  obtain ⟨b0, b1, b2, _⟩ := HB2.out
  by_cases hc : c < 0
  · obtain rfl := hr1.out hc
    rw [decide_eq_true hc] at HM
    clear hr1 hr2 hc
    go_enter Tryz.func102, Tryz.ntmps102
    go_wp2_with fail
    refine (HM.out _).mono ?_
    rintro e w4 ⟨rfl, hb4⟩
    have HR4 := hide (HR2.out.keep hb4 HR2.out.lt)
    have HB4 := hide (HB2.out.keep hb4 HB2.out.lt)
    have HC4 := hide (HC2.out.trans (hb4.mono HC2.out.size))
    clear hb4 a0 a1 a2 b0 b1 b2
    obtain ⟨b0, b1, b2, _⟩ := HB4.out
    obtain ⟨d0, d1, d2, g0, g1, g2⟩ := HR4.out
    go_wp2_with fail
    refine bodyPost_ret (results_rat rfl _ rfl (HR4.out.set3 _ _ _)) rfl ?_
    exact ⟨rfl, below_set3 HC4.out (by omega) _ _ _⟩
  · obtain rfl := hr2.out (by omega)
    rw [decide_eq_false hc] at HM
    clear hr1 hr2 hc
    go_enter Tryz.func102, Tryz.ntmps102
    go_wp2_with fail
    refine (HM.out _).mono ?_
    rintro e w4 ⟨rfl, hb4⟩
    have HR4 := hide (HR2.out.keep hb4 HR2.out.lt)
    have HA4 := hide (HA2.out.keep hb4 HA2.out.lt)
    have HC4 := hide (HC2.out.trans (hb4.mono HC2.out.size))
    clear hb4 a0 a1 a2 b0 b1 b2
    obtain ⟨a0, a1, a2, _⟩ := HA4.out
    obtain ⟨d0, d1, d2, g0, g1, g2⟩ := HR4.out
    go_wp2_with fail
    refine bodyPost_ret (results_rat rfl _ rfl (HR4.out.set3 _ _ _)) rfl ?_
    exact ⟨rfl, below_set3 HC4.out (by omega) _ _ _⟩
set_option maxHeartbeats 4000000 in
set_option maxRecDepth 100000 in
theorem rmin_any (n : Bool) (a d : ByteArray) (n' : Bool) (a' d' : ByteArray) (w : World) (k : Nat) (ha : a.size ≤ k) (hd : d.size ≤ k) (ha' : a'.size ≤ k) (hd' : d'.size ≤ k) (hk : 1 ≤ k) (hk2 : k ≤ 40000) :
    Calls Tryz.prog 52 #[.agg #[.bool n, .string a, .string d], .agg #[.bool n', .string a', .string d']] w (RPost (minQ (fixQ n a.data.toList d.data.toList) (fixQ n' a'.data.toList d'.data.toList)) w) := by
  have hl := lt_raw (n := n) ha hd hk
  have hl' := lt_raw (n := n') ha' hd' hk
  have HC := Lib.hid (fun W v => fix_in n a d _ rfl W v (by omega) (by omega))
  have HC' := Lib.hid (fun W v => fix_in n' a' d' _ rfl W v (by omega) (by omega))
  generalize fixQ n a.data.toList d.data.toList = q at *
  generalize fixQ n' a'.data.toList d'.data.toList = q' at *
  have HS := Lib.hid (fun W (v : Qin.In (Below W.heap.size W)) => q_in (rlesser_q q q' v.val k hl hl' hk2))
  generalize minQ q q' = r at *
  unfold RPost
  rw [enc_open]
  clear hl hl'
  obtain ⟨W0, W1, W2, hW0, hW1, hW2, hs0, hs1, HA2, HB2, HR2, HC2, hsz⟩ := start3 w (.bool n) (.string a) (.string d) (.bool n') (.string a') (.string d')
  go_enter Tryz.func52, Tryz.ntmps52
  go_wp2_with fail
  obtain ⟨k0, k1, k2⟩ := HA2.out.kin
  obtain ⟨l0, l1, l2⟩ := HB2.out.kin
  refine Qtl.region (I := Below W2.heap.size W2) 5 (Qin.start _ _) (by kernel_rfl) (by kernel_rfl) ?_
  simp only [List.take_succ_cons, List.take_zero, List.drop_succ_cons, List.drop_zero]
  repeat (go_big_quiet_step ((first | (go_at_call 22; first | (with_reducible exact HC.out _ _) | (with_reducible exact HC'.out _ _)) | (go_at_call 101; with_reducible exact HS.out _ _))))
  refine wpQuiet_nil ?_
  intro v
  clear k0 k1 k2 l0 l1 l2
  have HR5 := hide (HR2.out.keep v.ok HR2.out.lt)
  have HC5 := hide (HC2.out.trans (v.ok.mono HC2.out.size))
  obtain ⟨d0, d1, d2, g0, g1, g2⟩ := HR5.out
  go_wp2_with fail
  refine bodyPost_ret (results_rat rfl _ rfl (HR5.out.set3 _ _ _)) rfl ?_
  exact ⟨rfl, below_set3 HC5.out (by omega) _ _ _⟩
set_option maxHeartbeats 4000000 in
set_option maxRecDepth 100000 in
theorem rmax_any (n : Bool) (a d : ByteArray) (n' : Bool) (a' d' : ByteArray) (w : World) (k : Nat) (ha : a.size ≤ k) (hd : d.size ≤ k) (ha' : a'.size ≤ k) (hd' : d'.size ≤ k) (hk : 1 ≤ k) (hk2 : k ≤ 40000) :
    Calls Tryz.prog 54 #[.agg #[.bool n, .string a, .string d], .agg #[.bool n', .string a', .string d']] w (RPost (maxQ (fixQ n a.data.toList d.data.toList) (fixQ n' a'.data.toList d'.data.toList)) w) := by
  have hl := lt_raw (n := n) ha hd hk
  have hl' := lt_raw (n := n') ha' hd' hk
  have HC := Lib.hid (fun W v => fix_in n a d _ rfl W v (by omega) (by omega))
  have HC' := Lib.hid (fun W v => fix_in n' a' d' _ rfl W v (by omega) (by omega))
  generalize fixQ n a.data.toList d.data.toList = q at *
  generalize fixQ n' a'.data.toList d'.data.toList = q' at *
  have HS := Lib.hid (fun W (v : Qin.In (Below W.heap.size W)) => q_in (rgreater_q q q' v.val k hl hl' hk2))
  generalize maxQ q q' = r at *
  unfold RPost
  rw [enc_open]
  clear hl hl'
  obtain ⟨W0, W1, W2, hW0, hW1, hW2, hs0, hs1, HA2, HB2, HR2, HC2, hsz⟩ := start3 w (.bool n) (.string a) (.string d) (.bool n') (.string a') (.string d')
  go_enter Tryz.func54, Tryz.ntmps54
  go_wp2_with fail
  obtain ⟨k0, k1, k2⟩ := HA2.out.kin
  obtain ⟨l0, l1, l2⟩ := HB2.out.kin
  refine Qtl.region (I := Below W2.heap.size W2) 5 (Qin.start _ _) (by kernel_rfl) (by kernel_rfl) ?_
  simp only [List.take_succ_cons, List.take_zero, List.drop_succ_cons, List.drop_zero]
  repeat (go_big_quiet_step ((first | (go_at_call 22; first | (with_reducible exact HC.out _ _) | (with_reducible exact HC'.out _ _)) | (go_at_call 102; with_reducible exact HS.out _ _))))
  refine wpQuiet_nil ?_
  intro v
  clear k0 k1 k2 l0 l1 l2
  have HR5 := hide (HR2.out.keep v.ok HR2.out.lt)
  have HC5 := hide (HC2.out.trans (v.ok.mono HC2.out.size))
  obtain ⟨d0, d1, d2, g0, g1, g2⟩ := HR5.out
  go_wp2_with fail
  refine bodyPost_ret (results_rat rfl _ rfl (HR5.out.set3 _ _ _)) rfl ?_
  exact ⟨rfl, below_set3 HC5.out (by omega) _ _ _⟩
theorem signum_in (q : Rat) (W : World) (v : Qin.In (Below W.heap.size W)) : Calls Tryz.prog 100 #[.agg #[.bool (negB q), .string (bs (nm q)), .string (dstr q)]] v.val fun e w' => e = .returned (.int .i64 (sgnQ q)) ∧ ∃ y : Qin.In (Below W.heap.size W), w' = y.val :=
  Qin.call ((rsignum_q q v.val).mono fun _ _ ⟨h1, h2⟩ => ⟨h1, v.ok.trans (h2.mono v.ok.size)⟩)
set_option maxHeartbeats 4000000 in
set_option maxRecDepth 100000 in
theorem rcmp_any (n : Bool) (a d : ByteArray) (n' : Bool) (a' d' : ByteArray) (w : World) (k : Nat) (ha : a.size ≤ k) (hd : d.size ≤ k) (ha' : a'.size ≤ k) (hd' : d'.size ≤ k) (hk : 1 ≤ k) (hk2 : k ≤ 40000) :
    Calls Tryz.prog 50 #[.agg #[.bool n, .string a, .string d], .agg #[.bool n', .string a', .string d']] w fun e w' => e = .returned (.int .i64 (cmpQ (fixQ n a.data.toList d.data.toList) (fixQ n' a'.data.toList d'.data.toList))) ∧ Below w.heap.size w w' := by
  have hl := lt_raw (n := n) ha hd hk
  have hl' := lt_raw (n := n') ha' hd' hk
  have HC := Lib.hid (fun W v => fix_in n a d _ rfl W v (by omega) (by omega))
  have HC' := Lib.hid (fun W v => fix_in n' a' d' _ rfl W v (by omega) (by omega))
  generalize fixQ n a.data.toList d.data.toList = q at *
  generalize fixQ n' a'.data.toList d'.data.toList = q' at *
  have HM := Lib.hid (fun W (v : Qin.In (Below W.heap.size W)) => q_in (rminus_q q q' v.val k hl hl' hk2))
  have HS := Lib.hid (fun W v => signum_in (q - q') W v)
  rw [sgn_sub] at HS
  generalize cmpQ q q' = c at *
  generalize q - q' = r at *
  clear hl hl'
  obtain ⟨W0, W2, hW0, hW2, hs0, HA2, HB2, HC2, hsz⟩ := startb w (.bool n) (.string a) (.string d) (.bool n') (.string a') (.string d')
  go_enter Tryz.func50, Tryz.ntmps50
  go_wp2_with fail
  obtain ⟨k0, k1, k2⟩ := HA2.out.kin
  obtain ⟨l0, l1, l2⟩ := HB2.out.kin
  refine Qin.region (I := Below W2.heap.size W2) (Qin.start _ _) (by kernel_rfl) (by kernel_rfl) ?_
  repeat (go_big_quiet_step ((first | (go_at_call 22; first | (with_reducible exact HC.out _ _) | (with_reducible exact HC'.out _ _)) | (go_at_call 95; with_reducible exact HM.out _ _) | (go_at_call 100; with_reducible exact HS.out _ _))))
  refine wpQuiet_nil ?_
  intro v
  have hbf := HC2.out.trans (v.ok.mono HC2.out.size)
  clear k0 k1 k2 l0 l1 l2
  go_wp2_with fail
  go_ret
  exact ⟨rfl, hbf⟩
set_option maxHeartbeats 4000000 in
set_option maxRecDepth 100000 in
theorem rdiv_any (n : Bool) (a d : ByteArray) (n' : Bool) (a' d' : ByteArray) (w : World) (k : Nat) (ha : a.size ≤ k) (hd : d.size ≤ k) (ha' : a'.size ≤ k) (hd' : d'.size ≤ k) (hk : 1 ≤ k) (hk2 : k ≤ 40000) :
    Calls Tryz.prog 30 #[.agg #[.bool n, .string a, .string d], .agg #[.bool n', .string a', .string d']] w (RBPost (divQ (fixQ n a.data.toList d.data.toList) (fixQ n' a'.data.toList d'.data.toList)) w) := by
  have hl := lt_raw (n := n) ha hd hk
  have hl' := lt_raw (n := n') ha' hd' hk
  have HC := Lib.hid (fun W v => fix_in n a d _ rfl W v (by omega) (by omega))
  have HC' := Lib.hid (fun w => rfix_any n' a' d' w (by omega) (by omega))
  generalize fixQ n a.data.toList d.data.toList = q at *
  generalize fixQ n' a'.data.toList d'.data.toList = q' at *
  rw [enc_open] at HC'
  unfold RBPost
  obtain ⟨W0, W1, W2, hW0, hW1, hW2, hs0, hs1, HA2, HB2, HR2, HC2, hsz⟩ := start3 w (.bool n) (.string a) (.string d) (.bool n') (.string a') (.string d')
  obtain ⟨b0, b1, b2, _⟩ := HB2.out
  have HGO : Hid (nm q' ≠ 0 → ∀ W (v : Qin.In (Below W.heap.size W)), Calls Tryz.prog 87 #[.agg #[.bool (negB q), .string (bs (nm q)), .string (dstr q)], .agg #[.bool (negB q'), .string (bs (nm q')), .string (dstr q')]] v.val fun e w' => e = .returned (.agg #[.bool (negB (q / q')), .string (bs (nm (q / q'))), .string (dstr (q / q'))]) ∧ ∃ y : Qin.In (Below W.heap.size W), w' = y.val) := fun h W v => q_in (rover_q q q' v.val k hl hl' hk2 h)
  clear hl hl'
  go_enter Tryz.func30, Tryz.ntmps30
  go_wp2_with fail
  refine (HC'.out _).mono ?_
  rintro e w3 ⟨rfl, hb3⟩
  have HA3 := hide (HA2.out.keep hb3 HA2.out.lt)
  have HB3 := hide (HB2.out.keep hb3 HB2.out.lt)
  have HR3 := hide (HR2.out.keep hb3 HR2.out.lt)
  have HC3 := hide (HC2.out.trans (hb3.mono HC2.out.size))
  clear hb3 b0 b1 b2 hW0 hW1 hW2 HA2 HB2 HR2 HC2
  have HA4 := hide (HA3.out.other3 (j := w.heap.size + 1) (by omega) (.bool (negB q')) (.string (bs (nm q'))) (.string (dstr q')))
  have HB4 := hide (HB3.out.set3 (.bool (negB q')) (.string (bs (nm q'))) (.string (dstr q')))
  have HR4 := hide (HR3.out.other3 (j := w.heap.size + 1) (by omega) (.bool (negB q')) (.string (bs (nm q'))) (.string (dstr q')))
  have HC4 := hide (below_set3 (k := w.heap.size + 1) HC3.out (by omega) (.bool (negB q')) (.string (bs (nm q'))) (.string (dstr q')))
  obtain ⟨b0, b1, b2, f0, f1, f2⟩ := HB3.out
  obtain ⟨V, hV⟩ : ∃ V, (((w3.setCell ⟨w.heap.size + 1, 0, none⟩ (.bool (negB q'))).setCell ⟨w.heap.size + 1, 1, none⟩ (.string (bs (nm q')))).setCell ⟨w.heap.size + 1, 2, none⟩ (.string (dstr q'))) = V := ⟨_, rfl⟩
  rw [hV] at HA4 HB4 HR4 HC4
  obtain ⟨d0, d1, d2, _⟩ := HB4.out
  obtain ⟨p0, p1, p2, p3, p4, p5⟩ := HR4.out
  by_cases h0 : nm q' = 0
  · have hz : Hid (divQ q q' = (0, false)) := by show _ = _; unfold divQ; rw [if_pos (nm_zero.1 h0)]
    obtain ⟨e1, e2⟩ := str_em (s := bs (nm q')) (by rw [h0, bs0]; rfl)
    clear h0 HGO
    go_wp2_with fail
    refine bodyPost_ret (results_rat2 rfl _ rfl (HR4.out.set3 _ _ _)) rfl ?_
    refine ⟨?_, below_set3 HC4.out (by omega) _ _ _⟩
    rw [hz.out, enc_zero_val]; rfl
  · have hz : Hid (divQ q q' = (q / q', true)) := by show _ = _; unfold divQ; rw [if_neg (fun e => h0 (nm_zero.2 e))]
    obtain ⟨e1, e2⟩ := str_ne (bytes_ne_nil h0)
    have HOV := Lib.hid (HGO.out h0)
    have hfin : Hid (enc (q / q') = .agg #[.bool (negB (q / q')), .string (bs (nm (q / q'))), .string (dstr (q / q'))]) := enc_open _
    clear h0 HGO
    generalize q / q' = r at *
    have HV := hide hV
    clear hV
    go_wp2_with fail
    rw [HV.out]
    clear b0 b1 b2 f0 f1 f2 d0 d1 d2 p0 p1 p2 p3 p4 p5 HA3 HB3 HR3 HC3 HV
    obtain ⟨k0, k1, k2⟩ := HA4.out.kin
    obtain ⟨l0, l1, l2⟩ := HB4.out.kin
    refine Qtl.region (I := Below V.heap.size V) 4 (Qin.start _ _) (by kernel_rfl) (by kernel_rfl) ?_
    simp only [List.take_succ_cons, List.take_zero, List.drop_succ_cons, List.drop_zero]
    repeat (go_big_quiet_step ((first | (go_at_call 22; with_reducible exact HC.out _ _) | (go_at_call 87; with_reducible exact HOV.out _ _))))
    refine wpQuiet_nil ?_
    intro v
    clear k0 k1 k2 l0 l1 l2
    have HR5 := hide (HR4.out.keep v.ok HR4.out.lt)
    have HC5 := hide (HC4.out.trans (v.ok.mono HC4.out.size))
    obtain ⟨d0, d1, d2, g0, g1, g2⟩ := HR5.out
    go_wp2_with fail
    refine bodyPost_ret (results_rat2 rfl _ rfl (HR5.out.set3 _ _ _)) rfl ?_
    refine ⟨?_, below_set3 HC5.out (by omega) _ _ _⟩
    rw [hz.out]
    exact congrArg (fun x => Ending.returned (.tuple #[x, .bool true])) hfin.out.symm
end Go.Proofs.YthppojbabkljpaaGreatDoor.RtJ
