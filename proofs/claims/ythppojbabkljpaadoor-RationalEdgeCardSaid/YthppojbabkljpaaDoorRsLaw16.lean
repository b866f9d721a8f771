/- The walk of the law RationalEdge. -/
import Derived.Test.YthppojbabkljpaaDoorRsU
namespace Go.Proofs.YthppojbabkljpaaDoor.RsLaw16
theorem here : True := trivial
open Go.RowKit RnA RnB RnS RnC RnK RnM RnL RnN RnD RnE RnQ RnR RnG RnP RnW RnX RoA RoB RoC RoD RoE RoF RoG RoH RoI RoJ RoK RoL RoM RoN PnA PnB PnC PnD PnE PnF PnG PnH PnI PnJ PnK PnL RtA RtB RtC RtD RtE RtG RtH RtI RtJ RpA RpB RpC RpD RpE RpF RpG RpH RnY RpI RpJ RpK RpL RsX RsY RsW RsV RsU
theorem int64_cast (z : Int) : int64Q ((z : Int) : Rat) = if In64 z then (z, true) else (0, false) := by
  unfold int64Q
  have h1 : ((z : Int) : Rat).den = 1 := by simp
  have h2 : ((z : Int) : Rat).num = z := by simp
  rw [h2]
  by_cases h : In64 z
  · rw [if_pos ⟨h1, h⟩, if_pos h]
  · rw [if_neg (fun e => h e.2), if_neg h]
theorem edge_in {z m : Int} (hz : z = m) (h : In64 m) : int64Q ((z : Int) : Rat) = (m, true) := by rw [hz, int64_cast, if_pos h]
theorem edge_out {z : Int} (h : ¬ In64 z) : int64Q ((z : Int) : Rat) = (0, false) := by rw [int64_cast, if_neg h]
theorem edge_add (m n : Int) : intQ m + intQ n = ((m + n : Int) : Rat) := by rw [intQ_eq, intQ_eq, Rat.intCast_add]
theorem edge_sub (m n : Int) : intQ m - intQ n = ((m - n : Int) : Rat) := by rw [intQ_eq, intQ_eq, Rat.intCast_sub]
theorem lt_cast {z : Int} {k : Nat} (h : z.natAbs < 256 ^ k) (hk : 1 ≤ k) : Lt ((z : Int) : Rat) k := by
  constructor
  · unfold nm
    have h2 : ((z : Int) : Rat).num = z := by simp
    rw [h2]; exact h
  · have h1 : ((z : Int) : Rat).den = 1 := by simp
    rw [h1]
    exact Nat.lt_of_lt_of_le (by decide : 1 < 256 ^ 1) (pow_mono hk)
set_option maxHeartbeats 8000000 in
set_option maxRecDepth 100000 in
theorem edge_law (xk : Int) (w : World) (hk : 0 ≤ xk ∧ xk ≤ 255) (he : Env w) :
    Calls Tryd.prog 5 #[.int .u8 xk] w fun e w' => e = .returned (.bool true) ∧ Below w.heap.size w w' := by
  have HAW := Lib.hid (fun w (h : Env w) => awake_any w h)
  obtain ⟨K, hK⟩ : ∃ K : Int, xk % 4 = K := ⟨_, rfl⟩
  have hK1 : 0 ≤ K ∧ K ≤ 3 := by omega
  have I1 := Lib.hid (int_s (m := 1) ⟨by decide, by decide⟩ rfl)
  have I2 := Lib.hid (int_s (m := 9223372036854775807) ⟨by decide, by decide⟩ rfl)
  have I3 := Lib.hid (int_s (m := -9223372036854775808) ⟨by decide, by decide⟩ rfl)
  have I4 := Lib.hid (int_s (m := K) ⟨by omega, by omega⟩ rfl)
  have S1 := Sm.enc (lt_int (n := 1) ⟨by decide, by decide⟩) (by decide)
  have S2 := Sm.enc (lt_int (n := 9223372036854775807) ⟨by decide, by decide⟩) (by decide)
  have S3 := Sm.enc (lt_int (n := -9223372036854775808) ⟨by decide, by decide⟩) (by decide)
  have S4 := Sm.enc (lt_int (n := K) ⟨by omega, by omega⟩) (by decide)
  have big : ∀ z : Int, -9223372036854775820 ≤ z → z ≤ 9223372036854775820 → Lt ((z : Int) : Rat) 9 := fun z z1 z2 => lt_cast (Nat.lt_of_lt_of_le (show z.natAbs < 18446744073709551616 by omega) (by decide)) (by decide)
  have A1 := Lib.hid (sub_s S2 S4 (edge_sub 9223372036854775807 K))
  have A2 := Lib.hid (add_s S3 S4 (edge_add (-9223372036854775808) K))
  have A3 := Lib.hid (add_s S2 S1 (edge_add 9223372036854775807 1))
  have A5 := Lib.hid (sub_s S3 S1 (edge_sub (-9223372036854775808) 1))
  have hs1 : (((9223372036854775807 + 1 : Int)) : Rat) + intQ K = ((9223372036854775807 + 1 + K : Int) : Rat) := by rw [intQ_eq, ← Rat.intCast_add]
  have hs2 : (((-9223372036854775808 - 1 : Int)) : Rat) - intQ K = ((-9223372036854775808 - 1 - K : Int) : Rat) := by rw [intQ_eq, ← Rat.intCast_sub]
  have A4 := Lib.hid (add_s (Sm.enc (big (9223372036854775807 + 1) (by omega) (by omega)) (by decide)) S4 hs1)
  have A6 := Lib.hid (sub_s (Sm.enc (big (-9223372036854775808 - 1) (by omega) (by omega)) (by decide)) S4 hs2)
  have Q1 := Lib.hid (i64_s (Sm.enc (big (9223372036854775807 - K) (by omega) (by omega)) (by decide)) (edge_in rfl ⟨by omega, by omega⟩))
  have Q2 := Lib.hid (i64_s (Sm.enc (big (-9223372036854775808 + K) (by omega) (by omega)) (by decide)) (edge_in rfl ⟨by omega, by omega⟩))
  have Q3 := Lib.hid (i64_s (Sm.enc (big (9223372036854775807 + 1 + K) (by omega) (by omega)) (by decide)) (edge_out (by unfold In64; omega)))
  have Q4 := Lib.hid (i64_s (Sm.enc (big (-9223372036854775808 - 1 - K) (by omega) (by omega)) (by decide)) (edge_out (by unfold In64; omega)))
  generalize (((9223372036854775807 - K : Int)) : Rat) = r1 at *
  generalize (((-9223372036854775808 + K : Int)) : Rat) = r2 at *
  generalize (((9223372036854775807 + 1 + K : Int)) : Rat) = r4 at *
  generalize (((-9223372036854775808 - 1 - K : Int)) : Rat) = r6 at *
  generalize (((9223372036854775807 + 1 : Int)) : Rat) = r3 at *
  generalize (((-9223372036854775808 - 1 : Int)) : Rat) = r5 at *
  generalize intQ 1 = q1 at *
  generalize intQ 9223372036854775807 = q2 at *
  generalize intQ (-9223372036854775808) = q3 at *
  generalize intQ K = q4 at *
  have A3V := Lib.hid (fun W (v : Qin.In (Below W.heap.size W)) => v_in (A3.out v.val))
  have A4V := Lib.hid (fun W (v : Qin.In (Below W.heap.size W)) => v_in (A4.out v.val))
  have A5V := Lib.hid (fun W (v : Qin.In (Below W.heap.size W)) => v_in (A5.out v.val))
  have A6V := Lib.hid (fun W (v : Qin.In (Below W.heap.size W)) => v_in (A6.out v.val))
  have Q3V := Lib.hid (fun W (v : Qin.In (Below W.heap.size W)) => v_in (Q3.out v.val))
  have Q4V := Lib.hid (fun W (v : Qin.In (Below W.heap.size W)) => v_in (Q4.out v.val))
  have HE := hide he
  clear S1 S2 S3 S4 big hs1 hs2 he
  go_enter Tryd.func5, Tryd.ntmps5
  go_wp2_with fail
  refine (I1.out _).mono ?_
  rintro e w1 ⟨rfl, hb1⟩
  obtain ⟨V2, hV2, HX2, hc2, hl2⟩ := box_new w1 (.bool (negB q1)) (.string (bs (nm q1))) (.string (dstr q1))
  have hd2 := hb1.trans (hc2.mono hb1.size)
  have HC := hide hd2
  clear hb1 hc2 hd2
  go_wp2_with fail
  refine (I2.out _).mono ?_
  rintro e w3 ⟨rfl, hb3⟩
  obtain ⟨V4, hV4, HX4, hc4, hl4⟩ := box_new w3 (.bool (negB q2)) (.string (bs (nm q2))) (.string (dstr q2))
  have hd4 := hb3.trans (hc4.mono hb3.size)
  replace HX2 := hide (HX2.out.keep hd4 HX2.out.lt)
  replace HC := hide (HC.out.trans (hd4.mono HC.out.size))
  clear hb3 hc4 hd4
  go_wp2_with fail
  refine (I3.out _).mono ?_
  rintro e w5 ⟨rfl, hb5⟩
  obtain ⟨V6, hV6, HX6, hc6, hl6⟩ := box_new w5 (.bool (negB q3)) (.string (bs (nm q3))) (.string (dstr q3))
  have hd6 := hb5.trans (hc6.mono hb5.size)
  replace HX2 := hide (HX2.out.keep hd6 HX2.out.lt)
  replace HX4 := hide (HX4.out.keep hd6 HX4.out.lt)
  replace HC := hide (HC.out.trans (hd6.mono HC.out.size))
  clear hb5 hc6 hd6
  go_wp2_with fail
  refine (I4.out _).mono ?_
  rintro e w7 ⟨rfl, hb7⟩
  obtain ⟨V8, hV8, HX8, hc8, hl8⟩ := box_new w7 (.bool (negB q4)) (.string (bs (nm q4))) (.string (dstr q4))
  have hd8 := hb7.trans (hc8.mono hb7.size)
  replace HX2 := hide (HX2.out.keep hd8 HX2.out.lt)
  replace HX4 := hide (HX4.out.keep hd8 HX4.out.lt)
  replace HX6 := hide (HX6.out.keep hd8 HX6.out.lt)
  replace HC := hide (HC.out.trans (hd8.mono HC.out.size))
  clear hb7 hc8 hd8
  obtain ⟨c00, c01, c02, _⟩ := HX4.out
  obtain ⟨c10, c11, c12, _⟩ := HX8.out
  go_wp2_with fail
  refine (A1.out _).mono ?_
  rintro e w9 ⟨rfl, hb9⟩
  replace HX2 := hide (HX2.out.keep hb9 HX2.out.lt)
  replace HX4 := hide (HX4.out.keep hb9 HX4.out.lt)
  replace HX6 := hide (HX6.out.keep hb9 HX6.out.lt)
  replace HX8 := hide (HX8.out.keep hb9 HX8.out.lt)
  replace HC := hide (HC.out.trans (hb9.mono HC.out.size))
  clear hb9
  clear c00 c01 c02 c10 c11 c12
  go_wp2_with fail
  refine (Q1.out _).mono ?_
  rintro e w10 ⟨rfl, hb10⟩
  replace HX2 := hide (HX2.out.keep hb10 HX2.out.lt)
  replace HX4 := hide (HX4.out.keep hb10 HX4.out.lt)
  replace HX6 := hide (HX6.out.keep hb10 HX6.out.lt)
  replace HX8 := hide (HX8.out.keep hb10 HX8.out.lt)
  replace HC := hide (HC.out.trans (hb10.mono HC.out.size))
  clear hb10
  obtain ⟨c00, c01, c02, _⟩ := HX6.out
  obtain ⟨c10, c11, c12, _⟩ := HX8.out
  go_wp2_with fail
  refine (A2.out _).mono ?_
  rintro e w11 ⟨rfl, hb11⟩
  replace HX2 := hide (HX2.out.keep hb11 HX2.out.lt)
  replace HX4 := hide (HX4.out.keep hb11 HX4.out.lt)
  replace HX6 := hide (HX6.out.keep hb11 HX6.out.lt)
  replace HX8 := hide (HX8.out.keep hb11 HX8.out.lt)
  replace HC := hide (HC.out.trans (hb11.mono HC.out.size))
  clear hb11
  clear c00 c01 c02 c10 c11 c12
  go_wp2_with fail
  refine (Q2.out _).mono ?_
  rintro e w12 ⟨rfl, hb12⟩
  replace HX2 := hide (HX2.out.keep hb12 HX2.out.lt)
  replace HX4 := hide (HX4.out.keep hb12 HX4.out.lt)
  replace HX6 := hide (HX6.out.keep hb12 HX6.out.lt)
  replace HX8 := hide (HX8.out.keep hb12 HX8.out.lt)
  replace HC := hide (HC.out.trans (hb12.mono HC.out.size))
  clear hb12
  go_wp2_with fail
  obtain ⟨k0, k1, k2⟩ := HX2.out.kin
  obtain ⟨l0, l1, l2⟩ := HX4.out.kin
  obtain ⟨m0, m1, m2⟩ := HX6.out.kin
  obtain ⟨p0, p1, p2⟩ := HX8.out.kin
  refine Qin.region (I := Below w12.heap.size w12) (Qin.start _ w12) (by kernel_rfl) (by kernel_rfl) ?_
  repeat (go_big_quiet_step ((first | (go_at_call 16; first | (with_reducible exact A3V.out _ _) | (with_reducible exact A4V.out _ _)) | (go_at_call 14; first | (with_reducible exact Q3V.out _ _)))))
  refine wpQuiet_nil ?_
  intro v
  clear k0 k1 k2 l0 l1 l2 m0 m1 m2 p0 p1 p2
  replace HX2 := hide (HX2.out.keep v.ok HX2.out.lt)
  replace HX4 := hide (HX4.out.keep v.ok HX4.out.lt)
  replace HX6 := hide (HX6.out.keep v.ok HX6.out.lt)
  replace HX8 := hide (HX8.out.keep v.ok HX8.out.lt)
  replace HC := hide (HC.out.trans (v.ok.mono HC.out.size))
  obtain ⟨w13, hn⟩ : ∃ u, v.val = u := ⟨_, rfl⟩
  rw [hn] at HC HX2 HX4 HX6 HX8 ⊢
  clear hn v
  go_wp2_with fail
  obtain ⟨k0, k1, k2⟩ := HX2.out.kin
  obtain ⟨l0, l1, l2⟩ := HX4.out.kin
  obtain ⟨m0, m1, m2⟩ := HX6.out.kin
  obtain ⟨p0, p1, p2⟩ := HX8.out.kin
  refine Qin.region (I := Below w13.heap.size w13) (Qin.start _ w13) (by kernel_rfl) (by kernel_rfl) ?_
  repeat (go_big_quiet_step ((first | (go_at_call 15; first | (with_reducible exact A5V.out _ _) | (with_reducible exact A6V.out _ _)) | (go_at_call 14; first | (with_reducible exact Q4V.out _ _)))))
  refine wpQuiet_nil ?_
  intro v
  clear k0 k1 k2 l0 l1 l2 m0 m1 m2 p0 p1 p2
  replace HX2 := hide (HX2.out.keep v.ok HX2.out.lt)
  replace HX4 := hide (HX4.out.keep v.ok HX4.out.lt)
  replace HX6 := hide (HX6.out.keep v.ok HX6.out.lt)
  replace HX8 := hide (HX8.out.keep v.ok HX8.out.lt)
  replace HC := hide (HC.out.trans (v.ok.mono HC.out.size))
  obtain ⟨w14, hn⟩ : ∃ u, v.val = u := ⟨_, rfl⟩
  rw [hn] at HC HX2 HX4 HX6 HX8 ⊢
  clear hn v
  have heZ := hide (HE.out.below HC.out)
  have HAWZ := hide (HAW.out _ heZ.out)
  go_wp2_with fail
  refine HAWZ.out.mono ?_
  rintro e wZ ⟨rfl, hbZ⟩
  have hbf := HC.out.trans (hbZ.mono HC.out.size)
  clear hbZ
  go_wp2_with fail
  go_ret
  exact ⟨rfl, hbf⟩
end Go.Proofs.YthppojbabkljpaaDoor.RsLaw16
