/- The walks of the program's Compare, Min, Max, Int64, Sum. -/
import Derived.Test.YthppojbabkljpaaGreatDoorRpK
namespace Go.Proofs.YthppojbabkljpaaGreatDoor.RpL
open Go.RowKit RnA RnB RnS RnC RnK RnM RnL RnN RnD RnE RnQ RnR RnG RnP RnW RnX RoA RoB RoC RoD RoE RoF RoG RoH RoI RoJ RoK RoL RoM RoN PnA PnB PnC PnD PnE PnF PnG PnH PnI PnJ PnK PnL RtA RtB RtC RpA RpB RpC RpD RpE RpF RpG RpH RnY RpI RpJ RpK
theorem startb (w : World) (x y z x' y' z' : Value) : ∃ W0 W1, w.alloc (.cells #[x, y, z] 24) = W0 ∧ W0.alloc (.cells #[x', y', z'] 24) = W1 ∧
    W0.heap.size = w.heap.size + 1 ∧ Hid (Bx W1 w.heap.size x y z) ∧ Hid (Bx W1 (w.heap.size + 1) x' y' z') ∧ Hid (Below w.heap.size w W1) ∧ w.heap.size + 1 < W1.heap.size := by
  have hB0 := (Below.refl w.heap.size w).alloc (Nat.le_refl _) (.cells #[x, y, z] 24)
  have hX0 := Bx.new w x y z 24
  have hs : (w.alloc (.cells #[x, y, z] 24)).heap.size = w.heap.size + 1 := by simp
  generalize w.alloc (.cells #[x, y, z] 24) = W0 at *
  obtain ⟨W1, h1, HY, hb, hl⟩ := box_new W0 x' y' z'
  rw [hs] at HY
  exact ⟨W0, W1, rfl, h1, hs, hX0.keep hb (by omega), HY, hB0.trans (hb.mono (by omega)), by omega⟩
theorem two_setb {w W : World} {B k j : Nat} {x0 y0 z0 x1 y1 z1 : Value} (hA : Bx W k x0 y0 z0) (hB : Bx W j x1 y1 z1) (hb : Below B w W) (hkj : k ≠ j) (hk : B ≤ k) (hj : B ≤ j) (x y z x' y' z' : Value) :
    ∃ V, ((((((W.setCell ⟨k, 0, none⟩ x).setCell ⟨k, 1, none⟩ y).setCell ⟨k, 2, none⟩ z).setCell ⟨j, 0, none⟩ x').setCell ⟨j, 1, none⟩ y').setCell ⟨j, 2, none⟩ z') = V ∧
      Hid (Bx V k x y z) ∧ Hid (Bx V j x' y' z') ∧ Hid (Below B w V) :=
  ⟨_, rfl, (hA.set3 x y z).other3 hkj x' y' z', (hB.other3 (Ne.symm hkj) x y z).set3 x' y' z', below_set3 (below_set3 hb hk x y z) hj x' y' z'⟩
theorem signof_in (q : Rat) (W : World) (v : Qin.In (Below W.heap.size W)) : Calls Tryz.prog 98 #[.agg #[.bool (negB q), .string (bs (nm q)), .string (dstr q)]] v.val fun e w' => e = .returned (.int .i64 (sgnQ q)) ∧ ∃ y : Qin.In (Below W.heap.size W), w' = y.val :=
  Qin.call ((signof_any q v.val).mono fun _ _ ⟨h1, h2⟩ => ⟨h1, v.ok.trans (h2.mono v.ok.size)⟩)
theorem compareq_in (x y : Nat) (W : World) (v : Qin.In (Below W.heap.size W)) (hx : (bs x).size ≤ 100000) (hy : (bs y).size ≤ 100000) : Calls Tryz.prog 99 #[.string (bs x), .string (bs y)] v.val fun e w' => e = .returned (.int .i64 (cmpN x y)) ∧ ∃ y : Qin.In (Below W.heap.size W), w' = y.val := by
  have h := compare_any (bs x) (bs y) v.val (by omega) (by omega)
  rw [nv_bs, nv_bs] at h
  exact Qin.call (h.mono fun _ _ ⟨h1, h2⟩ => ⟨h1, v.ok.trans (h2.mono v.ok.size)⟩)
theorem cmpN_bd (x y : Nat) : -1 ≤ cmpN x y ∧ cmpN x y ≤ 1 := by unfold cmpN; split <;> (try split) <;> omega
theorem sgnQ_bd (q : Rat) : -1 ≤ sgnQ q ∧ sgnQ q ≤ 1 := by rw [sgnQ_eq]; split <;> (try split) <;> omega
theorem cmp_neg {a b : Rat} (h : sgnQ a = sgnQ b) (hn : negB a = true) : cmpQ a b = -cmpN (nm a * b.den) (nm b * a.den) := by
  rw [cmpQ_same a b h, if_pos hn]; unfold cmpN; omega
theorem cmp_pos {a b : Rat} (h : sgnQ a = sgnQ b) (hn : negB a = false) : cmpQ a b = cmpN (nm a * b.den) (nm b * a.den) := by
  rw [cmpQ_same a b h, if_neg (by rw [hn]; exact Bool.false_ne_true)]; unfold cmpN; omega
set_option maxHeartbeats 4000000 in
set_option maxRecDepth 100000 in
theorem pcmp_any (n : Bool) (a d : ByteArray) (n' : Bool) (a' d' : ByteArray) (w : World) (k : Nat) (ha : a.size ≤ k) (hd : d.size ≤ k) (ha' : a'.size ≤ k) (hd' : d'.size ≤ k) (hk : 1 ≤ k) (hk2 : k ≤ 40000) :
    Calls Tryz.prog 47 #[.agg #[.bool n, .string a, .string d], .agg #[.bool n', .string a', .string d']] w fun e w' => e = .returned (.int .i64 (cmpQ (fixQ n a.data.toList d.data.toList) (fixQ n' a'.data.toList d'.data.toList))) ∧ Below w.heap.size w w' := by
  have hl := lt_raw (n := n) ha hd hk
  have hl' := lt_raw (n := n') ha' hd' hk
  have HC := Lib.hid (fun W v => clean_in n a d _ rfl W v (by omega) (by omega))
  have HC' := Lib.hid (fun W v => clean_in n' a' d' _ rfl W v (by omega) (by omega))
  generalize fixQ n a.data.toList d.data.toList = q at *
  generalize fixQ n' a'.data.toList d'.data.toList = q' at *
  have s1 := hl.num
  have s2 := hl.den
  have s3 := hl'.num
  have s4 := hl'.den
  have s5 := lt_bs.1 (mul_lt hl.1 hl'.2)
  have s6 := lt_bs.1 (mul_lt hl'.1 hl.2)
  have HDEN := Lib.hid (fun q W x => den_in q W x)
  have HMUL := Lib.hid (fun x y W v hx hy => mulq_in x y W v hx hy)
  have HSGN := Lib.hid (fun q W v => signof_in q W v)
  have HCMP := Lib.hid (fun W v => compareq_in (nm q * q'.den) (nm q' * q.den) W v (by omega) (by omega))
  have hlt : Hid (sgnQ q < sgnQ q' → cmpQ q q' = -1) := sgnQ_cmp q q'
  have hgt : Hid (sgnQ q' < sgnQ q → cmpQ q q' = 1) := sgnQ_cmp' q q'
  have hcn : Hid (sgnQ q = sgnQ q' → negB q = true → cmpQ q q' = -cmpN (nm q * q'.den) (nm q' * q.den)) := cmp_neg
  have hcp : Hid (sgnQ q = sgnQ q' → negB q = false → cmpQ q q' = cmpN (nm q * q'.den) (nm q' * q.den)) := cmp_pos
  have hb1 := sgnQ_bd q
  have hb2 := sgnQ_bd q'
  have hb3 := cmpN_bd (nm q * q'.den) (nm q' * q.den)
  generalize cmpQ q q' = R at *
  clear hl hl' s5 s6
  obtain ⟨W0, W2, hW0, hW2, hs0, HA2, HB2, HC2, hsz⟩ := startb w (.bool n) (.string a) (.string d) (.bool n') (.string a') (.string d')
  go_enter Tryz.func47, Tryz.ntmps47
  go_wp2_with fail
  obtain ⟨k0, k1, k2⟩ := HA2.out.kin
  obtain ⟨l0, l1, l2⟩ := HB2.out.kin
  refine Qtl.region (I := Below W2.heap.size W2) 4 (Qin.start _ _) (by kernel_rfl) (by kernel_rfl) ?_
  simp only [List.take_succ_cons, List.take_zero, List.drop_succ_cons, List.drop_zero]
  repeat (go_big_quiet_step ((first | (go_at_call 73; first | (with_reducible exact HC.out _ _) | (with_reducible exact HC'.out _ _)))))
  refine wpQuiet_nil ?_
  intro v
  clear k0 k1 k2 l0 l1 l2 hW0 hW2
  have HA3 := hide (HA2.out.keep v.ok HA2.out.lt)
  have HB3 := hide (HB2.out.keep v.ok HB2.out.lt)
  have HC3 := hide (HC2.out.trans (v.ok.mono HC2.out.size))
  obtain ⟨w3, hw3⟩ : ∃ w3, v.val = w3 := ⟨_, rfl⟩
  rw [hw3] at HA3 HB3 HC3 ⊢
  clear hw3 v HA2 HB2 HC2
  obtain ⟨a0, a1, a2, f0, f1, f2⟩ := HA3.out
  obtain ⟨b0, b1, b2, g0, g1, g2⟩ := HB3.out
  obtain ⟨V, hV, HA4, HB4, HC4⟩ := two_setb HA3.out HB3.out HC3.out (by omega) (by omega) (by omega) (.bool (negB q)) (.string (bs (nm q))) (.string (dstr q)) (.bool (negB q')) (.string (bs (nm q'))) (.string (dstr q'))
  have HV := hide hV
  clear hV
  go_wp2_with fail
  rw [HV.out]
  clear a0 a1 a2 f0 f1 f2 b0 b1 b2 g0 g1 g2 HA3 HB3 HC3 HV
  obtain ⟨k0, k1, k2⟩ := HA4.out.kin
  obtain ⟨l0, l1, l2⟩ := HB4.out.kin
  refine Qin.region (I := Below V.heap.size V) (Qin.start _ V) (by kernel_rfl) (by kernel_rfl) ?_
  repeat (go_big_quiet_step ((go_at_call 98; with_reducible exact HSGN.out _ _ _)))
  refine wpQuiet_nil ?_
  intro v
  have HA5 := hide (HA4.out.keep v.ok HA4.out.lt)
  have HB5 := hide (HB4.out.keep v.ok HB4.out.lt)
  have HC5 := hide (HC4.out.trans (v.ok.mono HC4.out.size))
  obtain ⟨w5, hw5⟩ : ∃ w5, v.val = w5 := ⟨_, rfl⟩
  rw [hw5] at HA5 HB5 HC5 ⊢
  clear hw5 v k0 k1 k2 l0 l1 l2 HA4 HB4 HC4
  generalize sgnQ q = s at *
  generalize sgnQ q' = t at *
  rcases (by omega : s < t ∨ t < s ∨ s = t) with h | h | h
  · have hr := hide (hlt.out h)
    go_wp2_with fail
    go_ret
    exact ⟨by rw [hr.out]; rfl, HC5.out⟩
  · have hr := hide (hgt.out h)
    go_wp2_with fail
    go_ret
    exact ⟨by rw [hr.out]; rfl, HC5.out⟩
  · subst h
    clear hlt hgt
    go_wp2_with fail
    obtain ⟨k0, k1, k2⟩ := HA5.out.kin
    obtain ⟨l0, l1, l2⟩ := HB5.out.kin
    refine Qin.region (I := Below w5.heap.size w5) (Qin.start _ w5) (by kernel_rfl) (by kernel_rfl) ?_
    repeat (go_big_quiet_step ((first | (go_at_call 77; with_reducible exact HDEN.out _ _ _) | (go_at_call 64; with_reducible exact HMUL.out _ _ _ _ (by omega) (by omega)) | (go_at_call 99; with_reducible exact HCMP.out _ _))))
    refine wpQuiet_nil ?_
    intro v
    clear k0 k1 k2 l0 l1 l2
    have HA6 := hide (HA5.out.keep v.ok HA5.out.lt)
    have HC6 := hide (HC5.out.trans (v.ok.mono HC5.out.size))
    generalize cmpN (nm q * q'.den) (nm q' * q.den) = c at *
    obtain ⟨a0, _⟩ := HA6.out
    cases hn : negB q
    · have hr := hide (hcp.out trivial hn)
      rw [hn] at a0
      go_wp2_with fail
      go_ret
      exact ⟨by rw [hr.out]; rfl, HC6.out⟩
    · have hr := hide (hcn.out trivial hn)
      rw [hn] at a0
      go_wp2_with fail
      go_ret
      exact ⟨by rw [hr.out]; rfl, HC6.out⟩
def minQ (a b : Rat) : Rat := if cmpQ a b ≤ 0 then a else b
def maxQ (a b : Rat) : Rat := if 0 ≤ cmpQ a b then a else b
set_option maxHeartbeats 4000000 in
set_option maxRecDepth 100000 in
theorem pmin_any (n : Bool) (a d : ByteArray) (n' : Bool) (a' d' : ByteArray) (w : World) (k : Nat) (ha : a.size ≤ k) (hd : d.size ≤ k) (ha' : a'.size ≤ k) (hd' : d'.size ≤ k) (hk : 1 ≤ k) (hk2 : k ≤ 40000) :
    Calls Tryz.prog 51 #[.agg #[.bool n, .string a, .string d], .agg #[.bool n', .string a', .string d']] w (RPost (minQ (fixQ n a.data.toList d.data.toList) (fixQ n' a'.data.toList d'.data.toList)) w) := by
  have HP := Lib.hid (fun w => pcmp_any n a d n' a' d' w k ha hd ha' hd' hk hk2)
  have HC := Lib.hid (fun w => clean_any n a d w (by omega) (by omega))
  have HC' := Lib.hid (fun w => clean_any n' a' d' w (by omega) (by omega))
  generalize fixQ n a.data.toList d.data.toList = q at *
  generalize fixQ n' a'.data.toList d'.data.toList = q' at *
  rw [enc_open] at HC HC'
  unfold RPost
  obtain ⟨W0, W1, W2, hW0, hW1, hW2, hs0, hs1, HA2, HB2, HR2, HC2, hsz⟩ := start3 w (.bool n) (.string a) (.string d) (.bool n') (.string a') (.string d')
  obtain ⟨a0, a1, a2, _⟩ := HA2.out
  obtain ⟨b0, b1, b2, _⟩ := HB2.out
  have hr1 : Hid (cmpQ q q' ≤ 0 → minQ q q' = q) := fun h => if_pos h
  have hr2 : Hid (¬ (cmpQ q q' ≤ 0) → minQ q q' = q') := fun h => if_neg h
  generalize minQ q q' = r at *
  rw [enc_open]
  generalize cmpQ q q' = c at *
  go_enter Tryz.func51, Tryz.ntmps51
  go_wp2_with fail
  refine (HP.out _).mono ?_
  rintro e w3 ⟨rfl, hb3⟩
  have HA3 := hide (HA2.out.keep hb3 HA2.out.lt)
  have HB3 := hide (HB2.out.keep hb3 HB2.out.lt)
  have HR3 := hide (HR2.out.keep hb3 HR2.out.lt)
  have HC3 := hide (HC2.out.trans (hb3.mono HC2.out.size))
  clear hb3 a0 a1 a2 b0 b1 b2 hW0 hW1 hW2
  by_cases hc : c ≤ 0
  · obtain rfl := hr1.out (by omega)
    clear hr1 hr2
    obtain ⟨a0, a1, a2, _⟩ := HA3.out
    go_wp2_with fail
    refine (HC.out _).mono ?_
    rintro e w4 ⟨rfl, hb4⟩
    have HR4 := hide (HR3.out.keep hb4 HR3.out.lt)
    have HC4 := hide (HC3.out.trans (hb4.mono HC3.out.size))
    obtain ⟨d0, d1, d2, g0, g1, g2⟩ := HR4.out
    go_wp2_with fail
    refine bodyPost_ret (results_rat rfl _ rfl (HR4.out.set3 _ _ _)) rfl ?_
    exact ⟨rfl, below_set3 HC4.out (by omega) _ _ _⟩
  · obtain rfl := hr2.out (by omega)
    clear hr1 hr2
    obtain ⟨b0, b1, b2, _⟩ := HB3.out
    go_wp2_with fail
    refine (HC'.out _).mono ?_
    rintro e w4 ⟨rfl, hb4⟩
    have HR4 := hide (HR3.out.keep hb4 HR3.out.lt)
    have HC4 := hide (HC3.out.trans (hb4.mono HC3.out.size))
    obtain ⟨d0, d1, d2, g0, g1, g2⟩ := HR4.out
    go_wp2_with fail
    refine bodyPost_ret (results_rat rfl _ rfl (HR4.out.set3 _ _ _)) rfl ?_
    exact ⟨rfl, below_set3 HC4.out (by omega) _ _ _⟩
set_option maxHeartbeats 4000000 in
set_option maxRecDepth 100000 in
theorem pmax_any (n : Bool) (a d : ByteArray) (n' : Bool) (a' d' : ByteArray) (w : World) (k : Nat) (ha : a.size ≤ k) (hd : d.size ≤ k) (ha' : a'.size ≤ k) (hd' : d'.size ≤ k) (hk : 1 ≤ k) (hk2 : k ≤ 40000) :
    Calls Tryz.prog 53 #[.agg #[.bool n, .string a, .string d], .agg #[.bool n', .string a', .string d']] w (RPost (maxQ (fixQ n a.data.toList d.data.toList) (fixQ n' a'.data.toList d'.data.toList)) w) := by
  have HP := Lib.hid (fun w => pcmp_any n a d n' a' d' w k ha hd ha' hd' hk hk2)
  have HC := Lib.hid (fun w => clean_any n a d w (by omega) (by omega))
  have HC' := Lib.hid (fun w => clean_any n' a' d' w (by omega) (by omega))
  generalize fixQ n a.data.toList d.data.toList = q at *
  generalize fixQ n' a'.data.toList d'.data.toList = q' at *
  rw [enc_open] at HC HC'
  unfold RPost
  obtain ⟨W0, W1, W2, hW0, hW1, hW2, hs0, hs1, HA2, HB2, HR2, HC2, hsz⟩ := start3 w (.bool n) (.string a) (.string d) (.bool n') (.string a') (.string d')
  obtain ⟨a0, a1, a2, _⟩ := HA2.out
  obtain ⟨b0, b1, b2, _⟩ := HB2.out
  have hr1 : Hid (0 ≤ cmpQ q q' → maxQ q q' = q) := fun h => if_pos h
  have hr2 : Hid (¬ (0 ≤ cmpQ q q') → maxQ q q' = q') := fun h => if_neg h
  generalize maxQ q q' = r at *
  rw [enc_open]
  generalize cmpQ q q' = c at *
  go_enter Tryz.func53, Tryz.ntmps53
  go_wp2_with fail
  refine (HP.out _).mono ?_
  rintro e w3 ⟨rfl, hb3⟩
  have HA3 := hide (HA2.out.keep hb3 HA2.out.lt)
  have HB3 := hide (HB2.out.keep hb3 HB2.out.lt)
  have HR3 := hide (HR2.out.keep hb3 HR2.out.lt)
  have HC3 := hide (HC2.out.trans (hb3.mono HC2.out.size))
  clear hb3 a0 a1 a2 b0 b1 b2 hW0 hW1 hW2
  by_cases hc : 0 ≤ c
  · obtain rfl := hr1.out (by omega)
    clear hr1 hr2
    obtain ⟨a0, a1, a2, _⟩ := HA3.out
    go_wp2_with fail
    refine (HC.out _).mono ?_
    rintro e w4 ⟨rfl, hb4⟩
    have HR4 := hide (HR3.out.keep hb4 HR3.out.lt)
    have HC4 := hide (HC3.out.trans (hb4.mono HC3.out.size))
    obtain ⟨d0, d1, d2, g0, g1, g2⟩ := HR4.out
    go_wp2_with fail
    refine bodyPost_ret (results_rat rfl _ rfl (HR4.out.set3 _ _ _)) rfl ?_
    exact ⟨rfl, below_set3 HC4.out (by omega) _ _ _⟩
  · obtain rfl := hr2.out (by omega)
    clear hr1 hr2
    obtain ⟨b0, b1, b2, _⟩ := HB3.out
    go_wp2_with fail
    refine (HC'.out _).mono ?_
    rintro e w4 ⟨rfl, hb4⟩
    have HR4 := hide (HR3.out.keep hb4 HR3.out.lt)
    have HC4 := hide (HC3.out.trans (hb4.mono HC3.out.size))
    obtain ⟨d0, d1, d2, g0, g1, g2⟩ := HR4.out
    go_wp2_with fail
    refine bodyPost_ret (results_rat rfl _ rfl (HR4.out.set3 _ _ _)) rfl ?_
    exact ⟨rfl, below_set3 HC4.out (by omega) _ _ _⟩
theorem i64_frac {q : Rat} (h : q.den ≠ 1) : int64Q q = (0, false) := by unfold int64Q; rw [if_neg (fun e => h e.1)]
theorem num_pos {q : Rat} (h : negB q = false) : q.num = (nm q : Int) := by have := sg_num q; rw [h] at this; unfold sg at this; exact this.symm
theorem num_neg {q : Rat} (h : negB q = true) : q.num = -(nm q : Int) := by have := sg_num q; rw [h] at this; unfold sg at this; exact this.symm
theorem i64_neg {q : Rat} (h1 : q.den = 1) (h : negB q = true) : int64Q q = if nm q ≤ 9223372036854775808 then (-(nm q : Int), true) else (0, false) := by
  unfold int64Q
  rw [num_neg h]
  by_cases h2 : nm q ≤ 9223372036854775808
  · rw [if_pos ⟨h1, by unfold In64; omega⟩, if_pos h2]
  · rw [if_neg (by unfold In64; omega), if_neg h2]
theorem i64_pos {q : Rat} (h1 : q.den = 1) (h : negB q = false) : int64Q q = if nm q ≤ 9223372036854775807 then ((nm q : Int), true) else (0, false) := by
  unfold int64Q
  rw [num_pos h]
  by_cases h2 : nm q ≤ 9223372036854775807
  · rw [if_pos ⟨h1, by unfold In64; omega⟩, if_pos h2]
  · rw [if_neg (by unfold In64; omega), if_neg h2]
def IPost (p : Int × Bool) (w : World) (e : Ending) (w' : World) : Prop := e = .returned (.tuple #[.int .i64 p.1, .bool p.2]) ∧ Below w.heap.size w w'
set_option maxHeartbeats 4000000 in
set_option maxRecDepth 100000 in
theorem pint64_any (n : Bool) (a d : ByteArray) (w : World) (ha : a.size ≤ 40000) (hd : d.size ≤ 40000) :
    Calls Tryz.prog 31 #[.agg #[.bool n, .string a, .string d]] w (IPost (int64Q (fixQ n a.data.toList d.data.toList)) w) := by
  have HC := Lib.hid (fun w => clean_any n a d w (by omega) (by omega))
  obtain ⟨hs1, hs2⟩ := fix_size (n := n) (a := a) (d := d)
  generalize fixQ n a.data.toList d.data.toList = q at *
  rw [enc_open] at HC
  have HU := Lib.hid (fun w => uint_any (bs (nm q)) w (by omega))
  rw [nv_bs] at HU
  have hfrac : Hid (q.den ≠ 1 → int64Q q = (0, false)) := i64_frac
  have hpos : Hid (q.den = 1 → negB q = false → int64Q q = if nm q ≤ 9223372036854775807 then ((nm q : Int), true) else (0, false)) := i64_pos
  have hneg : Hid (q.den = 1 → negB q = true → int64Q q = if nm q ≤ 9223372036854775808 then (-(nm q : Int), true) else (0, false)) := i64_neg
  have hd1 : Hid (q.den = 1 → dstr q = ⟨#[]⟩) := dstr_one
  have hd2 : Hid (q.den ≠ 1 → 0 < (dstr q).size) := fun h => by rw [dstr_big h]; exact bytes_ne_nil q.den_nz
  unfold IPost
  generalize int64Q q = R at *
  obtain ⟨V0, hV0, HX0, hc0, hl0⟩ := box_new w (.bool n) (.string a) (.string d)
  obtain ⟨a0, a1, a2, _⟩ := HX0.out
  have HC0 := hide hc0
  clear hc0
  generalize bs (nm q) = N at *
  go_enter Tryz.func31, Tryz.ntmps31
  go_wp2_with fail
  refine (HC.out _).mono ?_
  rintro e w1 ⟨rfl, hb1⟩
  have HX1 := hide (HX0.out.keep hb1 hl0)
  have HC1 := hide (HC0.out.trans (hb1.mono HC0.out.size))
  clear hb1 a0 a1 a2 HX0 HC0 hV0
  obtain ⟨a0, a1, a2, f0, f1, f2⟩ := HX1.out
  obtain ⟨V, hV⟩ : ∃ V, (((w1.setCell ⟨w.heap.size, 0, none⟩ (.bool (negB q))).setCell ⟨w.heap.size, 1, none⟩ (.string N)).setCell ⟨w.heap.size, 2, none⟩ (.string (dstr q))) = V := ⟨_, rfl⟩
  have HX2 := hide (HX1.out.set3 (.bool (negB q)) (.string N) (.string (dstr q)))
  have HC2 := hide (below_set3 HC1.out (Nat.le_refl _) (.bool (negB q)) (.string N) (.string (dstr q)))
  rw [hV] at HX2 HC2
  have HV := hide hV
  clear hV
  obtain ⟨d0, d1, d2, _⟩ := HX2.out
  go_wp2_with fail
  rw [HV.out]
  refine (HU.out _).mono ?_
  rintro e w3 ⟨rfl, hb3⟩
  have HX3 := hide (HX2.out.keep hb3 HX2.out.lt)
  have HC3 := hide (HC2.out.trans (hb3.mono HC2.out.size))
  clear hb3 a0 a1 a2 f0 f1 f2 d0 d1 d2 HV HX2 HC2 HX1 HC1 HC HU
  obtain ⟨a0, a1, a2, _⟩ := HX3.out
  have HBF := HC3.out
  by_cases hden : q.den = 1
  · have hp := hpos.out hden
    have hn := hneg.out hden
    have HP := hide hp
    have HN := hide hn
    rw [hd1.out hden] at a2
    clear hp hn hpos hneg hfrac hd1 hd2 hden
    generalize nm q = u at *
    by_cases hu : u < 18446744073709551616
    · rw [show uintOf u = (u, true) by unfold uintOf; rw [if_pos hu]]
      cases hb : negB q
      · have hr := HP.out hb
        rw [hb] at a0
        clear HP HN
        by_cases h2 : u ≤ 9223372036854775807
        · rw [if_pos h2] at hr
          have HR := hide hr
          clear hr
          go_wp2_with fail
          go_ret2
          exact ⟨by rw [HR.out]; rfl, HBF⟩
        · rw [if_neg h2] at hr
          have HR := hide hr
          clear hr
          go_wp2_with fail
          go_ret2
          exact ⟨by rw [HR.out]; rfl, HBF⟩
      · have hr := HN.out hb
        rw [hb] at a0
        clear HP HN
        by_cases h2 : u ≤ 9223372036854775808
        · rw [if_pos h2] at hr
          have HR := hide hr
          clear hr
          have p1 : Hid (wrap64 (-wrap64 (u : Int)) = -(u : Int)) := by show _ = _; unfold wrap64; omega
          have p2 : decide ((u : Int) ≤ 9223372036854775808) = true := decide_eq_true (by omega)
          clear hu h2
          go_wp2_with fail
          go_ret2
          exact ⟨by rw [HR.out, ← p1.out]; rfl, HBF⟩
        · rw [if_neg h2] at hr
          have HR := hide hr
          clear hr
          go_wp2_with fail
          go_ret2
          exact ⟨by rw [HR.out]; rfl, HBF⟩
    · have hr : R = (0, false) := by
        cases hb : negB q
        · rw [HP.out hb, if_neg (by omega)]
        · rw [HN.out hb, if_neg (by omega)]
      have HR := hide hr
      rw [show uintOf u = (0, false) by unfold uintOf; rw [if_neg hu]]
      clear HP HN hr hu
      go_wp2_with fail
      go_ret2
      exact ⟨by rw [HR.out]; rfl, HBF⟩
  · have HR := hide (hfrac.out hden)
    obtain ⟨e1, e2⟩ := str_ne (hd2.out hden)
    clear hpos hneg hfrac hd1 hd2 hden
    generalize uintOf (nm q) = p at *
    obtain ⟨u, ok⟩ := p
    go_wp2_with fail
    go_ret2
    exact ⟨by rw [HR.out]; rfl, HBF⟩
end Go.Proofs.YthppojbabkljpaaGreatDoor.RpL
