/- The walks of the program's Add, Subtract, Multiply, Divide. -/
import Derived.Test.YthppojbabkljpaaGreatDoorRpJ
namespace Go.Proofs.YthppojbabkljpaaGreatDoor.RpK
open Go.RowKit RnA RnB RnS RnC RnK RnM RnL RnN RnD RnE RnQ RnR RnP RnW RnX RoA RoB RoC RoD RoE RoF RoG RoH RoI RoJ RoK RoL RoM RoN PnA PnB PnC PnD PnE PnF PnG PnH PnI PnJ PnK PnL RtA RtB RtC RpA RpB RpC RpD RpE RpF RpG RpH RnY RpI RpJ
theorem clean_in (n : Bool) (a d : ByteArray) (q : Rat) (hq : fixQ n a.data.toList d.data.toList = q) (W : World) (v : Qin.In (Below W.heap.size W)) (ha : a.size ≤ 100000) (hd : d.size ≤ 100000) : Calls Tryz.prog 73 #[.agg #[.bool n, .string a, .string d]] v.val fun e w' => e = .returned (.agg #[.bool (negB q), .string (bs (nm q)), .string (dstr q)]) ∧ ∃ y : Qin.In (Below W.heap.size W), w' = y.val :=
  Qin.call ((clean_any n a d v.val ha hd).mono fun _ _ ⟨h1, h2⟩ => ⟨by rw [h1, hq, enc_open], v.ok.trans (h2.mono v.ok.size)⟩)
theorem q_in {f : FuncId} {args : Array Value} {r : Rat} {W : World} {v : Qin.In (Below W.heap.size W)} (h : Calls Tryz.prog f args v.val (RPost r v.val)) : Calls Tryz.prog f args v.val fun e w' => e = .returned (.agg #[.bool (negB r), .string (bs (nm r)), .string (dstr r)]) ∧ ∃ y : Qin.In (Below W.heap.size W), w' = y.val :=
  Qin.call (h.mono fun _ _ ⟨h1, h2⟩ => ⟨h1, v.ok.trans (h2.mono v.ok.size)⟩)
set_option maxHeartbeats 4000000 in
set_option maxRecDepth 100000 in
theorem padd_any (n : Bool) (a d : ByteArray) (n' : Bool) (a' d' : ByteArray) (w : World) (k : Nat) (ha : a.size ≤ k) (hd : d.size ≤ k) (ha' : a'.size ≤ k) (hd' : d'.size ≤ k) (hk : 1 ≤ k) (hk2 : k ≤ 40000) :
    Calls Tryz.prog 39 #[.agg #[.bool n, .string a, .string d], .agg #[.bool n', .string a', .string d']] w (RPost (fixQ n a.data.toList d.data.toList + fixQ n' a'.data.toList d'.data.toList) w) := by
  have hl := lt_raw (n := n) ha hd hk
  have hl' := lt_raw (n := n') ha' hd' hk
  have HC := Lib.hid (fun W v => clean_in n a d _ rfl W v (by omega) (by omega))
  have HC' := Lib.hid (fun W v => clean_in n' a' d' _ rfl W v (by omega) (by omega))
  generalize fixQ n a.data.toList d.data.toList = q at *
  generalize fixQ n' a'.data.toList d'.data.toList = q' at *
  have HS := Lib.hid (fun W (v : Qin.In (Below W.heap.size W)) => q_in (add_q q q' v.val k k hl hl' (by omega)))
  generalize q + q' = r at *
  unfold RPost
  rw [enc_open]
  clear hl hl'
  obtain ⟨W0, W1, W2, hW0, hW1, hW2, hs0, hs1, HA2, HB2, HR2, HC2, hsz⟩ := start3 w (.bool n) (.string a) (.string d) (.bool n') (.string a') (.string d')
  go_enter Tryz.func39, Tryz.ntmps39
  go_wp2_with fail
  obtain ⟨k0, k1, k2⟩ := HA2.out.kin
  obtain ⟨l0, l1, l2⟩ := HB2.out.kin
  refine Qtl.region (I := Below W2.heap.size W2) 5 (Qin.start _ _) (by kernel_rfl) (by kernel_rfl) ?_
  simp only [List.take_succ_cons, List.take_zero, List.drop_succ_cons, List.drop_zero]
  repeat (go_big_quiet_step ((first | (go_at_call 73; first | (with_reducible exact HC.out _ _) | (with_reducible exact HC'.out _ _)) | (go_at_call 91; with_reducible exact HS.out _ _))))
  refine wpQuiet_nil ?_
  intro v
  clear k0 k1 k2 l0 l1 l2
  have HR5 := hide (HR2.out.keep v.ok HR2.out.lt)
  have HC5 := hide (HC2.out.trans (v.ok.mono HC2.out.size))
  obtain ⟨d0, d1, d2, g0, g1, g2⟩ := HR5.out
  go_wp2_with fail
  refine bodyPost_ret (results_rat rfl _ rfl (HR5.out.set3 _ _ _)) rfl ?_
  exact ⟨rfl, below_set3 HC5.out (by omega) _ _ _⟩
set_option maxHeartbeats 4000000 in
set_option maxRecDepth 100000 in
theorem psub_any (n : Bool) (a d : ByteArray) (n' : Bool) (a' d' : ByteArray) (w : World) (k : Nat) (ha : a.size ≤ k) (hd : d.size ≤ k) (ha' : a'.size ≤ k) (hd' : d'.size ≤ k) (hk : 1 ≤ k) (hk2 : k ≤ 40000) :
    Calls Tryz.prog 41 #[.agg #[.bool n, .string a, .string d], .agg #[.bool n', .string a', .string d']] w (RPost (fixQ n a.data.toList d.data.toList - fixQ n' a'.data.toList d'.data.toList) w) := by
  have hl := lt_raw (n := n) ha hd hk
  have hl' := lt_raw (n := n') ha' hd' hk
  have HC := Lib.hid (fun W v => clean_in n a d _ rfl W v (by omega) (by omega))
  have HC' := Lib.hid (fun W v => clean_in n' a' d' _ rfl W v (by omega) (by omega))
  generalize fixQ n a.data.toList d.data.toList = q at *
  generalize fixQ n' a'.data.toList d'.data.toList = q' at *
  have HN := Lib.hid (fun W (v : Qin.In (Below W.heap.size W)) => q_in (negate_any q' v.val))
  have HS := Lib.hid (fun W (v : Qin.In (Below W.heap.size W)) => q_in (add_q q (-q') v.val k k hl hl'.neg (by omega)))
  rw [show q + -q' = q - q' by grind] at HS
  generalize q - q' = r at *
  generalize -q' = p at *
  unfold RPost
  rw [enc_open]
  clear hl hl'
  obtain ⟨W0, W1, W2, hW0, hW1, hW2, hs0, hs1, HA2, HB2, HR2, HC2, hsz⟩ := start3 w (.bool n) (.string a) (.string d) (.bool n') (.string a') (.string d')
  go_enter Tryz.func41, Tryz.ntmps41
  go_wp2_with fail
  obtain ⟨k0, k1, k2⟩ := HA2.out.kin
  obtain ⟨l0, l1, l2⟩ := HB2.out.kin
  refine Qtl.region (I := Below W2.heap.size W2) 6 (Qin.start _ _) (by kernel_rfl) (by kernel_rfl) ?_
  simp only [List.take_succ_cons, List.take_zero, List.drop_succ_cons, List.drop_zero]
  repeat (go_big_quiet_step ((first | (go_at_call 73; first | (with_reducible exact HC.out _ _) | (with_reducible exact HC'.out _ _)) | (go_at_call 93; with_reducible exact HN.out _ _) | (go_at_call 91; with_reducible exact HS.out _ _))))
  refine wpQuiet_nil ?_
  intro v
  clear k0 k1 k2 l0 l1 l2
  have HR5 := hide (HR2.out.keep v.ok HR2.out.lt)
  have HC5 := hide (HC2.out.trans (v.ok.mono HC2.out.size))
  obtain ⟨d0, d1, d2, g0, g1, g2⟩ := HR5.out
  go_wp2_with fail
  refine bodyPost_ret (results_rat rfl _ rfl (HR5.out.set3 _ _ _)) rfl ?_
  exact ⟨rfl, below_set3 HC5.out (by omega) _ _ _⟩
theorem _root_.Go.Proofs.YthppojbabkljpaaGreatDoor.RtA.Bx.other3 {w : World} {k j : Nat} {x y z : Value} (h : Bx w k x y z) (hj : k ≠ j) (x' y' z' : Value) : Bx (((w.setCell ⟨j, 0, none⟩ x').setCell ⟨j, 1, none⟩ y').setCell ⟨j, 2, none⟩ z') k x y z :=
  ((h.other hj 0 x').other hj 1 y').other hj 2 z'
/-- both arguments' boxes are written anew -/
theorem two_set {w W : World} {B k j r : Nat} {x0 y0 z0 x1 y1 z1 x2 y2 z2 : Value} (hA : Bx W k x0 y0 z0) (hB : Bx W j x1 y1 z1) (hR : Bx W r x2 y2 z2) (hb : Below B w W) (hkj : k ≠ j) (hkr : k ≠ r) (hjr : j ≠ r) (hk : B ≤ k) (hj : B ≤ j) (x y z x' y' z' : Value) :
    ∃ V, ((((((W.setCell ⟨k, 0, none⟩ x).setCell ⟨k, 1, none⟩ y).setCell ⟨k, 2, none⟩ z).setCell ⟨j, 0, none⟩ x').setCell ⟨j, 1, none⟩ y').setCell ⟨j, 2, none⟩ z') = V ∧
      Hid (Bx V k x y z) ∧ Hid (Bx V j x' y' z') ∧ Hid (Bx V r x2 y2 z2) ∧ Hid (Below B w V) :=
  ⟨_, rfl, (hA.set3 x y z).other3 hkj x' y' z', (hB.other3 (Ne.symm hkj) x y z).set3 x' y' z', (hR.other3 (Ne.symm hkr) x y z).other3 (Ne.symm hjr) x' y' z', below_set3 (below_set3 hb hk x y z) hj x' y' z'⟩
set_option maxHeartbeats 4000000 in
set_option maxRecDepth 100000 in
theorem pmul_any (n : Bool) (a d : ByteArray) (n' : Bool) (a' d' : ByteArray) (w : World) (k : Nat) (ha : a.size ≤ k) (hd : d.size ≤ k) (ha' : a'.size ≤ k) (hd' : d'.size ≤ k) (hk : 1 ≤ k) (hk2 : k ≤ 40000) :
    Calls Tryz.prog 43 #[.agg #[.bool n, .string a, .string d], .agg #[.bool n', .string a', .string d']] w (RPost (fixQ n a.data.toList d.data.toList * fixQ n' a'.data.toList d'.data.toList) w) := by
  have hl := lt_raw (n := n) ha hd hk
  have hl' := lt_raw (n := n') ha' hd' hk
  have HC := Lib.hid (fun W v => clean_in n a d _ rfl W v (by omega) (by omega))
  have HC' := Lib.hid (fun W v => clean_in n' a' d' _ rfl W v (by omega) (by omega))
  generalize fixQ n a.data.toList d.data.toList = q at *
  generalize fixQ n' a'.data.toList d'.data.toList = q' at *
  have s1 := hl.num
  have s2 := hl.den
  have s3 := hl'.num
  have s4 := hl'.den
  have s5 := lt_bs.1 (mul_lt hl.1 hl'.1)
  have s6 := lt_bs.1 (mul_lt hl.2 hl'.2)
  have HDEN := Lib.hid (fun q W x => den_in q W x)
  have HMUL := Lib.hid (fun x y W v hx hy => mulq_in x y W v hx hy)
  have HRED := Lib.hid (fun W v => redq_in (!(negB q == negB q')) _ _ (q * q') (mul_eq q q') W v (by omega) (by omega) (Nat.mul_ne_zero q.den_nz q'.den_nz))
  unfold RPost
  rw [enc_open]
  generalize q * q' = r at *
  clear hl hl' s5 s6
  obtain ⟨W0, W1, W2, hW0, hW1, hW2, hs0, hs1, HA2, HB2, HR2, HC2, hsz⟩ := start3 w (.bool n) (.string a) (.string d) (.bool n') (.string a') (.string d')
  go_enter Tryz.func43, Tryz.ntmps43
  go_wp2_with fail
  obtain ⟨k0, k1, k2⟩ := HA2.out.kin
  obtain ⟨l0, l1, l2⟩ := HB2.out.kin
  refine Qtl.region (I := Below W2.heap.size W2) 4 (Qin.start _ _) (by kernel_rfl) (by kernel_rfl) ?_
  simp only [List.take_succ_cons, List.take_zero, List.drop_succ_cons, List.drop_zero]
  repeat (go_big_quiet_step ((first | (go_at_call 73; first | (with_reducible exact HC.out _ _) | (with_reducible exact HC'.out _ _)))))
  refine wpQuiet_nil ?_
  intro v
  clear k0 k1 k2 l0 l1 l2 hW0 hW1 hW2
  have HA3 := hide (HA2.out.keep v.ok HA2.out.lt)
  have HB3 := hide (HB2.out.keep v.ok HB2.out.lt)
  have HR3 := hide (HR2.out.keep v.ok HR2.out.lt)
  have HC3 := hide (HC2.out.trans (v.ok.mono HC2.out.size))
  obtain ⟨w3, hw3⟩ : ∃ w3, v.val = w3 := ⟨_, rfl⟩
  rw [hw3] at HA3 HB3 HR3 HC3 ⊢
  clear hw3 v HA2 HB2 HR2 HC2
  obtain ⟨a0, a1, a2, f0, f1, f2⟩ := HA3.out
  obtain ⟨b0, b1, b2, g0, g1, g2⟩ := HB3.out
  obtain ⟨V, hV, HA4, HB4, HR4, HC4⟩ := two_set HA3.out HB3.out HR3.out HC3.out (by omega) (by omega) (by omega) (by omega) (by omega) (.bool (negB q)) (.string (bs (nm q))) (.string (dstr q)) (.bool (negB q')) (.string (bs (nm q'))) (.string (dstr q'))
  have HV := hide hV
  clear hV
  go_wp2_with fail
  rw [HV.out]
  clear a0 a1 a2 f0 f1 f2 b0 b1 b2 g0 g1 g2 HA3 HB3 HR3 HC3 HV
  obtain ⟨k0, k1, k2⟩ := HA4.out.kin
  obtain ⟨l0, l1, l2⟩ := HB4.out.kin
  refine Qtl.region (I := Below V.heap.size V) 16 (Qin.start _ _) (by kernel_rfl) (by kernel_rfl) ?_
  simp only [List.take_succ_cons, List.take_zero, List.drop_succ_cons, List.drop_zero]
  repeat (go_big_quiet_step ((first | (go_at_call 77; with_reducible exact HDEN.out _ _ _) | (go_at_call 64; with_reducible exact HMUL.out _ _ _ _ (by omega) (by omega)) | (go_at_call 62; with_reducible exact HRED.out _ _))))
  refine wpQuiet_nil ?_
  intro v
  clear k0 k1 k2 l0 l1 l2
  have HR5 := hide (HR4.out.keep v.ok HR4.out.lt)
  have HC5 := hide (HC4.out.trans (v.ok.mono HC4.out.size))
  obtain ⟨d0, d1, d2, g0, g1, g2⟩ := HR5.out
  go_wp2_with fail
  refine bodyPost_ret (results_rat rfl _ rfl (HR5.out.set3 _ _ _)) rfl ?_
  exact ⟨rfl, below_set3 HC5.out (by omega) _ _ _⟩
def divQ (a b : Rat) : Rat × Bool := if b = 0 then (0, false) else (a / b, true)
theorem divQ_make (a b : Rat) : makeQ (!(negB a == negB b)) (nm a * b.den) (a.den * nm b) = divQ a b := by
  unfold makeQ divQ
  by_cases h : b = 0
  · rw [if_pos h, if_pos (by rw [nm_zero.2 h, Nat.mul_zero])]
  · rw [if_neg h, if_neg (Nat.mul_ne_zero a.den_nz (fun e => h (nm_zero.1 e)))]
    have e := div_eq a b h
    exact congrArg (fun x => (x, true)) e
theorem makeq_in (s : Bool) (x y : Nat) (p : Rat × Bool) (hp : makeQ s x y = p) (W : World) (v : Qin.In (Below W.heap.size W)) (hx : (bs x).size ≤ 100000) (hy : (bs y).size ≤ 100000) : Calls Tryz.prog 83 #[.bool s, .string (bs x), .string (bs y)] v.val fun e w' => e = .returned (.tuple #[.agg #[.bool (negB p.1), .string (bs (nm p.1)), .string (dstr p.1)], .bool p.2]) ∧ ∃ y : Qin.In (Below W.heap.size W), w' = y.val := by
  have h := make_any s (bs x) (bs y) v.val hx hy
  rw [nv_bs, nv_bs, hp] at h
  exact Qin.call (h.mono fun _ _ ⟨h1, h2⟩ => ⟨h1, v.ok.trans (h2.mono v.ok.size)⟩)
set_option maxHeartbeats 4000000 in
set_option maxRecDepth 100000 in
theorem pdiv_any (n : Bool) (a d : ByteArray) (n' : Bool) (a' d' : ByteArray) (w : World) (k : Nat) (ha : a.size ≤ k) (hd : d.size ≤ k) (ha' : a'.size ≤ k) (hd' : d'.size ≤ k) (hk : 1 ≤ k) (hk2 : k ≤ 40000) :
    Calls Tryz.prog 29 #[.agg #[.bool n, .string a, .string d], .agg #[.bool n', .string a', .string d']] w (RBPost (divQ (fixQ n a.data.toList d.data.toList) (fixQ n' a'.data.toList d'.data.toList)) w) := by
  have hl := lt_raw (n := n) ha hd hk
  have hl' := lt_raw (n := n') ha' hd' hk
  have HC := Lib.hid (fun W v => clean_in n a d _ rfl W v (by omega) (by omega))
  have HC' := Lib.hid (fun W v => clean_in n' a' d' _ rfl W v (by omega) (by omega))
  generalize fixQ n a.data.toList d.data.toList = q at *
  generalize fixQ n' a'.data.toList d'.data.toList = q' at *
  have s1 := hl.num
  have s2 := hl.den
  have s3 := hl'.num
  have s4 := hl'.den
  have s5 := lt_bs.1 (mul_lt hl.1 hl'.2)
  have s6 := lt_bs.1 (mul_lt hl.2 hl'.1)
  have HDEN := Lib.hid (fun q W x => den_in q W x)
  have HMUL := Lib.hid (fun x y W v hx hy => mulq_in x y W v hx hy)
  have HRED := Lib.hid (fun W v => makeq_in (!(negB q == negB q')) _ _ (divQ q q') (divQ_make q q') W v (by omega) (by omega))
  unfold RBPost
  rw [enc_open]
  generalize divQ q q' = r at *
  clear hl hl' s5 s6
  obtain ⟨W0, W1, W2, hW0, hW1, hW2, hs0, hs1, HA2, HB2, HR2, HC2, hsz⟩ := start3 w (.bool n) (.string a) (.string d) (.bool n') (.string a') (.string d')
  go_enter Tryz.func29, Tryz.ntmps29
  go_wp2_with fail
  obtain ⟨k0, k1, k2⟩ := HA2.out.kin
  obtain ⟨l0, l1, l2⟩ := HB2.out.kin
  refine Qtl.region (I := Below W2.heap.size W2) 4 (Qin.start _ _) (by kernel_rfl) (by kernel_rfl) ?_
  simp only [List.take_succ_cons, List.take_zero, List.drop_succ_cons, List.drop_zero]
  repeat (go_big_quiet_step ((first | (go_at_call 73; first | (with_reducible exact HC.out _ _) | (with_reducible exact HC'.out _ _)))))
  refine wpQuiet_nil ?_
  intro v
  clear k0 k1 k2 l0 l1 l2 hW0 hW1 hW2
  have HA3 := hide (HA2.out.keep v.ok HA2.out.lt)
  have HB3 := hide (HB2.out.keep v.ok HB2.out.lt)
  have HR3 := hide (HR2.out.keep v.ok HR2.out.lt)
  have HC3 := hide (HC2.out.trans (v.ok.mono HC2.out.size))
  obtain ⟨w3, hw3⟩ : ∃ w3, v.val = w3 := ⟨_, rfl⟩
  rw [hw3] at HA3 HB3 HR3 HC3 ⊢
  clear hw3 v HA2 HB2 HR2 HC2
  obtain ⟨a0, a1, a2, f0, f1, f2⟩ := HA3.out
  obtain ⟨b0, b1, b2, g0, g1, g2⟩ := HB3.out
  obtain ⟨V, hV, HA4, HB4, HR4, HC4⟩ := two_set HA3.out HB3.out HR3.out HC3.out (by omega) (by omega) (by omega) (by omega) (by omega) (.bool (negB q)) (.string (bs (nm q))) (.string (dstr q)) (.bool (negB q')) (.string (bs (nm q'))) (.string (dstr q'))
  have HV := hide hV
  clear hV
  go_wp2_with fail
  rw [HV.out]
  clear a0 a1 a2 f0 f1 f2 b0 b1 b2 g0 g1 g2 HA3 HB3 HR3 HC3 HV
  obtain ⟨k0, k1, k2⟩ := HA4.out.kin
  obtain ⟨l0, l1, l2⟩ := HB4.out.kin
  refine Qtl.region (I := Below V.heap.size V) 18 (Qin.start _ _) (by kernel_rfl) (by kernel_rfl) ?_
  simp only [List.take_succ_cons, List.take_zero, List.drop_succ_cons, List.drop_zero]
  repeat (go_big_quiet_step ((first | (go_at_call 77; with_reducible exact HDEN.out _ _ _) | (go_at_call 64; with_reducible exact HMUL.out _ _ _ _ (by omega) (by omega)) | (go_at_call 83; with_reducible exact HRED.out _ _))))
  refine wpQuiet_nil ?_
  intro v
  clear k0 k1 k2 l0 l1 l2
  have HR5 := hide (HR4.out.keep v.ok HR4.out.lt)
  have HC5 := hide (HC4.out.trans (v.ok.mono HC4.out.size))
  obtain ⟨d0, d1, d2, g0, g1, g2⟩ := HR5.out
  go_wp2_with fail
  refine bodyPost_ret (results_rat2 rfl _ rfl (HR5.out.set3 _ _ _)) rfl ?_
  exact ⟨rfl, below_set3 HC5.out (by omega) _ _ _⟩
end Go.Proofs.YthppojbabkljpaaGreatDoor.RpK
