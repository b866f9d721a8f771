/- The walks of the program's add, Add, Subtract. -/
import Derived.Test.YthppojbabkljpaaGreatDoorRpI
namespace Go.Proofs.YthppojbabkljpaaGreatDoor.RpJ
open Go.RowKit RnA RnB RnS RnC RnK RnM RnL RnN RnD RnE RnQ RnR RnP RnW RnX RoA RoB RoC RoD RoE RoF RoG RoH RoI RoJ RoK RoL RoM RoN PnA PnB PnC PnD PnE PnF PnG PnH PnI PnJ PnK PnL RtA RtB RtC RpA RpB RpC RpD RpE RpF RpG RpH RnY RpI
/-- two boxes for arguments and one for a result -/
theorem start3 (w : World) (x y z x' y' z' : Value) : ∃ W0 W1 W2, w.alloc (.cells #[x, y, z] 24) = W0 ∧ W0.alloc (.cells #[x', y', z'] 24) = W1 ∧ W1.alloc (.cells #[.bool false, .string ⟨#[]⟩, .string ⟨#[]⟩] 24) = W2 ∧
    W0.heap.size = w.heap.size + 1 ∧ W1.heap.size = w.heap.size + 2 ∧
    Hid (Bx W2 w.heap.size x y z) ∧ Hid (Bx W2 (w.heap.size + 1) x' y' z') ∧ Hid (Bx W2 (w.heap.size + 2) (.bool false) (.string ⟨#[]⟩) (.string ⟨#[]⟩)) ∧ Hid (Below w.heap.size w W2) ∧ w.heap.size + 2 < W2.heap.size := by
  have hB0 := (Below.refl w.heap.size w).alloc (Nat.le_refl _) (.cells #[x, y, z] 24)
  have hX0 := Bx.new w x y z 24
  have hs : (w.alloc (.cells #[x, y, z] 24)).heap.size = w.heap.size + 1 := by simp
  generalize w.alloc (.cells #[x, y, z] 24) = W0 at *
  obtain ⟨W1, W2, h1, h2, h3, HX, HY, HB, hl⟩ := start2 W0 x' y' z'
  rw [hs] at HX HY
  have HBo := HB.out
  exact ⟨W0, W1, W2, rfl, h1, h2, hs, by omega, hX0.keep HBo (by omega), HX, HY, hB0.trans (HBo.mono (by omega)), by omega⟩
theorem _root_.Go.Proofs.YthppojbabkljpaaGreatDoor.RtA.Bx.kin {W : World} {k : Nat} {x y z : Value} (h : Bx W k x y z) :
    (∀ v : Qin.In (Below W.heap.size W), v.val.cell? ⟨k, 0, none⟩ = some x) ∧ (∀ v : Qin.In (Below W.heap.size W), v.val.cell? ⟨k, 1, none⟩ = some y) ∧ (∀ v : Qin.In (Below W.heap.size W), v.val.cell? ⟨k, 2, none⟩ = some z) :=
  ⟨fun v => (h.keep v.ok h.lt).1, fun v => (h.keep v.ok h.lt).2.1, fun v => (h.keep v.ok h.lt).2.2.1⟩
instance inhab (W : World) : Nonempty (Qin.In (Below W.heap.size W)) := ⟨⟨_, Below.refl _ _⟩⟩
theorem mulq_in (x y : Nat) (W : World) (v : Qin.In (Below W.heap.size W)) (hx : (bs x).size ≤ 100000) (hy : (bs y).size ≤ 100000) : Calls Tryz.prog 64 #[.string (bs x), .string (bs y)] v.val fun e w' => e = .returned (.string (bs (x * y))) ∧ ∃ y : Qin.In (Below W.heap.size W), w' = y.val := by
  have h := mul_in (bs x) (bs y) W v hx hy
  rwa [nv_bs, nv_bs] at h
theorem addq_in (x y : Nat) (W : World) (v : Qin.In (Below W.heap.size W)) (hx : (bs x).size ≤ 100000) (hy : (bs y).size ≤ 100000) : Calls Tryz.prog 63 #[.string (bs x), .string (bs y)] v.val fun e w' => e = .returned (.string (bs (x + y))) ∧ ∃ y : Qin.In (Below W.heap.size W), w' = y.val := by
  have h := add_any (bs x) (bs y) v.val hx hy
  rw [nv_bs, nv_bs] at h
  exact Qin.call (h.mono fun _ _ ⟨h1, h2⟩ => ⟨h1, v.ok.trans (h2.mono v.ok.size)⟩)
theorem redq_any (s : Bool) (x d : Nat) (q : Rat) (hq : mk s x d = q) (w : World) (hx : (bs x).size ≤ 100000) (hd : (bs d).size ≤ 100000) (h0 : d ≠ 0) : Calls Tryz.prog 62 #[.bool s, .string (bs x), .string (bs d)] w fun e w' => e = .returned (.agg #[.bool (negB q), .string (bs (nm q)), .string (dstr q)]) ∧ Below w.heap.size w w' := by
  have h := reduced_any s (bs x) (bs d) w hx hd (by rw [nv_bs]; exact h0)
  rw [nv_bs, nv_bs, hq] at h
  exact h
theorem redq_in (s : Bool) (x d : Nat) (q : Rat) (hq : mk s x d = q) (W : World) (v : Qin.In (Below W.heap.size W)) (hx : (bs x).size ≤ 100000) (hd : (bs d).size ≤ 100000) (h0 : d ≠ 0) : Calls Tryz.prog 62 #[.bool s, .string (bs x), .string (bs d)] v.val fun e w' => e = .returned (.agg #[.bool (negB q), .string (bs (nm q)), .string (dstr q)]) ∧ ∃ y : Qin.In (Below W.heap.size W), w' = y.val :=
  Qin.call ((redq_any s x d q hq v.val hx hd h0).mono fun _ _ ⟨h1, h2⟩ => ⟨h1, v.ok.trans (h2.mono v.ok.size)⟩)
theorem subq_any (x y : Nat) (w : World) (hx : (bs x).size ≤ 100000) (hy : (bs y).size ≤ 100000) : Calls Tryz.prog 130 #[.string (bs x), .string (bs y)] w (SBPost (subN x y) w) := by
  have h := subtract_any (bs x) (bs y) w hx hy
  rwa [nv_bs, nv_bs] at h
theorem deq {a b : Rat} (h : a.den = b.den) : ((dstr a).toList == (dstr b).toList) = true := by rw [dstr_eq.2 h]; simp
theorem dne {a b : Rat} (h : a.den ≠ b.den) : ((dstr a).toList == (dstr b).toList) = false := by
  rw [tl, tl]
  have : (dstr a).data.toList ≠ (dstr b).data.toList := fun e => h (dstr_eq.1 (ext_bytes e))
  simpa using this
set_option maxHeartbeats 4000000 in
set_option maxRecDepth 100000 in
theorem add_q (a b : Rat) (w : World) (i j : Nat) (ha : Lt a i) (hb : Lt b j) (hij : i + j ≤ 99990) :
    Calls Tryz.prog 91 #[.agg #[.bool (negB a), .string (bs (nm a)), .string (dstr a)], .agg #[.bool (negB b), .string (bs (nm b)), .string (dstr b)]] w (RPost (a + b) w) := by
  obtain ⟨sx, sy, sd⟩ := com_sz ha hb
  have s1 := ha.num
  have s2 := ha.den
  have s3 := hb.num
  have s4 := hb.den
  have HDEN := Lib.hid (fun q W x => den_in q W x)
  have HMUL := Lib.hid (fun x y W v hx hy => mulq_in x y W v hx hy)
  have hX : Hid (a.den = b.den → comX a b = nm a ∧ comY a b = nm b ∧ comD a b = a.den) := fun h => by unfold comX comY comD; rw [if_pos h, if_pos h, if_pos h]; exact ⟨rfl, rfl, rfl⟩
  have hX2 : Hid (a.den ≠ b.den → comX a b = nm a * b.den ∧ comY a b = nm b * a.den ∧ comD a b = a.den * b.den) := fun h => by unfold comX comY comD; rw [if_neg h, if_neg h, if_neg h]; exact ⟨rfl, rfl, rfl⟩
  have hsame : Hid (negB a = negB b → mk (negB a) (comX a b + comY a b) (comD a b) = a + b) := fun h => com_same h
  have hge : Hid (negB a ≠ negB b → comY a b ≤ comX a b → mk (negB a) (comX a b - comY a b) (comD a b) = a + b) := fun h h2 => com_ge h h2
  have hlt : Hid (negB a ≠ negB b → comX a b < comY a b → mk (negB b) (comY a b - comX a b) (comD a b) = a + b) := fun h h2 => com_lt h h2
  have hnz := hide (com_nz a b)
  have hsum : (bs (comX a b + comY a b)).size ≤ i + j + 1 := lt_bs.1 (add_lt (lt_bs.2 sx) (lt_bs.2 sy))
  have hs5 : (bs (comX a b - comY a b)).size ≤ i + j := Nat.le_trans (bs_mono (Nat.sub_le _ _)) sx
  have hs6 : (bs (comY a b - comX a b)).size ≤ i + j := Nat.le_trans (bs_mono (Nat.sub_le _ _)) sy
  have HADD := Lib.hid (fun W v => addq_in (comX a b) (comY a b) W v (by omega) (by omega))
  have HSUB := Lib.hid (fun w => subq_any (comX a b) (comY a b) w (by omega) (by omega))
  have HSUB2 := Lib.hid (fun w => subq_any (comY a b) (comX a b) w (by omega) (by omega))
  have hde : Hid (a.den = b.den → ((dstr a).toList == (dstr b).toList) = true) := deq
  have hdn : Hid (a.den ≠ b.den → ((dstr a).toList == (dstr b).toList) = false) := dne
  clear ha hb
  unfold RPost
  rw [enc_open]
  generalize a + b = r at *
  generalize comX a b = X at *
  generalize comY a b = Y at *
  generalize comD a b = D at *
  obtain ⟨W0, W1, W2, hW0, hW1, hW2, hs0, hs1, HA2, HB2, HR2, HC2, hsz⟩ := start3 w (.bool (negB a)) (.string (bs (nm a))) (.string (dstr a)) (.bool (negB b)) (.string (bs (nm b))) (.string (dstr b))
  obtain ⟨a0, a1, a2, _⟩ := HA2.out
  obtain ⟨b0, b1, b2, _⟩ := HB2.out
  go_enter Tryz.func91, Tryz.ntmps91
  go_wp2_with fail
  go_quiet (fail)
  obtain ⟨W3, hW3⟩ : ∃ W3, W2.drewN nq = W3 := ⟨_, rfl⟩
  have hD3 := below_drewN (Below.refl W2.heap.size W2) nq
  rw [hW3] at hD3 ⊢
  have HA3 := hide (HA2.out.keep hD3 (by omega))
  have HB3 := hide (HB2.out.keep hD3 (by omega))
  have HR3 := hide (HR2.out.keep hD3 (by omega))
  have HC3 := hide (HC2.out.trans (hD3.mono HC2.out.size))
  have hz3 := hD3.size
  clear hD3 hW3 hW0 hW1 hW2 a0 a1 a2 b0 b1 b2 HA2 HB2 HR2 HC2
  obtain ⟨a0, a1, a2, _⟩ := HA3.out
  obtain ⟨b0, b1, b2, _⟩ := HB3.out
  go_upto_if 20 with fail
  go_cut [5, 6, 7] (fun va vb vd wx => va = .string (bs X) ∧ vb = .string (bs Y) ∧ vd = .string (bs D) ∧ Below W3.heap.size W3 wx)
  case first =>
    by_cases hd : a.den = b.den
    · obtain ⟨x1, x2, x3⟩ := hX.out hd
      rw [show (!(dstr a).toList == (dstr b).toList) = false by rw [hde.out hd]; rfl]
      have X1 := hide x1
      have X2 := hide x2
      have X3 := hide x3
      clear x1 x2 x3 hd
      go_wp2_with fail
      refine (HDEN.out _ _ ⟨_, Below.refl _ _⟩).mono ?_
      rintro e w4 ⟨rfl, v, rfl⟩
      go_wp2_with fail
      go_meet
      case rel => exact ⟨by rw [X1.out], by rw [X2.out], by rw [X3.out], v.ok⟩
    · obtain ⟨x1, x2, x3⟩ := hX2.out hd
      rw [show (!(dstr a).toList == (dstr b).toList) = true by rw [hdn.out hd]; rfl]
      have X1 := hide x1
      have X2 := hide x2
      have X3 := hide x3
      clear x1 x2 x3 hd
      go_wp2_with fail
      obtain ⟨k0, k1, k2⟩ := HA3.out.kin
      obtain ⟨l0, l1, l2⟩ := HB3.out.kin
      refine Qin.region (I := Below W3.heap.size W3) (Qin.start _ W3) (by kernel_rfl) (by kernel_rfl) ?_
      repeat (go_big_quiet_step ((first | (go_at_call 77; with_reducible exact HDEN.out _ _ _) | (go_at_call 64; with_reducible exact HMUL.out _ _ _ _ (by omega) (by omega)))))
      refine wpQuiet_nil ?_
      intro v
      clear k0 k1 k2 l0 l1 l2
      obtain ⟨w4, hw4⟩ : ∃ w4, v.val = w4 := ⟨_, rfl⟩
      have HA4 := hide (HA3.out.keep v.ok HA3.out.lt)
      have HB4 := hide (HB3.out.keep v.ok HB3.out.lt)
      have hb4 := v.ok
      rw [hw4] at HA4 HB4 hb4 ⊢
      clear hw4 v a0 a1 a2 b0 b1 b2
      go_wp2_with fail
      obtain ⟨k0, k1, k2⟩ := HA4.out.kin
      obtain ⟨l0, l1, l2⟩ := HB4.out.kin
      refine Qin.region (I := Below w4.heap.size w4) (Qin.start _ w4) (by kernel_rfl) (by kernel_rfl) ?_
      repeat (go_big_quiet_step ((first | (go_at_call 77; with_reducible exact HDEN.out _ _ _) | (go_at_call 64; with_reducible exact HMUL.out _ _ _ _ (by omega) (by omega)))))
      refine wpQuiet_nil ?_
      intro v
      have hb5 := below_next hb4 v.ok
      clear k0 k1 k2 l0 l1 l2
      go_wp2_with fail
      go_meet
      case rel => exact ⟨by rw [X1.out], by rw [X2.out], by rw [X3.out], hb5⟩
  case rest =>
    obtain ⟨rfl, rfl, rfl, hb4⟩ := hcut
    have hl1 := HA3.out.lt
    have HA4 := hide (HA3.out.keep hb4 HA3.out.lt)
    have HB4 := hide (HB3.out.keep hb4 HB3.out.lt)
    have HR4 := hide (HR3.out.keep hb4 HR3.out.lt)
    have HC4 := hide (HC3.out.trans (hb4.mono HC3.out.size))
    clear hb4 HA3 HB3 HR3 HC3 a0 a1 a2 b0 b1 b2 hX hX2 hde hdn HMUL HDEN
    generalize hna : negB a = na at *
    generalize hnb : negB b = nb at *
    generalize bs (nm a) = A1 at *
    generalize bs (nm b) = B1 at *
    generalize dstr a = A2 at *
    generalize dstr b = B2 at *
    clear hna hnb s2 s4
    obtain ⟨a0, a1, a2, _⟩ := HA4.out
    obtain ⟨b0, b1, b2, _⟩ := HB4.out
    by_cases hs : na = nb
    · have HRED := Lib.hid (fun W v => redq_in na (X + Y) D r (hsame.out hs) W v (by omega) (by omega) hnz.out)
      subst hs
      clear hsame hge hlt hnz
      have hbb : (na == na) = true := by simp
      go_wp2_with fail
      obtain ⟨k0, k1, k2⟩ := HA4.out.kin
      refine Qtl.region (I := Below wc.heap.size wc) 7 (Qin.start _ _) (by kernel_rfl) (by kernel_rfl) ?_
      simp only [List.take_succ_cons, List.take_zero, List.drop_succ_cons, List.drop_zero]
      repeat (go_big_quiet_step ((first | (go_at_call 63; with_reducible exact HADD.out _ _) | (go_at_call 62; with_reducible exact HRED.out _ _))))
      refine wpQuiet_nil ?_
      intro v
      clear k0 k1 k2
      have HR5 := hide (HR4.out.keep v.ok HR4.out.lt)
      have HC5 := hide (HC4.out.trans (v.ok.mono HC4.out.size))
      obtain ⟨d0, d1, d2, g0, g1, g2⟩ := HR5.out
      go_wp2_with fail
      refine bodyPost_ret (results_rat rfl _ rfl (HR5.out.set3 _ _ _)) rfl ?_
      exact ⟨rfl, below_set3 HC5.out (by omega) _ _ _⟩
    · have hbb : (na == nb) = false := by simpa using hs
      by_cases hc : X < Y
      · have HRED := Lib.hid (fun w => redq_any nb (Y - X) D r (hlt.out hs hc) w (by omega) (by omega) hnz.out)
        rw [show subN X Y = (0, false) by unfold subN; rw [if_pos hc]] at HSUB
        rw [show subN Y X = (Y - X, true) by unfold subN; rw [if_neg (by omega)]] at HSUB2
        unfold SBPost at HSUB HSUB2
        simp only at HSUB HSUB2
        clear hsame hge hlt hnz hs
        go_wp2_with fail
        refine (HSUB.out _).mono ?_
        rintro e w5 ⟨rfl, hb5⟩
        have HB5 := hide (HB4.out.keep hb5 HB4.out.lt)
        have HR5 := hide (HR4.out.keep hb5 HR4.out.lt)
        have HC5 := hide (HC4.out.trans (hb5.mono HC4.out.size))
        clear hb5 a0 a1 a2 b0 b1 b2
        obtain ⟨b0, b1, b2, _⟩ := HB5.out
        go_wp2_with fail
        refine (HSUB2.out _).mono ?_
        rintro e w6 ⟨rfl, hb6⟩
        have HB6 := hide (HB5.out.keep hb6 HB5.out.lt)
        have HR6 := hide (HR5.out.keep hb6 HR5.out.lt)
        have HC6 := hide (HC5.out.trans (hb6.mono HC5.out.size))
        clear hb6 b0 b1 b2
        obtain ⟨b0, b1, b2, _⟩ := HB6.out
        go_wp2_with fail
        refine (HRED.out _).mono ?_
        rintro e w7 ⟨rfl, hb7⟩
        have HR7 := hide (HR6.out.keep hb7 HR6.out.lt)
        have HC7 := hide (HC6.out.trans (hb7.mono HC6.out.size))
        obtain ⟨d0, d1, d2, g0, g1, g2⟩ := HR7.out
        go_wp2_with fail
        refine bodyPost_ret (results_rat rfl _ rfl (HR7.out.set3 _ _ _)) rfl ?_
        exact ⟨rfl, below_set3 HC7.out (by omega) _ _ _⟩
      · have HRED := Lib.hid (fun w => redq_any na (X - Y) D r (hge.out hs (by omega)) w (by omega) (by omega) hnz.out)
        rw [show subN X Y = (X - Y, true) by unfold subN; rw [if_neg hc]] at HSUB
        unfold SBPost at HSUB
        simp only at HSUB
        clear hsame hge hlt hnz hs HSUB2
        go_wp2_with fail
        refine (HSUB.out _).mono ?_
        rintro e w5 ⟨rfl, hb5⟩
        have HA5 := hide (HA4.out.keep hb5 HA4.out.lt)
        have HR5 := hide (HR4.out.keep hb5 HR4.out.lt)
        have HC5 := hide (HC4.out.trans (hb5.mono HC4.out.size))
        clear hb5 a0 a1 a2 b0 b1 b2
        obtain ⟨a0, a1, a2, _⟩ := HA5.out
        go_wp2_with fail
        refine (HRED.out _).mono ?_
        rintro e w7 ⟨rfl, hb7⟩
        have HR7 := hide (HR5.out.keep hb7 HR5.out.lt)
        have HC7 := hide (HC5.out.trans (hb7.mono HC5.out.size))
        obtain ⟨d0, d1, d2, g0, g1, g2⟩ := HR7.out
        go_wp2_with fail
        refine bodyPost_ret (results_rat rfl _ rfl (HR7.out.set3 _ _ _)) rfl ?_
        exact ⟨rfl, below_set3 HC7.out (by omega) _ _ _⟩
end Go.Proofs.YthppojbabkljpaaGreatDoor.RpJ
