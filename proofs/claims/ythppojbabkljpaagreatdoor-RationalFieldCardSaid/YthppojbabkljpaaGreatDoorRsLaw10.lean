/- The walk of the law RationalField. -/
import Derived.Test.YthppojbabkljpaaGreatDoorRsU
namespace Go.Proofs.YthppojbabkljpaaGreatDoor.RsLaw10
open Go.RowKit RnA RnB RnS RnC RnK RnM RnL RnN RnD RnE RnQ RnR RnG RnP RnW RnX RoA RoB RoC RoD RoE RoF RoG RoH RoI RoJ RoK RoL RoM RoN PnA PnB PnC PnD PnE PnF PnG PnH PnI PnJ PnK PnL RtA RtB RtC RtD RtE RtG RtH RtI RtJ RpA RpB RpC RpD RpE RpF RpG RpH RnY RpI RpJ RpK RpL RsX RsY RsW RsV RsU
theorem field_sum (a b c : Rat) : a + (b + c) = a + b + c := (Rat.add_assoc a b c).symm
theorem field_mul (a b c : Rat) : a * (b * c) = a * b * c := (Rat.mul_assoc a b c).symm
theorem field_both (a b c : Rat) : a * b + a * c = a * (b + c) := (Rat.mul_add a b c).symm
theorem field_less (a b : Rat) : a + b - b = a := by grind
theorem field_over {a b : Rat} (h : b ≠ 0) : divQ (a * b) b = (a, true) := by
  unfold divQ
  rw [if_neg h]
  have e : a * b / b = a := by grind
  rw [e]
theorem field_zero {a b : Rat} (h : b = 0) : divQ (a * b) b = (0, false) := by unfold divQ; rw [if_pos h]
/-- what the region that divides leaves -/
def Quo (W : World) (q : Rat) (va : Value) (wx : World) : Prop := ∃ k, va = .pointer (some ⟨k, 0, none⟩) ∧ Bx wx k (.bool (negB q)) (.string (bs (nm q))) (.string (dstr q)) ∧ Below W.heap.size W wx
set_option maxHeartbeats 8000000 in
set_option maxRecDepth 100000 in
theorem field_law (n : Bool) (a d : ByteArray) (n' : Bool) (a' d' : ByteArray) (n3 : Bool) (a3 d3 : ByteArray) (w : World) (h1 : a.size ≤ maxLen) (h2 : d.size ≤ maxLen) (h3 : a'.size ≤ maxLen) (h4 : d'.size ≤ maxLen) (h5 : a3.size ≤ maxLen) (h6 : d3.size ≤ maxLen) (he : Env w) :
    Calls Tryz.prog 13 #[.agg #[.bool n, .string a, .string d], .agg #[.bool n', .string a', .string d'], .agg #[.bool n3, .string a3, .string d3]] w fun e w' => e = .returned (.bool true) ∧ Below w.heap.size w w' := by
  have HAW := Lib.hid (fun w (h : Env w) => awake_any w h)
  obtain ⟨W0, W1, W2, hW0, hW1, hW2, hs0, hs1, HA2, HB2, HD2, HC2, hsz⟩ := start3v w (.bool n) (.string a) (.string d) (.bool n') (.string a') (.string d') (.bool n3) (.string a3) (.string d3)
  have HFEW := Lib.hid (few_three n a d n' a' d' n3 a3 d3 W2 24 h1 h2 h3 h4 h5 h6)
  obtain ⟨a0, a1, a2, _⟩ := HA2.out
  obtain ⟨b0, b1, b2, _⟩ := HB2.out
  obtain ⟨d0, d1, d2, _⟩ := HD2.out
  obtain ⟨V, hV⟩ : ∃ V, W2.alloc (.cells #[.bool n, .string a, .string d, .bool n', .string a', .string d', .bool n3, .string a3, .string d3] 24) = V := ⟨_, rfl⟩
  have hbV : Below W2.heap.size W2 V := by rw [← hV]; exact (Below.refl _ _).alloc (Nat.le_refl _) _
  rw [hV] at HFEW
  have HA := hide (HA2.out.keep hbV HA2.out.lt)
  have HB := hide (HB2.out.keep hbV HB2.out.lt)
  have HD := hide (HD2.out.keep hbV HD2.out.lt)
  have HC := hide (HC2.out.trans (hbV.mono HC2.out.size))
  clear hbV
  cases hf : fewB a d && (fewB a' d' && fewB a3 d3)
  · rw [hf] at HFEW
    go_enter Tryz.func13, Tryz.ntmps13
    go_wp2_with fail
    refine HFEW.out.mono ?_
    rintro e w3 ⟨rfl, hb3⟩
    have hbf := HC.out.trans (hb3.mono HC.out.size)
    have he3 := hide (he.below hbf)
    go_wp2_with fail
    refine (HAW.out _ he3.out).mono ?_
    rintro e w4 ⟨rfl, hb4⟩
    go_wp2_with fail
    go_ret
    exact ⟨rfl, hbf.trans (hb4.mono hbf.size)⟩
  · rw [hf] at HFEW
    rw [Bool.and_eq_true, Bool.and_eq_true] at hf
    obtain ⟨x1, x2⟩ := few_size hf.1
    obtain ⟨x3, x4⟩ := few_size hf.2.1
    obtain ⟨x5, x6⟩ := few_size hf.2.2
    have la := lt_raw (n := n) x1 x2 (by decide)
    have lb := lt_raw (n := n') x3 x4 (by decide)
    have lc := lt_raw (n := n3) x5 x6 (by decide)
    obtain ⟨qa, hqa⟩ : ∃ q, fixQ n a.data.toList d.data.toList = q := ⟨_, rfl⟩
    obtain ⟨qb, hqb⟩ : ∃ q, fixQ n' a'.data.toList d'.data.toList = q := ⟨_, rfl⟩
    obtain ⟨qc, hqc⟩ : ∃ q, fixQ n3 a3.data.toList d3.data.toList = q := ⟨_, rfl⟩
    rw [hqa] at la
    rw [hqb] at lb
    rw [hqc] at lc
    have Sa := Sm.raw hqa x1 x2
    have Sb := Sm.raw hqb x3 x4
    have Sc := Sm.raw hqc x5 x6
    have S1 := Sm.enc (la.add lb) (by decide)
    have S2 := Sm.enc (lb.add lc) (by decide)
    have M1 := Sm.enc (la.mul lb) (by decide)
    have M2 := Sm.enc (lb.mul lc) (by decide)
    have M3 := Sm.enc (la.mul lc) (by decide)
    have A1 := add_s Sa Sb rfl
    have A2 := add_s S1 Sc rfl
    have A3 := add_s Sb Sc rfl
    have A4 := add_s Sa S2 (field_sum qa qb qc)
    have B1 := mul_s Sa Sb rfl
    have B2 := mul_s M1 Sc rfl
    have B3 := mul_s Sb Sc rfl
    have B4 := mul_s Sa M2 (field_mul qa qb qc)
    have B5 := mul_s Sa S2 rfl
    have B6 := mul_s Sa Sc rfl
    have A5 := add_s M1 M3 (field_both qa qb qc)
    have D1 := sub_s S1 Sb (field_less qa qb)
    have F1 := fix_s Sa
    have hz : Hid (qb = 0 → divQ (qa * qb) qb = (0, false) ∧ sgnQ qb = 0) := fun h => ⟨field_zero h, (sgn_zero qb).2 h⟩
    have hnz : Hid (qb ≠ 0 → divQ (qa * qb) qb = (qa, true) ∧ sgnQ qb ≠ 0) := fun h => ⟨field_over h, fun e => h ((sgn_zero qb).1 e)⟩
    generalize qa + qb + qc = r1 at *
    generalize qa * qb * qc = r2 at *
    generalize qa * (qb + qc) = r3 at *
    generalize hs1q : qa + qb = s1 at *
    generalize hs2q : qb + qc = s2 at *
    generalize hm1q : qa * qb = m1 at *
    generalize hm2q : qb * qc = m2 at *
    generalize hm3q : qa * qc = m3 at *
    have T1 := fun W => rat_same (negB r1) (bs (nm r1)) (dstr r1) W
    have T2 := fun W => rat_same (negB r2) (bs (nm r2)) (dstr r2) W
    have T3 := fun W => rat_same (negB r3) (bs (nm r3)) (dstr r3) W
    have T4 := fun W => rat_same (negB qa) (bs (nm qa)) (dstr qa) W
    have hrg := rat_guard
    have HE := hide he
    clear hs1q hs2q hm1q hm2q hm3q la lb lc hqa hqb hqc x1 x2 x3 x4 x5 x6 h1 h2 h3 h4 h5 h6 hf he S1 S2 M2 M3 Sa Sc
    have HA1 := Lib.hid (fun W (v : Qin.In (Below W.heap.size W)) => v_in (A1 v.val))
    have HA2q := Lib.hid (fun W (v : Qin.In (Below W.heap.size W)) => v_in (A2 v.val))
    have HA3 := Lib.hid (fun W (v : Qin.In (Below W.heap.size W)) => v_in (A3 v.val))
    have HA4 := Lib.hid (fun W (v : Qin.In (Below W.heap.size W)) => v_in (A4 v.val))
    have HA5 := Lib.hid (fun W (v : Qin.In (Below W.heap.size W)) => v_in (A5 v.val))
    have HB1 := Lib.hid (fun W (v : Qin.In (Below W.heap.size W)) => v_in (B1 v.val))
    have HB2q := Lib.hid (fun W (v : Qin.In (Below W.heap.size W)) => v_in (B2 v.val))
    have HB3 := Lib.hid (fun W (v : Qin.In (Below W.heap.size W)) => v_in (B3 v.val))
    have HB4 := Lib.hid (fun W (v : Qin.In (Below W.heap.size W)) => v_in (B4 v.val))
    have HB5 := Lib.hid (fun W (v : Qin.In (Below W.heap.size W)) => v_in (B5 v.val))
    have HB6 := Lib.hid (fun W (v : Qin.In (Below W.heap.size W)) => v_in (B6 v.val))
    have HD1 := Lib.hid (fun W (v : Qin.In (Below W.heap.size W)) => v_in (D1 v.val))
    have HF1 := Lib.hid (fun W (v : Qin.In (Below W.heap.size W)) => v_in (F1 v.val))
    have HM1 := hide M1
    have HSb := hide Sb
    clear A1 A2 A3 A4 A5 B2 B3 B4 B5 B6 D1 F1 M1 Sb
    have HBm := Lib.hid B1
    clear B1
    go_enter Tryz.func13, Tryz.ntmps13
    go_wp2_with fail
    refine HFEW.out.mono ?_
    rintro e w3 ⟨rfl, hb3⟩
    replace HA := hide (HA.out.keep hb3 HA.out.lt)
    replace HB := hide (HB.out.keep hb3 HB.out.lt)
    replace HD := hide (HD.out.keep hb3 HD.out.lt)
    replace HC := hide (HC.out.trans (hb3.mono HC.out.size))
    clear a0 a1 a2 b0 b1 b2 d0 d1 d2 hb3 HFEW hV hW0 hW1 hW2 HA2 HB2 HD2 HC2
    go_wp2_with fail
    obtain ⟨k0, k1, k2⟩ := HA.out.kin
    obtain ⟨l0, l1, l2⟩ := HB.out.kin
    obtain ⟨m0, m1, m2⟩ := HD.out.kin
    refine Qin.region (I := Below w3.heap.size w3) (Qin.start _ w3) (by kernel_rfl) (by kernel_rfl) ?_
    repeat (go_big_quiet_step ((first | (go_at_call 39; with_reducible exact HA1.out _ _) | (go_at_call 39; with_reducible exact HA2q.out _ _) | (go_at_call 39; with_reducible exact HA3.out _ _) | (go_at_call 39; with_reducible exact HA4.out _ _))))
    refine wpQuiet_nil ?_
    intro v
    clear k0 k1 k2 l0 l1 l2 m0 m1 m2
    replace HA := hide (HA.out.keep v.ok HA.out.lt)
    replace HB := hide (HB.out.keep v.ok HB.out.lt)
    replace HD := hide (HD.out.keep v.ok HD.out.lt)
    replace HC := hide (HC.out.trans (v.ok.mono HC.out.size))
    obtain ⟨w4, hn⟩ : ∃ u, v.val = u := ⟨_, rfl⟩
    rw [hn] at HA HB HD HC ⊢
    clear hn v
    go_wp2_with fail
    obtain ⟨k0, k1, k2⟩ := HA.out.kin
    obtain ⟨l0, l1, l2⟩ := HB.out.kin
    obtain ⟨m0, m1, m2⟩ := HD.out.kin
    refine Qin.region (I := Below w4.heap.size w4) (Qin.start _ w4) (by kernel_rfl) (by kernel_rfl) ?_
    repeat (go_big_quiet_step ((first | (go_at_call 43; with_reducible exact HB1.out _ _) | (go_at_call 43; with_reducible exact HB2q.out _ _) | (go_at_call 43; with_reducible exact HB3.out _ _) | (go_at_call 43; with_reducible exact HB4.out _ _))))
    refine wpQuiet_nil ?_
    intro v
    clear k0 k1 k2 l0 l1 l2 m0 m1 m2
    replace HA := hide (HA.out.keep v.ok HA.out.lt)
    replace HB := hide (HB.out.keep v.ok HB.out.lt)
    replace HD := hide (HD.out.keep v.ok HD.out.lt)
    replace HC := hide (HC.out.trans (v.ok.mono HC.out.size))
    obtain ⟨w5, hn⟩ : ∃ u, v.val = u := ⟨_, rfl⟩
    rw [hn] at HA HB HD HC ⊢
    clear hn v
    go_wp2_with fail
    obtain ⟨k0, k1, k2⟩ := HA.out.kin
    obtain ⟨l0, l1, l2⟩ := HB.out.kin
    obtain ⟨m0, m1, m2⟩ := HD.out.kin
    refine Qin.region (I := Below w5.heap.size w5) (Qin.start _ w5) (by kernel_rfl) (by kernel_rfl) ?_
    repeat (go_big_quiet_step ((first | (go_at_call 39; with_reducible exact HA3.out _ _) | (go_at_call 39; with_reducible exact HA5.out _ _) | (go_at_call 43; with_reducible exact HB5.out _ _) | (go_at_call 43; with_reducible exact HB1.out _ _) | (go_at_call 43; with_reducible exact HB6.out _ _))))
    refine wpQuiet_nil ?_
    intro v
    clear k0 k1 k2 l0 l1 l2 m0 m1 m2
    replace HA := hide (HA.out.keep v.ok HA.out.lt)
    replace HB := hide (HB.out.keep v.ok HB.out.lt)
    replace HD := hide (HD.out.keep v.ok HD.out.lt)
    replace HC := hide (HC.out.trans (v.ok.mono HC.out.size))
    obtain ⟨w6, hn⟩ : ∃ u, v.val = u := ⟨_, rfl⟩
    rw [hn] at HA HB HD HC ⊢
    clear hn v
    go_wp2_with fail
    obtain ⟨k0, k1, k2⟩ := HA.out.kin
    obtain ⟨l0, l1, l2⟩ := HB.out.kin
    obtain ⟨m0, m1, m2⟩ := HD.out.kin
    refine Qin.region (I := Below w6.heap.size w6) (Qin.start _ w6) (by kernel_rfl) (by kernel_rfl) ?_
    repeat (go_big_quiet_step ((first | (go_at_call 39; with_reducible exact HA1.out _ _) | (go_at_call 41; with_reducible exact HD1.out _ _) | (go_at_call 22; with_reducible exact HF1.out _ _))))
    refine wpQuiet_nil ?_
    intro v
    clear k0 k1 k2 l0 l1 l2 m0 m1 m2
    replace HA := hide (HA.out.keep v.ok HA.out.lt)
    replace HB := hide (HB.out.keep v.ok HB.out.lt)
    replace HD := hide (HD.out.keep v.ok HD.out.lt)
    replace HC := hide (HC.out.trans (v.ok.mono HC.out.size))
    obtain ⟨w7, hn⟩ : ∃ u, v.val = u := ⟨_, rfl⟩
    rw [hn] at HA HB HD HC ⊢
    clear hn v
    obtain ⟨qq, ok, s, hdv, hsg, hcase⟩ : ∃ (qq : Rat) (ok : Bool) (s : Int), divQ m1 qb = (qq, ok) ∧ sgnQ qb = s ∧ ((ok = false ∧ s = 0) ∨ (qq = qa ∧ ok = true ∧ s = 1) ∨ (qq = qa ∧ ok = true ∧ s = -1)) := by
      by_cases h : qb = 0
      · obtain ⟨e1, e2⟩ := hz.out h
        exact ⟨0, false, _, e1, rfl, .inl ⟨rfl, e2⟩⟩
      · obtain ⟨e1, e2⟩ := hnz.out h
        have hb := sgnQ_bd qb
        rcases (by omega : sgnQ qb = 1 ∨ sgnQ qb = -1) with h3 | h3
        · exact ⟨qa, true, _, e1, rfl, .inr (.inl ⟨rfl, rfl, h3⟩)⟩
        · exact ⟨qa, true, _, e1, rfl, .inr (.inr ⟨rfl, rfl, h3⟩)⟩
    have HDV := Lib.hid (div_s HM1.out HSb.out hdv)
    have HSG := Lib.hid (fun W (v : Qin.In (Below W.heap.size W)) => v_in (sgn_s HSb.out hsg v.val))
    have HCA := hide hcase
    clear hdv hsg hcase hz hnz
    go_upto_region 7 with fail
    go_cut [11, 12] (fun va vb wx => Quo w7 qq va wx ∧ vb = .bool ok)
    case first =>
      obtain ⟨k0, k1, k2⟩ := HA.out.kin
      obtain ⟨l0, l1, l2⟩ := HB.out.kin
      have hb8 := draw_below w7
      refine Qmt.wp_region (C := Beh w7) (by kernel_rfl) (by kernel_rfl) ?_
      generalize { w7 with drawn := w7.drawn + 1 } = w8 at *
      refine Qmt.takes [0, 1, 3] 8 _ _ _ (beh hb8) (by kernel_rfl) ?_
      simp only [List.filterMap_cons, List.filterMap_nil, List.getElem?_toArray, List.getElem?_cons_zero, List.getElem?_cons_succ]
      change wpQuiet _ _ _ _ [_, _, _] _
      repeat (go_big_quiet_step (fail))
      refine wpQuiet_nil ?_
      refine Qmt.fork [2, 8] (beh hb8) (by kernel_rfl) (by simp) ⟨?_, ?_, trivial⟩
      · refine Qmt.by_op rfl (by kernel_rfl) ?_
        go_wp2_with fail
        refine (HBm.out _).mono ?_
        rintro e w9 ⟨rfl, hb9⟩
        have hB9 := hb8.trans (hb9.mono hb8.size)
        go_wp2_with fail
        refine ⟨rfl, ?_⟩
        refine Qmt.fork [4, 8] (beh hB9) (by kernel_rfl) (by simp) ⟨?_, ?_, trivial⟩
        · refine Qmt.by_op rfl (by kernel_rfl) ?_
          go_wp2_with fail
          refine (HDV.out _).mono ?_
          rintro e w10 ⟨rfl, hb10⟩
          have hB10 := hB9.trans (hb10.mono hB9.size)
          go_wp2_with fail
          refine ⟨rfl, ?_⟩
          refine Qmt.takes [5, 6, 7] 3 _ _ _ (beh hB10) (by kernel_rfl) ?_
          simp only [List.filterMap_cons, List.filterMap_nil, List.getElem?_toArray, List.getElem?_cons_zero, List.getElem?_cons_succ]
          change wpQuiet _ _ _ _ [_, _, _] _
          repeat (go_big_quiet_step (fail))
          refine wpQuiet_nil ?_
          refine Qmt.fork [8] (beh hB10) (by kernel_rfl) (by simp) ⟨?_, trivial⟩
          refine Qmt.by_op rfl (by kernel_rfl) ?_
          obtain ⟨w11, hV11, HX, hb11, hl11⟩ := box_new w10 (.bool false) (.string ⟨#[]⟩) (.string ⟨#[]⟩)
          have hB11 := hB10.trans (hb11.mono hB10.size)
          have hk : w7.heap.size ≤ w10.heap.size := hB10.size
          go_wp2_with fail
          refine ⟨rfl, ?_⟩
          clear hV11
          refine Qmt.fork [9] (beh hB11) (by kernel_rfl) (by simp) ⟨?_, trivial⟩
          refine Qmt.by_op rfl (by kernel_rfl) ?_
          have HX2 := hide (HX.out.set3 (.bool (negB qq)) (.string (bs (nm qq))) (.string (dstr qq)))
          have hBf := below_set3 (k := w10.heap.size) hB11 hk (.bool (negB qq)) (.string (bs (nm qq))) (.string (dstr qq))
          obtain ⟨c0, c1, c2, f0, f1, f2⟩ := HX.out
          go_wp2_with fail
          refine ⟨rfl, ?_⟩
          refine Qmt.takes [10] 0 _ _ _ (beh hBf) (by kernel_rfl) ?_
          simp only [List.filterMap_cons, List.filterMap_nil, List.getElem?_toArray, List.getElem?_cons_zero, List.getElem?_cons_succ]
          change wpQuiet _ _ _ _ [_] _
          repeat (go_big_quiet_step (fail))
          refine wpQuiet_nil ?_
          refine Qmt.by_end (beh hBf) (by kernel_rfl) ?_
          go_wp2_with fail
          go_meet
          case rel => exact ⟨⟨_, rfl, HX2.out, hBf⟩, rfl⟩
        · refine Qmt.by_op rfl (by kernel_rfl) ?_
          obtain ⟨w10, hV10, HX, hb10, hl10⟩ := box_new w9 (.bool false) (.string ⟨#[]⟩) (.string ⟨#[]⟩)
          have hB10 := hB9.trans (hb10.mono hB9.size)
          have hk : w7.heap.size ≤ w9.heap.size := hB9.size
          go_wp2_with fail
          refine ⟨rfl, ?_⟩
          clear hV10
          refine Qmt.fork [4] (beh hB10) (by kernel_rfl) (by simp) ⟨?_, trivial⟩
          refine Qmt.by_op rfl (by kernel_rfl) ?_
          go_wp2_with fail
          refine (HDV.out _).mono ?_
          rintro e w11 ⟨rfl, hb11⟩
          have hB11 := hB10.trans (hb11.mono hB10.size)
          replace HX := hide (HX.out.keep hb11 HX.out.lt)
          go_wp2_with fail
          refine ⟨rfl, ?_⟩
          refine Qmt.takes [5, 6, 7] 2 _ _ _ (beh hB11) (by kernel_rfl) ?_
          simp only [List.filterMap_cons, List.filterMap_nil, List.getElem?_toArray, List.getElem?_cons_zero, List.getElem?_cons_succ]
          change wpQuiet _ _ _ _ [_, _, _] _
          repeat (go_big_quiet_step (fail))
          refine wpQuiet_nil ?_
          refine Qmt.fork [9] (beh hB11) (by kernel_rfl) (by simp) ⟨?_, trivial⟩
          refine Qmt.by_op rfl (by kernel_rfl) ?_
          have HX2 := hide (HX.out.set3 (.bool (negB qq)) (.string (bs (nm qq))) (.string (dstr qq)))
          have hBf := below_set3 (k := w9.heap.size) hB11 hk (.bool (negB qq)) (.string (bs (nm qq))) (.string (dstr qq))
          obtain ⟨c0, c1, c2, f0, f1, f2⟩ := HX.out
          go_wp2_with fail
          refine ⟨rfl, ?_⟩
          refine Qmt.takes [10] 0 _ _ _ (beh hBf) (by kernel_rfl) ?_
          simp only [List.filterMap_cons, List.filterMap_nil, List.getElem?_toArray, List.getElem?_cons_zero, List.getElem?_cons_succ]
          change wpQuiet _ _ _ _ [_] _
          repeat (go_big_quiet_step (fail))
          refine wpQuiet_nil ?_
          refine Qmt.by_end (beh hBf) (by kernel_rfl) ?_
          go_wp2_with fail
          go_meet
          case rel => exact ⟨⟨_, rfl, HX2.out, hBf⟩, rfl⟩
      · refine Qmt.by_op rfl (by kernel_rfl) ?_
        obtain ⟨w9, hV9, HX, hb9, hl9⟩ := box_new w8 (.bool false) (.string ⟨#[]⟩) (.string ⟨#[]⟩)
        have hB9 := hb8.trans (hb9.mono hb8.size)
        have hk : w7.heap.size ≤ w8.heap.size := hb8.size
        go_wp2_with fail
        refine ⟨rfl, ?_⟩
        clear hV9
        refine Qmt.fork [2] (beh hB9) (by kernel_rfl) (by simp) ⟨?_, trivial⟩
        refine Qmt.by_op rfl (by kernel_rfl) ?_
        go_wp2_with fail
        refine (HBm.out _).mono ?_
        rintro e w10 ⟨rfl, hb10⟩
        have hB10 := hB9.trans (hb10.mono hB9.size)
        replace HX := hide (HX.out.keep hb10 HX.out.lt)
        go_wp2_with fail
        refine ⟨rfl, ?_⟩
        refine Qmt.fork [4] (beh hB10) (by kernel_rfl) (by simp) ⟨?_, trivial⟩
        refine Qmt.by_op rfl (by kernel_rfl) ?_
        go_wp2_with fail
        refine (HDV.out _).mono ?_
        rintro e w11 ⟨rfl, hb11⟩
        have hB11 := hB10.trans (hb11.mono hB10.size)
        replace HX := hide (HX.out.keep hb11 HX.out.lt)
        go_wp2_with fail
        refine ⟨rfl, ?_⟩
        refine Qmt.takes [5, 6, 7] 2 _ _ _ (beh hB11) (by kernel_rfl) ?_
        simp only [List.filterMap_cons, List.filterMap_nil, List.getElem?_toArray, List.getElem?_cons_zero, List.getElem?_cons_succ]
        change wpQuiet _ _ _ _ [_, _, _] _
        repeat (go_big_quiet_step (fail))
        refine wpQuiet_nil ?_
        refine Qmt.fork [9] (beh hB11) (by kernel_rfl) (by simp) ⟨?_, trivial⟩
        refine Qmt.by_op rfl (by kernel_rfl) ?_
        have HX2 := hide (HX.out.set3 (.bool (negB qq)) (.string (bs (nm qq))) (.string (dstr qq)))
        have hBf := below_set3 (k := w8.heap.size) hB11 hk (.bool (negB qq)) (.string (bs (nm qq))) (.string (dstr qq))
        obtain ⟨c0, c1, c2, f0, f1, f2⟩ := HX.out
        go_wp2_with fail
        refine ⟨rfl, ?_⟩
        refine Qmt.takes [10] 0 _ _ _ (beh hBf) (by kernel_rfl) ?_
        simp only [List.filterMap_cons, List.filterMap_nil, List.getElem?_toArray, List.getElem?_cons_zero, List.getElem?_cons_succ]
        change wpQuiet _ _ _ _ [_] _
        repeat (go_big_quiet_step (fail))
        refine wpQuiet_nil ?_
        refine Qmt.by_end (beh hBf) (by kernel_rfl) ?_
        go_wp2_with fail
        go_meet
        case rel => exact ⟨⟨_, rfl, HX2.out, hBf⟩, rfl⟩
    case rest =>
      obtain ⟨⟨k, rfl, hX, hb9⟩, rfl⟩ := hcut
      have HX := hide hX
      replace HA := hide (HA.out.keep hb9 HA.out.lt)
      replace HB := hide (HB.out.keep hb9 HB.out.lt)
      replace HC := hide (HC.out.trans (hb9.mono HC.out.size))
      clear hX hb9 HD
      rcases HCA.out with ⟨rfl, rfl⟩ | ⟨rfl, rfl, rfl⟩ | ⟨rfl, rfl, rfl⟩
      · clear HA1
        clear HCA
        go_wp2_with fail
        obtain ⟨k0, k1, k2⟩ := HA.out.kin
        obtain ⟨l0, l1, l2⟩ := HB.out.kin
        obtain ⟨m0, m1, m2⟩ := HX.out.kin
        refine Qin.region (I := Below wc.heap.size wc) (Qin.start _ wc) (by kernel_rfl) (by kernel_rfl) ?_
        repeat (go_big_quiet_step ((first | (go_at_call 48; with_reducible exact HSG.out _ _) | (go_at_call 22; with_reducible exact HF1.out _ _))))
        refine wpQuiet_nil ?_
        intro v
        have HC9 := hide (HC.out.trans (v.ok.mono HC.out.size))
        have he9 := hide (HE.out.below HC9.out)
        have HAW9 := hide (HAW.out _ he9.out)
        clear k0 k1 k2 l0 l1 l2 m0 m1 m2
        go_wp2_with fail
        refine HAW9.out.mono ?_
        rintro e w11 ⟨rfl, hb11⟩
        have hbf := HC9.out.trans (hb11.mono HC9.out.size)
        clear hb11
        go_wp2_with fail
        go_ret
        exact ⟨rfl, hbf⟩
      · clear HA1
        clear HCA
        go_wp2_with fail
        obtain ⟨k0, k1, k2⟩ := HA.out.kin
        obtain ⟨l0, l1, l2⟩ := HB.out.kin
        obtain ⟨m0, m1, m2⟩ := HX.out.kin
        refine Qin.region (I := Below wc.heap.size wc) (Qin.start _ wc) (by kernel_rfl) (by kernel_rfl) ?_
        repeat (go_big_quiet_step ((first | (go_at_call 48; with_reducible exact HSG.out _ _) | (go_at_call 22; with_reducible exact HF1.out _ _))))
        refine wpQuiet_nil ?_
        intro v
        have HC9 := hide (HC.out.trans (v.ok.mono HC.out.size))
        have he9 := hide (HE.out.below HC9.out)
        have HAW9 := hide (HAW.out _ he9.out)
        clear k0 k1 k2 l0 l1 l2 m0 m1 m2
        go_wp2_with fail
        refine HAW9.out.mono ?_
        rintro e w11 ⟨rfl, hb11⟩
        have hbf := HC9.out.trans (hb11.mono HC9.out.size)
        clear hb11
        go_wp2_with fail
        go_ret
        exact ⟨rfl, hbf⟩
      · clear HA1
        clear HCA
        go_wp2_with fail
        obtain ⟨k0, k1, k2⟩ := HA.out.kin
        obtain ⟨l0, l1, l2⟩ := HB.out.kin
        obtain ⟨m0, m1, m2⟩ := HX.out.kin
        refine Qin.region (I := Below wc.heap.size wc) (Qin.start _ wc) (by kernel_rfl) (by kernel_rfl) ?_
        repeat (go_big_quiet_step ((first | (go_at_call 48; with_reducible exact HSG.out _ _) | (go_at_call 22; with_reducible exact HF1.out _ _))))
        refine wpQuiet_nil ?_
        intro v
        have HC9 := hide (HC.out.trans (v.ok.mono HC.out.size))
        have he9 := hide (HE.out.below HC9.out)
        have HAW9 := hide (HAW.out _ he9.out)
        clear k0 k1 k2 l0 l1 l2 m0 m1 m2
        go_wp2_with fail
        refine HAW9.out.mono ?_
        rintro e w11 ⟨rfl, hb11⟩
        have hbf := HC9.out.trans (hb11.mono HC9.out.size)
        clear hb11
        go_wp2_with fail
        go_ret
        exact ⟨rfl, hbf⟩
end Go.Proofs.YthppojbabkljpaaGreatDoor.RsLaw10
