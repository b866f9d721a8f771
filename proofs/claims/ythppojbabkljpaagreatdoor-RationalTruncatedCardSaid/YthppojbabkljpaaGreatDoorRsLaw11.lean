/- The walk of the law RationalTruncated. -/
import Derived.Test.YthppojbabkljpaaGreatDoorRsU
import Derived.Test.YthppojbabkljpaaGreatDoorQmu
namespace Go.Proofs.YthppojbabkljpaaGreatDoor.RsLaw11
open Go.RowKit RnA RnB RnS RnC RnK RnM RnL RnN RnD RnE RnQ RnR RnG RnP RnW RnX RoA RoB RoC RoD RoE RoF RoG RoH RoI RoJ RoK RoL RoM RoN PnA PnB PnC PnD PnE PnF PnG PnH PnI PnJ PnK PnL RtA RtB RtC RtD RtE RtG RtH RtI RtJ RpA RpB RpC RpD RpE RpF RpG RpH RnY RpI RpJ RpK RpL RsX RsY RsW RsV RsU
theorem cmp_lt' {a b : Rat} (h : a < b) : cmpQ a b < 0 := cmp_lt h
theorem trunc_pos {q : Rat} (n : Nat) (hn : negB q = false) : 0 ≤ sgnQ (q - mk (negB q) (nm q * 10 ^ n / q.den) (10 ^ n)) ∧ cmpQ (q - mk (negB q) (nm q * 10 ^ n / q.den) (10 ^ n)) (unitQ n) < 0 := by
  have hP : 10 ^ n ≠ 0 := by have : 0 < 10 ^ n := Nat.pow_pos (by omega); omega
  obtain ⟨h1, h2⟩ := trunc_bounds (nm q) q.den (10 ^ n) q.den_nz hP
  have e := mk_nm q
  rw [hn] at e ⊢
  rw [e] at h1 h2
  rw [unitQ_eq]
  exact ⟨sgn_nonneg h1, cmp_lt h2⟩
theorem trunc_neg {q : Rat} (n : Nat) (hn : negB q = true) : 0 ≤ sgnQ (-(q - mk (negB q) (nm q * 10 ^ n / q.den) (10 ^ n))) ∧ cmpQ (-(q - mk (negB q) (nm q * 10 ^ n / q.den) (10 ^ n))) (unitQ n) < 0 := by
  have hP : 10 ^ n ≠ 0 := by have : 0 < 10 ^ n := Nat.pow_pos (by omega); omega
  obtain ⟨h1, h2⟩ := trunc_bounds (nm q) q.den (10 ^ n) q.den_nz hP
  have e := mk_nm q
  rw [hn] at e ⊢
  have e1 : mk true (nm q) q.den = -mk false (nm q) q.den := mk_neg_eq false _ _
  have e2 : mk true (nm q * 10 ^ n / q.den) (10 ^ n) = -mk false (nm q * 10 ^ n / q.den) (10 ^ n) := mk_neg_eq false _ _
  rw [e1] at e
  rw [e2, unitQ_eq]
  have e3 : -(q - -mk false (nm q * 10 ^ n / q.den) (10 ^ n)) = mk false (nm q) q.den - mk false (nm q * 10 ^ n / q.den) (10 ^ n) := by
    generalize mk false (nm q) q.den = x at *
    generalize mk false (nm q * 10 ^ n / q.den) (10 ^ n) = y at *
    rw [← e]
    grind
  rw [e3]
  exact ⟨sgn_nonneg h1, cmp_lt h2⟩
theorem ten_lt (n : Nat) (h : n ≤ 20) : 10 ^ n < 256 ^ 9 := Nat.lt_of_le_of_lt (Nat.pow_le_pow_right (by omega) h) (by decide)
theorem unit_lt (n : Nat) (h : n ≤ 20) : Lt (unitQ n) 9 := by
  rw [unitQ_eq]
  have hP : 10 ^ n ≠ 0 := by have : 0 < 10 ^ n := Nat.pow_pos (by omega); omega
  exact mk_lt hP (by decide) (ten_lt n h)
theorem unit_div (n : Nat) : divQ (unitQ n) (intQ 10) = (unitQ (n + 1), true) := by
  have h10 : intQ 10 = 10 := rfl
  rw [h10]
  unfold divQ
  rw [if_neg (by decide)]
  rfl
theorem neg_sgn {q : Rat} (h : negB q = true) : sgnQ q = -1 := by rw [sgnQ_eq, if_neg (nm_neg h), if_pos h]
theorem pos_sgn {q : Rat} (h : negB q = false) : 0 ≤ sgnQ q := by
  rw [sgnQ_eq]
  split
  · omega
  · rw [if_neg (by rw [h]; exact Bool.false_ne_true)]; omega
theorem trunc_lt {q : Rat} (n : Nat) (h : n ≤ 20) (hq : Lt q 24) : Lt (mk (negB q) (nm q * 10 ^ n / q.den) (10 ^ n)) 33 := by
  have hP : 10 ^ n ≠ 0 := by have : 0 < 10 ^ n := Nat.pow_pos (by omega); omega
  refine mk_lt hP ?_ (Nat.lt_of_lt_of_le (ten_lt n h) (pow_mono (by decide)))
  exact Nat.lt_of_le_of_lt (Nat.div_le_self _ _) (mul_lt hq.1 (ten_lt n h))
theorem shown_dec {q : Rat} (n : Nat) (h : n ≤ 20) (hq : Lt q 24) : (decOf (nm q * 10 ^ n / q.den)).length ≤ 100 := by
  have h1 := dec_size (nm q * 10 ^ n / q.den)
  rw [st_size] at h1
  have h2 : (bs (nm q * 10 ^ n / q.den)).size ≤ 33 := lt_bs.1 (Nat.lt_of_le_of_lt (Nat.div_le_self _ _) (mul_lt hq.1 (ten_lt n h)))
  omega
theorem decimal_len {q : Rat} (n : Nat) (h : n ≤ 20) (hq : Lt q 24) : (st (decimalQ q n)).size ≤ 200 := by
  have h1 := shown_dec n h hq
  rw [st_size]
  unfold decimalQ
  rw [List.length_append]
  have h2 : (shown (nm q * 10 ^ n / q.den) n).length ≤ 121 := by
    unfold shown
    rw [List.length_append, List.length_replicate]
    omega
  have h3 : (pointed (shown (nm q * 10 ^ n / q.den) n) n).length ≤ 122 := by
    unfold pointed
    split
    · rw [List.length_append, List.length_cons, List.length_take, List.length_drop]; omega
    · omega
  have h4 : (if negB q = true ∧ nm q * 10 ^ n / q.den ≠ 0 then [45] else [] : List UInt8).length ≤ 1 := by split <;> simp
  omega
set_option maxHeartbeats 8000000 in
set_option maxRecDepth 100000 in
theorem truncated_law (n : Bool) (a d : ByteArray) (p : Int) (w : World) (h1 : a.size ≤ maxLen) (h2 : d.size ≤ maxLen) (hp : 0 ≤ p ∧ p ≤ 255) (he : Env w) :
    Calls Tryz.prog 15 #[.agg #[.bool n, .string a, .string d], .int .u8 p] w fun e w' => e = .returned (.bool true) ∧ Below w.heap.size w w' := by
  have HAW := Lib.hid (fun w (h : Env w) => awake_any w h)
  obtain ⟨V0, hV0, HX0, hc0, hl0⟩ := box_new w (.bool n) (.string a) (.string d)
  obtain ⟨V1, hV1, HL1, hc1, hl1⟩ := box_new V0 (.bool n) (.string a) (.string d)
  have HA3 := hide (HX0.out.keep hc1 hl0)
  have HC3 := hide (hc0.trans (hc1.mono hc0.size))
  have HFEW := hide (few_one n a d V1 V0.heap.size h1 h2 HL1.out)
  obtain ⟨a0, a1, a2, _⟩ := HX0.out
  clear hc0 hc1
  cases hf : fewB a d
  · rw [hf] at HFEW
    go_enter Tryz.func15, Tryz.ntmps15
    go_wp2_with fail
    refine HFEW.out.mono ?_
    rintro e w2 ⟨rfl, hb2⟩
    have hbf := HC3.out.trans (hb2.mono HC3.out.size)
    have he2 := hide (he.below hbf)
    go_wp2_with fail
    refine (HAW.out _ he2.out).mono ?_
    rintro e w3 ⟨rfl, hb3⟩
    go_wp2_with fail
    go_ret
    exact ⟨rfl, hbf.trans (hb3.mono hbf.size)⟩
  · rw [hf] at HFEW
    obtain ⟨x1, x2⟩ := few_size hf
    have hlq := lt_raw (n := n) x1 x2 (by decide)
    obtain ⟨q, hq⟩ : ∃ q, fixQ n a.data.toList d.data.toList = q := ⟨_, rfl⟩
    rw [hq] at hlq
    have Sq := Sm.raw hq x1 x2
    obtain ⟨N, hN⟩ : ∃ N : Nat, (p % 21).toNat = N := ⟨_, rfl⟩
    have hN20 : N ≤ 20 := by omega
    have hNv : Hid (p % 21 = (N : Int)) := by show _ = _; omega
    have hcl : clampN (N : Int) = N := by unfold clampN; omega
    have PD := Lib.hid (fun w => decimal_any n a d (N : Int) w (by omega) (by omega))
    rw [hq, hcl] at PD
    have hdl := decimal_len N hN20 hlq
    have PP := Lib.hid (fun w (h : Env w) => parse_any (st (decimalQ q N)) w (by omega) h)
    rw [st_data, parse_decimal q N (Nat.le_trans (shown_dec N hN20 hlq) (by decide)) hN20] at PP
    have hlx := trunc_lt N hN20 hlq
    have hpos := hide (fun h => trunc_pos (q := q) N h)
    have hneg := hide (fun h => trunc_neg (q := q) N h)
    generalize mk (negB q) (nm q * 10 ^ N / q.den) (10 ^ N) = x at *
    have hld := hlq.add hlx.neg
    rw [show q + -x = q - x by grind] at hld
    have Sx := Sm.enc hlx (by decide)
    have Sd := Sm.enc hld (by decide)
    have Se := Sm.enc hld.neg (by decide)
    have PS := Lib.hid (sub_s Sq Sx rfl)
    have PG := Lib.hid (fun s (hs : sgnQ q = s) => sgn_s Sq hs)
    have PN := Lib.hid (neg_s Sd rfl)
    have Su := hide (fun k (hk : k ≤ 20) => Sm.enc (unit_lt k hk) (by decide : 9 ≤ 1000))
    have PI1 := Lib.hid (int_s (m := 1) ⟨by decide, by decide⟩ (show intQ 1 = unitQ 0 from rfl))
    have PI10 := Lib.hid (int_s (m := 10) ⟨by decide, by decide⟩ rfl)
    have S10 := Sm.enc (lt_int (n := 10) ⟨by decide, by decide⟩) (by decide)
    have PV := hide (fun k (hk : k ≤ 20) => div_s (Su.out k hk) S10 (unit_div k))
    have PGd := Lib.hid (fun s (hs : sgnQ (q - x) = s) => sgn_s Sd hs)
    have PGe := Lib.hid (fun s (hs : sgnQ (-(q - x)) = s) => sgn_s Se hs)
    have PCd := Lib.hid (fun s (hs : cmpQ (q - x) (unitQ N) = s) => cmp_s Sd (Su.out N hN20) hs)
    have PCe := Lib.hid (fun s (hs : cmpQ (-(q - x)) (unitQ N) = s) => cmp_s Se (Su.out N hN20) hs)
    unfold RCPost at PP
    unfold SPost at PD
    simp only [enc_open] at PP
    generalize st (decimalQ q N) = T at *
    have HE := hide he
    clear hlq hlx hld Sx Sd Se S10 hcl hN he Sq Su
    generalize hDD : q - x = D at *
    generalize hEE : -D = E at *
    clear hDD hEE
    generalize intQ 10 = ten at *
    clear h1 h2 hf x1 x2
    go_enter Tryz.func15, Tryz.ntmps15
    go_wp2_with fail
    refine HFEW.out.mono ?_
    rintro e w3 ⟨rfl, hb3⟩
    have HA4 := hide (HA3.out.keep hb3 HA3.out.lt)
    have HC4 := hide (HC3.out.trans (hb3.mono HC3.out.size))
    clear a0 a1 a2 hb3 HA3 HC3 HFEW hV0 hV1 HX0 HL1
    go_upto_region 3 with fail
    go_cut [5] (fun v wx => v = .int .i64 (N : Int) ∧ w3 = wx)
    case first =>
      go_wp2_with fail
      go_meet
      case rel => exact ⟨by rw [← hNv.out], rfl⟩
    case rest =>
      obtain ⟨rfl, rfl⟩ := hcut
      clear hNv hp
      go_wp2_with fail
      refine (PI1.out _).mono ?_
      rintro e w5 ⟨rfl, hb5⟩
      have HA5 := hide (HA4.out.keep hb5 HA4.out.lt)
      have HC5 := hide (HC4.out.trans (hb5.mono HC4.out.size))
      clear hb5 HA4 HC4
      obtain ⟨V6, hV6, HU6, hc6, hl6⟩ := box_new w5 (.bool (negB (unitQ 0))) (.string (bs (nm (unitQ 0)))) (.string (dstr (unitQ 0)))
      have HC6 := hide hc6
      clear hc6
      go_wp2_with fail
      go_loopw [7] (fun vi wr => ∃ k : Nat, vi = .int .i64 k ∧ k ≤ N ∧ Hid (Bx wr w5.heap.size (.bool (negB (unitQ k))) (.string (bs (nm (unitQ k)))) (.string (dstr (unitQ k)))) ∧ Below w5.heap.size w5 wr) (fun vi _ => N - (intOf vi).toNat)
      case atStart => exact ⟨0, rfl, by omega, HU6, HC6.out⟩
      case round =>
        obtain ⟨k, rfl, hk, HU, hbr⟩ := hrel
        by_cases hlt : k < N
        · have PVk := Lib.hid (PV.out k (by omega))
          generalize hu2 : unitQ (k + 1) = u2 at *
          generalize unitQ k = u1 at *
          have hU2 := hide hu2
          clear hu2
          go_wp2_with fail
          obtain ⟨k0, k1, k2⟩ := HU.out.kin
          have hb6 := draw_below wr
          have HU7 := hide (HU.out.keep hb6 HU.out.lt)
          refine Qmu.wp_region (C := Beh wr) 6 (by kernel_rfl) (by kernel_rfl) (by kernel_rfl) ?_
          generalize { wr with drawn := wr.drawn + 1 } = w6 at *
          refine Qmu.takes (s := 6) (beh hb6) [0] 6 _ _ _ (fun _ => beh hb6) (by decide) (by kernel_rfl) ?_
          simp only [List.filterMap_cons, List.filterMap_nil, List.getElem?_toArray, List.getElem?_cons_zero]
          change wpQuiet _ _ _ _ [_] _
          repeat (go_big_quiet_step (fail))
          refine wpQuiet_nil ?_
          refine Qmu.fork [1] (fun _ => beh hb6) (by kernel_rfl) (by simp) ⟨?_, trivial⟩
          refine Qmu.by_op rfl (by kernel_rfl) ?_
          go_wp2_with fail
          refine (PI10.out _).mono ?_
          rintro e w7 ⟨rfl, hb7⟩
          have hB7 := hb6.trans (hb7.mono hb6.size)
          replace HU7 := hide (HU7.out.keep hb7 HU7.out.lt)
          clear hb7
          go_wp2_with fail
          refine ⟨rfl, ?_⟩
          refine Qmu.fork [2] (fun _ => beh hB7) (by kernel_rfl) (by simp) ⟨?_, trivial⟩
          refine Qmu.by_op rfl (by kernel_rfl) ?_
          go_wp2_with fail
          refine (PVk.out _).mono ?_
          rintro e w8 ⟨rfl, hb8⟩
          have hB8 := hB7.trans (hb8.mono hB7.size)
          replace HU7 := hide (HU7.out.keep hb8 HU7.out.lt)
          clear hb8
          go_wp2_with fail
          refine ⟨rfl, ?_⟩
          refine Qmu.takes (s := 6) (beh hb6) [3, 4, 5] 1 _ _ _ (fun _ => beh hB8) (by decide) (by kernel_rfl) ?_
          simp only [List.filterMap_cons, List.filterMap_nil, List.getElem?_toArray, List.getElem?_cons_zero, List.getElem?_cons_succ]
          change wpQuiet _ _ _ _ [_, _, _] _
          repeat (go_big_quiet_step (fail))
          refine wpQuiet_nil ?_
          refine Qmu.fork [6] (fun _ => beh hB8) (by kernel_rfl) (by simp) ⟨?_, trivial⟩
          refine Qmu.by_op rfl (by kernel_rfl) ?_
          have HU8 := hide (HU7.out.set3 (.bool (negB u2)) (.string (bs (nm u2))) (.string (dstr u2)))
          have HB8 := hide (below_set3 (k := w5.heap.size) (hbr.trans (hB8.mono hbr.size)) (Nat.le_refl _) (.bool (negB u2)) (.string (bs (nm u2))) (.string (dstr u2)))
          obtain ⟨c0, c1, c2, f0, f1, f2⟩ := HU7.out
          go_wp2_with fail
          refine ⟨rfl, ?_⟩
          refine Qmu.by_end (Qmu.past (by kernel_rfl)) (by kernel_rfl) ?_
          go_wp2_with fail
          go_roundw
          case rel => exact ⟨k + 1, by go_num, by omega, hU2.out.symm ▸ HU8, HB8.out⟩
          case measure => simp [intOf]; omega
        · have hkN : k = N := by omega
          subst hkN
          generalize unitQ k = u1 at *
          have HA6 := hide (HA5.out.keep hbr HA5.out.lt)
          have HU6b := HU
          have HB6 := hide (HC5.out.trans (hbr.mono HC5.out.size))
          clear hbr HA5 HC5 HC6 HU6 hV6 PV PI10 PI1 HU hl6
          obtain ⟨a0, a1, a2, _⟩ := HA6.out
          go_wp2_with fail
          refine (PD.out _).mono ?_
          rintro e w7 ⟨rfl, hb7⟩
          have HA7 := hide (HA6.out.keep hb7 HA6.out.lt)
          have HU7 := hide (HU6b.out.keep hb7 HU6b.out.lt)
          have HB7 := hide (HB6.out.trans (hb7.mono HB6.out.size))
          have he7 := hide (HE.out.below HB7.out)
          have PP7 := hide (PP.out _ he7.out)
          clear hb7 a0 a1 a2 HA6 HU6b HB6 PD PP he7
          go_wp2_with fail
          refine PP7.out.mono ?_
          rintro e w8 ⟨rfl, hb8⟩
          obtain ⟨V9, hV9, HX9, hc9, hl9⟩ := box_new w8 (.bool (negB x)) (.string (bs (nm x))) (.string (dstr x))
          have hb9 := hb8.trans (hc9.mono hb8.size)
          have HA9 := hide (HA7.out.keep hb9 HA7.out.lt)
          have HU9 := hide (HU7.out.keep hb9 HU7.out.lt)
          have HB9 := hide (HB7.out.trans (hb9.mono HB7.out.size))
          clear hb8 hc9 hb9 HA7 HU7 HB7 PP7
          obtain ⟨a0, a1, a2, _⟩ := HA9.out
          obtain ⟨c0, c1, c2, _⟩ := HX9.out
          go_wp2_with fail
          refine (PS.out _).mono ?_
          rintro e w10 ⟨rfl, hb10⟩
          obtain ⟨V11, hV11, HD11, hc11, hl11⟩ := box_new w10 (.bool (negB D)) (.string (bs (nm D))) (.string (dstr D))
          have hb11 := hb10.trans (hc11.mono hb10.size)
          have HA11 := hide (HA9.out.keep hb11 HA9.out.lt)
          have HU11 := hide (HU9.out.keep hb11 HU9.out.lt)
          have HB11 := hide (HB9.out.trans (hb11.mono HB9.out.size))
          have HK10 : w.heap.size ≤ w10.heap.size := by
            have := HB9.out.size
            have := hb10.size
            omega
          have HKU : w5.heap.size ≠ w10.heap.size := by
            have := HU9.out.lt
            have := hb10.size
            omega
          clear hb10 hc11 hb11 HA9 HU9 HB9 HX9 a0 a1 a2 c0 c1 c2 PS
          obtain ⟨a0, a1, a2, _⟩ := HA11.out
          cases hn : negB q
          · obtain ⟨g1, g2⟩ := hpos.out hn
            have PG0 := hide (PG.out _ rfl)
            have hs0 := pos_sgn hn
            have PGd0 := hide (PGd.out _ rfl)
            have PCd0 := hide (PCd.out _ rfl)
            generalize sgnQ q = s0 at *
            generalize sgnQ D = s1 at *
            generalize cmpQ D u1 = c at *
            clear hpos hneg PG PGd PGe PCd PCe PN
            go_wp2_with fail
            refine (PG0.out _).mono ?_
            rintro e w12 ⟨rfl, hb12⟩
            have HD12 := hide (HD11.out.keep hb12 HD11.out.lt)
            have HU12 := hide (HU11.out.keep hb12 HU11.out.lt)
            have HB12 := hide (HB11.out.trans (hb12.mono HB11.out.size))
            have he12 := hide (HE.out.below HB12.out)
            have HAW12 := hide (HAW.out _ he12.out)
            clear hb12 a0 a1 a2 HD11 HU11 HB11 he12
            go_wp2_with fail
            refine HAW12.out.mono ?_
            rintro e w13 ⟨rfl, hb13⟩
            have HD13 := hide (HD12.out.keep hb13 HD12.out.lt)
            have HU13 := hide (HU12.out.keep hb13 HU12.out.lt)
            have HB13 := hide (HB12.out.trans (hb13.mono HB12.out.size))
            clear hb13 HD12 HU12 HB12 HAW12
            obtain ⟨d0, d1, d2, _⟩ := HD13.out
            go_wp2_with fail
            refine (PGd0.out _).mono ?_
            rintro e w14 ⟨rfl, hb14⟩
            have HD14 := hide (HD13.out.keep hb14 HD13.out.lt)
            have HU14 := hide (HU13.out.keep hb14 HU13.out.lt)
            have HB14 := hide (HB13.out.trans (hb14.mono HB13.out.size))
            clear hb14 HD13 HU13 HB13 d0 d1 d2
            obtain ⟨d0, d1, d2, _⟩ := HD14.out
            obtain ⟨c0, c1, c2, _⟩ := HU14.out
            go_wp2_with fail
            refine (PCd0.out _).mono ?_
            rintro e w15 ⟨rfl, hb15⟩
            have hbf := HB14.out.trans (hb15.mono HB14.out.size)
            clear hb15
            go_wp2_with fail
            go_ret
            exact ⟨rfl, hbf⟩
          · obtain ⟨g1, g2⟩ := hneg.out hn
            have PG0 := hide (PG.out _ (neg_sgn hn))
            have PGe0 := hide (PGe.out _ rfl)
            have PCe0 := hide (PCe.out _ rfl)
            generalize sgnQ E = s1 at *
            generalize cmpQ E u1 = c at *
            clear hpos hneg PG PGd PGe PCd PCe
            go_wp2_with fail
            refine (PG0.out _).mono ?_
            rintro e w12 ⟨rfl, hb12⟩
            have HD12 := hide (HD11.out.keep hb12 HD11.out.lt)
            have HU12 := hide (HU11.out.keep hb12 HU11.out.lt)
            have HB12 := hide (HB11.out.trans (hb12.mono HB11.out.size))
            clear hb12 a0 a1 a2 HD11 HU11 HB11
            obtain ⟨d0, d1, d2, _⟩ := HD12.out
            go_wp2_with fail
            refine (PN.out _).mono ?_
            rintro e w13 ⟨rfl, hb13⟩
            have HD13 := hide (HD12.out.keep hb13 HD12.out.lt)
            have HU13 := hide (HU12.out.keep hb13 HU12.out.lt)
            have HB13 := hide (HB12.out.trans (hb13.mono HB12.out.size))
            clear hb13 HD12 HU12 HB12 d0 d1 d2
            have HD14 := hide (HD13.out.set3 (.bool (negB E)) (.string (bs (nm E))) (.string (dstr E)))
            have HU14 := hide (HU13.out.other3 HKU (.bool (negB E)) (.string (bs (nm E))) (.string (dstr E)))
            have HB14 := hide (below_set3 HB13.out HK10 (.bool (negB E)) (.string (bs (nm E))) (.string (dstr E)))
            obtain ⟨d0, d1, d2, f0, f1, f2⟩ := HD13.out
            obtain ⟨W14, hW14⟩ : ∃ V, (((w13.setCell ⟨w10.heap.size, 0, none⟩ (.bool (negB E))).setCell ⟨w10.heap.size, 1, none⟩ (.string (bs (nm E)))).setCell ⟨w10.heap.size, 2, none⟩ (.string (dstr E))) = V := ⟨_, rfl⟩
            rw [hW14] at HD14 HU14 HB14
            have HW14 := hide hW14
            have he14 := hide (HE.out.below HB14.out)
            have HAW14 := hide (HAW.out _ he14.out)
            clear hW14 he14 HU13 HB13
            go_wp2_with fail
            rw [HW14.out]
            clear d0 d1 d2 f0 f1 f2 HW14 HD13
            refine HAW14.out.mono ?_
            rintro e w15 ⟨rfl, hb15⟩
            have HD15 := hide (HD14.out.keep hb15 HD14.out.lt)
            have HU15 := hide (HU14.out.keep hb15 HU14.out.lt)
            have HB15 := hide (HB14.out.trans (hb15.mono HB14.out.size))
            clear hb15 HD14 HU14 HB14 HAW14
            obtain ⟨d0, d1, d2, _⟩ := HD15.out
            go_wp2_with fail
            refine (PGe0.out _).mono ?_
            rintro e w16 ⟨rfl, hb16⟩
            have HD16 := hide (HD15.out.keep hb16 HD15.out.lt)
            have HU16 := hide (HU15.out.keep hb16 HU15.out.lt)
            have HB16 := hide (HB15.out.trans (hb16.mono HB15.out.size))
            clear hb16 HD15 HU15 HB15 d0 d1 d2
            obtain ⟨d0, d1, d2, _⟩ := HD16.out
            obtain ⟨c0, c1, c2, _⟩ := HU16.out
            go_wp2_with fail
            refine (PCe0.out _).mono ?_
            rintro e w17 ⟨rfl, hb17⟩
            have hbf := HB16.out.trans (hb17.mono HB16.out.size)
            clear hb17
            go_wp2_with fail
            go_ret
            exact ⟨rfl, hbf⟩
end Go.Proofs.YthppojbabkljpaaGreatDoor.RsLaw11
