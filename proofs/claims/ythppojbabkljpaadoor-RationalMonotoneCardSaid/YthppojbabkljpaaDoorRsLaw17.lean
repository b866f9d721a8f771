/- The walk of the law RationalMonotone. -/
import Derived.Test.YthppojbabkljpaaDoorRsU
namespace Go.Proofs.YthppojbabkljpaaDoor.RsLaw17
theorem here : True := trivial
open Go.RowKit RnA RnB RnS RnC RnK RnM RnL RnN RnD RnE RnQ RnR RnG RnP RnW RnX RoA RoB RoC RoD RoE RoF RoG RoH RoI RoJ RoK RoL RoM RoN PnA PnB PnC PnD PnE PnF PnG PnH PnI PnJ PnK PnL RtA RtB RtC RtD RtE RtG RtH RtI RtJ RpA RpB RpC RpD RpE RpF RpG RpH RnY RpI RpJ RpK RpL RsX RsY RsW RsV RsU
set_option maxHeartbeats 8000000 in
set_option maxRecDepth 100000 in
theorem monotone_law (n : Bool) (a d : ByteArray) (n' : Bool) (a' d' : ByteArray) (n3 : Bool) (a3 d3 : ByteArray) (w : World) (h1 : a.size ≤ maxLen) (h2 : d.size ≤ maxLen) (h3 : a'.size ≤ maxLen) (h4 : d'.size ≤ maxLen) (h5 : a3.size ≤ maxLen) (h6 : d3.size ≤ maxLen) (he : Env w) :
    Calls Tryd.prog 6 #[.agg #[.bool n, .string a, .string d], .agg #[.bool n', .string a', .string d'], .agg #[.bool n3, .string a3, .string d3]] w fun e w' => e = .returned (.bool true) ∧ Below w.heap.size w w' := by
  have HAW := Lib.hid (fun w (h : Env w) => awake_any w h)
  obtain ⟨W0, W1, W2, hW0, hW1, hW2, hs0, hs1, HA2, HB2, HD2, HC2, hsz⟩ := start3v w (.bool n) (.string a) (.string d) (.bool n') (.string a') (.string d') (.bool n3) (.string a3) (.string d3)
  have HFEW := Lib.hid (few_three n a d n' a' d' n3 a3 d3 W2 23 h1 h2 h3 h4 h5 h6)
  obtain ⟨a0, a1, a2, _⟩ := HA2.out
  obtain ⟨b0, b1, b2, _⟩ := HB2.out
  obtain ⟨d0, d1, d2, _⟩ := HD2.out
  obtain ⟨V, hV⟩ : ∃ V, W2.alloc (.cells #[.bool n, .string a, .string d, .bool n', .string a', .string d', .bool n3, .string a3, .string d3] 23) = V := ⟨_, rfl⟩
  have hbV : Below W2.heap.size W2 V := by rw [← hV]; exact (Below.refl _ _).alloc (Nat.le_refl _) _
  rw [hV] at HFEW
  have HA := hide (HA2.out.keep hbV HA2.out.lt)
  have HB := hide (HB2.out.keep hbV HB2.out.lt)
  have HD := hide (HD2.out.keep hbV HD2.out.lt)
  have HC := hide (HC2.out.trans (hbV.mono HC2.out.size))
  clear hbV
  cases hf : fewB a d && (fewB a' d' && fewB a3 d3)
  · rw [hf] at HFEW
    go_enter Tryd.func6, Tryd.ntmps6
    go_wp2_with fail
    refine HFEW.out.mono ?_
    rintro e w3 ⟨rfl, hb3⟩
    have hbf := HC.out.trans (hb3.mono HC.out.size)
    have he3 := hide (he.below hbf)
    go_wp2_with fail
    refine (HAW.out _ he3.out).mono ?_
    rintro e w4 ⟨rfl, hb4⟩
    go_wp2_with fail
    go_ret
    exact ⟨rfl, hbf.trans (hb4.mono hbf.size)⟩
  · rw [hf] at HFEW
    rw [Bool.and_eq_true, Bool.and_eq_true] at hf
    obtain ⟨x1, x2⟩ := few_size hf.1
    obtain ⟨x3, x4⟩ := few_size hf.2.1
    obtain ⟨x5, x6⟩ := few_size hf.2.2
    have la := lt_raw (n := n) x1 x2 (by decide)
    have lb := lt_raw (n := n') x3 x4 (by decide)
    have lc := lt_raw (n := n3) x5 x6 (by decide)
    obtain ⟨qa, hqa⟩ : ∃ q, fixQ n a.data.toList d.data.toList = q := ⟨_, rfl⟩
    obtain ⟨qb, hqb⟩ : ∃ q, fixQ n' a'.data.toList d'.data.toList = q := ⟨_, rfl⟩
    obtain ⟨qc, hqc⟩ : ∃ q, fixQ n3 a3.data.toList d3.data.toList = q := ⟨_, rfl⟩
    rw [hqa] at la
    rw [hqb] at lb
    rw [hqc] at lc
    have Sa := Sm.raw hqa x1 x2
    have Sb := Sm.raw hqb x3 x4
    have Sc := Sm.raw hqc x5 x6
    have S1 := Sm.enc (la.add lc) (by decide)
    have S2 := Sm.enc (lb.add lc) (by decide)
    have M1 := Sm.enc (la.mul lc) (by decide)
    have M2 := Sm.enc (lb.mul lc) (by decide)
    obtain ⟨s, hs⟩ : ∃ s, cmpQ qa qb = s := ⟨_, rfl⟩
    obtain ⟨g, hg⟩ : ∃ g, sgnQ qc = g := ⟨_, rfl⟩
    have hx : cmpQ (qa + qc) (qb + qc) = s := by rw [cmp_add, hs]
    obtain ⟨y, hy⟩ : ∃ y, cmpQ (qa * qc) (qb * qc) = y := ⟨_, rfl⟩
    have hyv : Hid (y = s * g) := by show _ = _; rw [← hy, cmp_mul, hs, hg]
    have hsb : Hid (s = -1 ∨ s = 0 ∨ s = 1) := by
      show _ ∨ _
      rw [← hs]
      unfold cmpQ
      split
      · exact .inl rfl
      · split
        · exact .inr (.inl rfl)
        · exact .inr (.inr rfl)
    have hgb : Hid (g = -1 ∨ g = 0 ∨ g = 1) := by
      show _ ∨ _
      have := sgnQ_bd qc
      omega
    have C0 := Lib.hid (cmp_s Sa Sb hs)
    have A1 := Lib.hid (fun W (v : Qin.In (Below W.heap.size W)) => v_in (add_s Sa Sc rfl v.val))
    have A2 := Lib.hid (fun W (v : Qin.In (Below W.heap.size W)) => v_in (add_s Sb Sc rfl v.val))
    have C1 := Lib.hid (fun W (v : Qin.In (Below W.heap.size W)) => v_in (cmp_s S1 S2 hx v.val))
    have B1 := Lib.hid (fun W (v : Qin.In (Below W.heap.size W)) => v_in (mul_s Sa Sc rfl v.val))
    have B2 := Lib.hid (fun W (v : Qin.In (Below W.heap.size W)) => v_in (mul_s Sb Sc rfl v.val))
    have C2 := Lib.hid (fun W (v : Qin.In (Below W.heap.size W)) => v_in (cmp_s M1 M2 hy v.val))
    have G1 := Lib.hid (sgn_s Sc hg)
    generalize qa + qc = r1 at *
    generalize qb + qc = r2 at *
    generalize qa * qc = r3 at *
    generalize qb * qc = r4 at *
    have HE := hide he
    clear la lb lc hqa hqb hqc x1 x2 x3 x4 x5 x6 h1 h2 h3 h4 h5 h6 hf he S1 S2 M1 M2 Sa Sb Sc hs hg hx hy
    go_enter Tryd.func6, Tryd.ntmps6
    go_wp2_with fail
    refine HFEW.out.mono ?_
    rintro e w3 ⟨rfl, hb3⟩
    replace HA := hide (HA.out.keep hb3 HA.out.lt)
    replace HB := hide (HB.out.keep hb3 HB.out.lt)
    replace HD := hide (HD.out.keep hb3 HD.out.lt)
    replace HC := hide (HC.out.trans (hb3.mono HC.out.size))
    clear a0 a1 a2 b0 b1 b2 d0 d1 d2 hb3 HFEW hV hW0 hW1 hW2 HA2 HB2 HD2 HC2
    obtain ⟨a0, a1, a2, _⟩ := HA.out
    obtain ⟨b0, b1, b2, _⟩ := HB.out
    go_wp2_with fail
    refine (C0.out _).mono ?_
    rintro e w4 ⟨rfl, hb4⟩
    replace HA := hide (HA.out.keep hb4 HA.out.lt)
    replace HB := hide (HB.out.keep hb4 HB.out.lt)
    replace HD := hide (HD.out.keep hb4 HD.out.lt)
    replace HC := hide (HC.out.trans (hb4.mono HC.out.size))
    clear a0 a1 a2 b0 b1 b2 hb4
    go_wp2_with fail
    obtain ⟨k0, k1, k2⟩ := HA.out.kin
    obtain ⟨l0, l1, l2⟩ := HB.out.kin
    obtain ⟨m0, m1, m2⟩ := HD.out.kin
    refine Qin.region (I := Below w4.heap.size w4) (Qin.start _ w4) (by kernel_rfl) (by kernel_rfl) ?_
    repeat (go_big_quiet_step ((first | (go_at_call 16; with_reducible exact A1.out _ _) | (go_at_call 16; with_reducible exact A2.out _ _) | (go_at_call 17; with_reducible exact C1.out _ _))))
    refine wpQuiet_nil ?_
    intro v
    clear k0 k1 k2 l0 l1 l2 m0 m1 m2
    replace HA := hide (HA.out.keep v.ok HA.out.lt)
    replace HB := hide (HB.out.keep v.ok HB.out.lt)
    replace HD := hide (HD.out.keep v.ok HD.out.lt)
    replace HC := hide (HC.out.trans (v.ok.mono HC.out.size))
    obtain ⟨w5, hn⟩ : ∃ u, v.val = u := ⟨_, rfl⟩
    rw [hn] at HA HB HD HC ⊢
    clear hn v
    go_wp2_with fail
    obtain ⟨k0, k1, k2⟩ := HA.out.kin
    obtain ⟨l0, l1, l2⟩ := HB.out.kin
    obtain ⟨m0, m1, m2⟩ := HD.out.kin
    refine Qin.region (I := Below w5.heap.size w5) (Qin.start _ w5) (by kernel_rfl) (by kernel_rfl) ?_
    repeat (go_big_quiet_step ((first | (go_at_call 18; with_reducible exact B1.out _ _) | (go_at_call 18; with_reducible exact B2.out _ _) | (go_at_call 17; with_reducible exact C2.out _ _))))
    refine wpQuiet_nil ?_
    intro v
    clear k0 k1 k2 l0 l1 l2 m0 m1 m2
    replace HA := hide (HA.out.keep v.ok HA.out.lt)
    replace HB := hide (HB.out.keep v.ok HB.out.lt)
    replace HD := hide (HD.out.keep v.ok HD.out.lt)
    replace HC := hide (HC.out.trans (v.ok.mono HC.out.size))
    obtain ⟨w6, hn⟩ : ∃ u, v.val = u := ⟨_, rfl⟩
    rw [hn] at HA HB HD HC ⊢
    clear hn v
    have he6 := hide (HE.out.below HC.out)
    have HAW6 := hide (HAW.out _ he6.out)
    go_upto_region 6 with fail
    rcases hsb.out with rfl | rfl | rfl <;> rcases hgb.out with rfl | rfl | rfl
    all_goals
      obtain rfl := hyv.out
      go_wp2_with fail
      refine HAW6.out.mono ?_
      rintro e w7 ⟨rfl, hb7⟩
      have HD7 := hide (HD.out.keep hb7 HD.out.lt)
      have HC7 := HC.out.trans (hb7.mono HC.out.size)
      obtain ⟨d0, d1, d2, _⟩ := HD7.out
      clear hb7
      go_wp2_with fail
      refine (G1.out _).mono ?_
      rintro e w8 ⟨rfl, hb8⟩
      have hbf := HC7.trans (hb8.mono HC7.size)
      clear hb8
      go_wp2_with fail
      go_ret
      exact ⟨rfl, hbf⟩
end Go.Proofs.YthppojbabkljpaaDoor.RsLaw17
