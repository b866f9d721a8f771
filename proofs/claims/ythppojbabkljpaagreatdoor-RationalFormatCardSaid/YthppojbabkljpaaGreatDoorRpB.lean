/- The walks of the program's reduced, Make, magnitude, Int, Fraction. -/
import Derived.Test.YthppojbabkljpaaGreatDoorRpA
namespace Go.Proofs.YthppojbabkljpaaGreatDoor.RpB
open Go.RowKit RnA RnB RnS RnC RnK RnM RnL RnN RnD RnE RnQ RnR RnP RnW RnX RoA RoB RoC RoD RoE RoF RoG RoH RoI RoJ RoK RoL RoM RoN PnA PnB PnC PnD PnE PnG PnH PnI PnJ RtA RpA
theorem bytes_mono {m n : Nat} (h : m ≤ n) : (bytesOf m).length ≤ (bytesOf n).length := by
  refine bytesOf_len_le (Nat.lt_of_le_of_lt h ?_)
  have := bval_lt (bytesOf n)
  rwa [bval_bytesOf] at this
theorem bs_mono {m n : Nat} (h : m ≤ n) : (bs m).size ≤ (bs n).size := by rw [bs_size, bs_size]; exact bytes_mono h
theorem nv_size (s : ByteArray) : (bs (nv s)).size ≤ s.size := by
  rw [bs_size]
  have h := bytesOf_len_le (bval_lt s.data.toList)
  have h3 : s.data.toList.length = s.size := by simp
  unfold nv; omega
theorem eq_one (y : Nat) : ((bs y).toList == [1]) = decide (y = 1) := by
  rw [tl]
  show (bytesOf y == [1]) = _
  rw [← bytesOf_one]
  by_cases h : y = 1
  · rw [decide_eq_true h, h]; simp
  · have : bytesOf y ≠ bytesOf 1 := fun e => h (bytesOf_inj e)
    simp [h, this]
theorem enc_mk (s : Bool) {n d : Nat} (hn : n ≠ 0) (hd : d ≠ 0) : enc (mk s n d) = .agg #[.bool s, .string (bs (n / n.gcd d)), .string (if d / n.gcd d = 1 then ⟨#[]⟩ else bs (d / n.gcd d))] := by
  unfold enc
  rw [neg_mk s n d hd, nm_mk s n d hd, decide_eq_true hn, Bool.and_true]
  by_cases h : d / n.gcd d = 1
  · rw [if_pos h, dstr_one (by rw [den_mk s n d hd]; exact h)]
  · rw [if_neg h, dstr_big (by rw [den_mk s n d hd]; exact h), den_mk s n d hd]
/-- the block of a struct result, and what the first allocation leaves -/
theorem res_start (w : World) : Bx (w.alloc (.cells #[.bool false, .string ⟨#[]⟩, .string ⟨#[]⟩] 24)) w.heap.size (.bool false) (.string ⟨#[]⟩) (.string ⟨#[]⟩) ∧
    Below w.heap.size w (w.alloc (.cells #[.bool false, .string ⟨#[]⟩, .string ⟨#[]⟩] 24)) ∧ w.heap.size < (w.alloc (.cells #[.bool false, .string ⟨#[]⟩, .string ⟨#[]⟩] 24)).heap.size :=
  ⟨Bx.new _ _ _ _ _, (Below.refl _ _).alloc (Nat.le_refl _) _, by simp⟩
/-- a function that answers a rational number -/
def RPost (q : Rat) (w : World) (e : Ending) (w' : World) : Prop := e = .returned (enc q) ∧ Below w.heap.size w w'
set_option maxHeartbeats 2000000 in
set_option maxRecDepth 100000 in
theorem reduced_any (s : Bool) (num den : ByteArray) (w : World) (h1 : num.size ≤ 100000) (h2 : den.size ≤ 100000) (h0 : nv den ≠ 0) :
    Calls Tryz.prog 62 #[.bool s, .string num, .string den] w (RPost (mk s (nv num) (nv den)) w) := by
  have N1 := Lib.hid (fun w => norm_any num w (by omega))
  have N2 := Lib.hid (fun w => norm_any den w (by omega))
  have S1 := nv_size num
  have S2 := nv_size den
  generalize nv num = x at *
  generalize nv den = y at *
  have hx : (bs x).size ≤ 100000 := by omega
  have hy : (bs y).size ≤ 100000 := by omega
  clear S1 S2 h1 h2
  obtain ⟨hbx, hb0, hbl⟩ := res_start w
  have HBX := hide hbx
  have HB0 := hide hb0
  clear hbx hb0
  generalize hW : w.alloc (.cells #[.bool false, .string ⟨#[]⟩, .string ⟨#[]⟩] 24) = W at HBX HB0 hbl
  by_cases hx0 : x = 0
  · subst hx0
    have hr : Hid (enc (mk s 0 y) = enc 0) := by show _ = _; rw [mk_zero]
    rw [bs0] at N1
    obtain ⟨c0, c1, c2, f0, f1, f2⟩ := HBX.out
    go_enter Tryz.func62, Tryz.ntmps62
    go_wp2_with fail
    refine (N1.out _).mono ?_
    rintro e w1 ⟨rfl, rfl⟩
    go_wp2_with fail
    refine (N2.out _).mono ?_
    rintro e w1 ⟨rfl, rfl⟩
    go_wp2_with fail
    refine bodyPost_ret (results_rat rfl _ rfl (HBX.out.set3 _ _ _)) rfl ?_
    refine ⟨?_, below_set3 HB0.out (Nat.le_refl _) _ _ _⟩
    rw [hr.out, enc_zero_val]
  · have hxs := bytes_ne_nil hx0
    have hval := enc_mk s hx0 h0
    by_cases hy1 : y = 1
    · have hr : Hid (enc (mk s x y) = .agg #[.bool s, .string (bs x), .string ⟨#[]⟩]) := by
        show _ = _
        rw [hval, hy1, Nat.gcd_one_right, Nat.div_one, if_pos rfl]
      rw [hy1, bs1] at N2
      obtain ⟨e1, e2⟩ := str_ne hxs
      generalize bs x = t at *
      obtain ⟨c0, c1, c2, f0, f1, f2⟩ := HBX.out
      clear hval
      go_enter Tryz.func62, Tryz.ntmps62
      go_wp2_with fail
      refine (N1.out _).mono ?_
      rintro e w1 ⟨rfl, rfl⟩
      go_wp2_with fail
      refine (N2.out _).mono ?_
      rintro e w1 ⟨rfl, rfl⟩
      go_wp2_with fail
      refine bodyPost_ret (results_rat rfl _ rfl (HBX.out.set3 _ _ _)) rfl ?_
      refine ⟨?_, below_set3 HB0.out (Nat.le_refl _) _ _ _⟩
      rw [hr.out]
    · have hg := Lib.hid (fun w => gcd_any (bs x) (bs y) w hx hy)
      rw [nv_bs, nv_bs] at hg
      have hgp : 0 < x.gcd y := Nat.gcd_pos_of_pos_left _ (by omega)
      have hgx : x.gcd y ≤ x := Nat.gcd_le_left _ (by omega)
      have hgs : (bs (x.gcd y)).size ≤ 100000 := Nat.le_trans (bs_mono hgx) hx
      have hD1 := Lib.hid (fun w => div_any (bs x) (bs (x.gcd y)) w hx hgs (by rw [nv_bs]; omega))
      have hD2 := Lib.hid (fun w => div_any (bs y) (bs (x.gcd y)) w hy hgs (by rw [nv_bs]; omega))
      rw [nv_bs, nv_bs] at hD1 hD2
      have hey : ((bs y).toList == [1]) = false := by rw [eq_one]; exact decide_eq_false hy1
      have hg1 := eq_one (x.gcd y)
      have hd1 := eq_one (y / x.gcd y)
      obtain ⟨e1, e2⟩ := str_ne hxs
      by_cases hgo : x.gcd y = 1
      · have hr : Hid (enc (mk s x y) = .agg #[.bool s, .string (bs x), .string (bs y)]) := by
          show _ = _
          rw [hval, hgo, Nat.div_one, Nat.div_one, if_neg hy1]
        rw [decide_eq_true hgo] at hg1
        clear hval hD1 hD2 hd1
        generalize bs (x.gcd y) = gs at *
        generalize bs x = t at *
        generalize bs y = u at *
        go_enter Tryz.func62, Tryz.ntmps62
        go_wp2_with fail
        refine (N1.out _).mono ?_
        rintro e w1 ⟨rfl, rfl⟩
        go_wp2_with fail
        refine (N2.out _).mono ?_
        rintro e w1 ⟨rfl, rfl⟩
        go_wp2_with fail
        refine (hg.out _).mono ?_
        rintro e w1 ⟨rfl, hb1⟩
        have HB1 := hide (HBX.out.keep hb1 hbl)
        obtain ⟨c0, c1, c2, f0, f1, f2⟩ := HB1.out
        have hbf := HB0.out.trans (hb1.mono (Nat.le_of_lt hbl))
        go_wp2_with fail
        refine bodyPost_ret (results_rat rfl _ rfl (HB1.out.set3 _ _ _)) rfl ?_
        refine ⟨?_, below_set3 hbf (Nat.le_refl _) _ _ _⟩
        rw [hr.out]
      · rw [decide_eq_false hgo] at hg1
        have hr : Hid (enc (mk s x y) = .agg #[.bool s, .string (bs (x / x.gcd y)), .string (if y / x.gcd y = 1 then ⟨#[]⟩ else bs (y / x.gcd y))]) := hval
        by_cases hq : y / x.gcd y = 1
        all_goals
          first
            | (rw [if_pos hq] at hr; rw [decide_eq_true hq] at hd1)
            | (rw [if_neg hq] at hr; rw [decide_eq_false hq] at hd1)
          clear hval
          generalize bs (y / x.gcd y) = u' at *
          generalize bs (x / x.gcd y) = t' at *
          generalize bs (y % x.gcd y) = v1 at *
          generalize bs (x % x.gcd y) = v2 at *
          generalize bs (x.gcd y) = gs at *
          generalize bs x = t at *
          generalize bs y = u at *
          go_enter Tryz.func62, Tryz.ntmps62
          go_wp2_with fail
          refine (N1.out _).mono ?_
          rintro e w1 ⟨rfl, rfl⟩
          go_wp2_with fail
          refine (N2.out _).mono ?_
          rintro e w1 ⟨rfl, rfl⟩
          go_wp2_with fail
          refine (hg.out _).mono ?_
          rintro e w1 ⟨rfl, hb1⟩
          go_wp2_with fail
          refine (hD1.out _).mono ?_
          rintro e w2 ⟨rfl, hb2⟩
          go_wp2_with fail
          refine (hD2.out _).mono ?_
          rintro e w3 ⟨rfl, hb3⟩
          have hb4 := below_next hb1 (below_next hb2 hb3)
          have HB1 := hide (HBX.out.keep hb4 hbl)
          obtain ⟨c0, c1, c2, f0, f1, f2⟩ := HB1.out
          have hbf := HB0.out.trans (hb4.mono (Nat.le_of_lt hbl))
          go_wp2_with fail
          refine bodyPost_ret (results_rat rfl _ rfl (HB1.out.set3 _ _ _)) rfl ?_
          refine ⟨?_, below_set3 hbf (Nat.le_refl _) _ _ _⟩
          rw [hr.out]
end Go.Proofs.YthppojbabkljpaaGreatDoor.RpB
