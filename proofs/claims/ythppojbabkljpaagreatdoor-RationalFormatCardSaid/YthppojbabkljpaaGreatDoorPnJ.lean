/- The walks of the program's Divide and GCD, and of the reference's GCD and NatFormat. -/
import Derived.Test.YthppojbabkljpaaGreatDoorPnI
import Derived.Test.YthppojbabkljpaaGreatDoorRoN
namespace Go.Proofs.YthppojbabkljpaaGreatDoor.PnJ
open Go.RowKit RnA RnB RnS RnC RnK RnM RnL RnN RnD RnE RnQ RnR RnP RnW RnX RoA RoB RoC RoD RoE RoF RoG RoH RoI RoJ RoK RoL RoM RoN PnA PnB PnC PnD PnE PnG PnH PnI
set_option maxHeartbeats 4000000 in
set_option maxRecDepth 100000 in
theorem div_any (s t : ByteArray) (w : World) (hs : s.size ≤ 100000) (ht : t.size ≤ 100000) (h0 : nv t ≠ 0) :
    Calls Tryz.prog 76 #[.string s, .string t] w fun e w' => e = .returned (.tuple #[.string (bs (nv s / nv t)), .string (bs (nv s % nv t)), .bool true]) ∧ Below w.heap.size w w' := by
  have hx := nv_le (s := s) (k := 25000) (by omega)
  have hy := nv_le (s := t) (k := 25000) (by omega)
  obtain ⟨x, hX⟩ : ∃ x, nv s = x := ⟨_, rfl⟩
  obtain ⟨y, hY⟩ : ∃ y, nv t = y := ⟨_, rfl⟩
  have P1 := Lib.hid (fun w => parse_any s w (by omega))
  have P2 := Lib.hid (fun w => parse_any t w (by omega))
  rw [hX] at hx P1 ⊢
  rw [hY] at hy P2 h0 ⊢
  have hn0 : 0 < (limbs y).length := by
    have := sz_pos h0
    unfold sz at this
    exact this
  have H0 := Lib.hid h0
  have hq : (limbs (x / y)).length ≤ 1000000 := Nat.le_trans (sz_div x y) (by omega)
  have hr : (limbs (x % y)).length ≤ 1000000 := Nat.le_trans (sz_mod x y) (by omega)
  have HX := hide hx
  have HLQ := hide (lval_limbs (x / y))
  have HLR := hide (lval_limbs (x % y))
  clear hX hY hs ht h0 hx hy
  go_enter Tryz.func76, Tryz.ntmps76
  go_wp2_with fail
  refine (P2.out _).mono ?_
  rintro e w1 ⟨B, c', rfl, hB1, hB2, hB3, hb1⟩
  have HB := hide hB3
  clear hB1 hB2 hB3
  go_wp2_with fail
  refine (P1.out _).mono ?_
  rintro e w2 ⟨A, c, rfl, hA1, hA2, hA3, hb2⟩
  have HDV := hide (long_any x y _ _ A B c c' w2 hA3 (HB.out.next hb2) rfl rfl hA1 hA2 (by have := HX.out; omega) H0.out)
  have hb3 := below_next hb1 hb2
  clear hA3 hb1 hb2 HB
  go_wp2_with fail
  refine HDV.out.mono ?_
  rintro e w3 ⟨C, c2, D, c3, rfl, h1, h2, h3, h4, h5, h6, h7⟩
  have H5 := hide h5
  have H6 := hide h6
  have hb4 := below_next hb3 h7
  clear h5 h6 h7 hb3 HDV
  go_wp2_with fail
  refine (text_any _ _ _ _ _ H5.out rfl hq).mono ?_
  rintro e w4 ⟨rfl, hb5⟩
  rw [HLQ.out]
  have H62 := hide (H6.out.next hb5)
  have hb6 := below_next hb4 hb5
  clear H6 hb4 hb5
  go_wp2_with fail
  refine (text_any _ _ _ _ _ H62.out rfl hr).mono ?_
  rintro e w5 ⟨rfl, hb7⟩
  rw [HLR.out]
  go_wp2_with fail
  go_ret3
  exact ⟨rfl, below_next hb6 hb7⟩
set_option maxHeartbeats 4000000 in
set_option maxRecDepth 100000 in
theorem gcd_any (s t : ByteArray) (w : World) (hs : s.size ≤ 100000) (ht : t.size ≤ 100000) :
    Calls Tryz.prog 108 #[.string s, .string t] w (SPost (bs ((nv s).gcd (nv t))) w) := by
  have hx := nv_le (s := s) (k := 25000) (by omega)
  have hy := nv_le (s := t) (k := 25000) (by omega)
  obtain ⟨x, hX⟩ : ∃ x, nv s = x := ⟨_, rfl⟩
  obtain ⟨y, hY⟩ : ∃ y, nv t = y := ⟨_, rfl⟩
  have P1 := Lib.hid (fun w => parse_any s w (by omega))
  have P2 := Lib.hid (fun w => parse_any t w (by omega))
  rw [hX] at hx P1 ⊢
  rw [hY] at hy P2 ⊢
  have HX := hide hx
  have HY := hide hy
  clear hX hY hs ht hx hy
  go_enter Tryz.func108, Tryz.ntmps108
  go_wp2_with fail
  refine (P1.out _).mono ?_
  rintro e w1 ⟨A, c, rfl, hA1, hA2, hA3, hb1⟩
  have HA1 : Hid (NAt w1 A c x) := ⟨hA3, hA1, hA2⟩
  clear hA1 hA2 hA3
  go_wp2_with fail
  refine (P2.out _).mono ?_
  rintro e w2 ⟨B, c', rfl, hB1, hB2, hB3, hb2⟩
  have HB : Hid (NAt w2 B c' y) := ⟨hB3, hB1, hB2⟩
  have HA : Hid (NAt w2 A c x) := HA1.out.next hb2
  have hb3 := below_next hb1 hb2
  clear hB1 hB2 hB3 HA1 hb1 hb2
  go_wp2_with fail
  go_loopw [5, 6] (fun va vb wr => ∃ (p q m n : Nat) (A B : Option Addr) (c c' : Nat), va = .slice A m c ∧ vb = .slice B n c' ∧ m = (limbs p).length ∧ n = (limbs q).length ∧ Hid (NAt wr A c p) ∧ Hid (NAt wr B c' q) ∧ Hid (p.gcd q = x.gcd y) ∧ Hid (sz p ≤ 25000) ∧ Hid (sz q ≤ 25000) ∧ Below w.heap.size w wr) (fun _ vb wr => sval wr vb)
  case atStart => exact ⟨x, y, _, _, A, B, c, c', rfl, rfl, rfl, rfl, HA, HB, rfl, HX, HY, hb3⟩
  case round =>
    clear HA HB hb3
    obtain ⟨p, q, m, n, A, B, c, c', rfl, rfl, hm, hn, HA, HB, HG, HP, HQ, hbr⟩ := hrel
    by_cases hq : q = 0
    · have hn0 : n = 0 := by rw [hn, hq, limbs_zero]; rfl
      subst hn0
      have hfin : Hid (lval (limbs p) = x.gcd y) := by
        show _ = _
        rw [lval_limbs, ← HG.out, hq, Nat.gcd_zero_right]
      have HM := hide hm.symm
      have hml : m ≤ 1000000 := by
        have := HP.out
        unfold sz at this
        omega
      clear hq hn hm
      go_wp2_with fail
      refine (text_any (limbs p) _ _ _ _ HA.out.1 HM.out hml).mono ?_
      rintro e w5 ⟨rfl, hb5⟩
      rw [hfin.out]
      go_wp2_with fail
      go_ret
      exact ⟨rfl, hbr.trans (hb5.mono hbr.size)⟩
    · have hn0 : 0 < n := by
        have := sz_pos hq
        unfold sz at this
        omega
      have hdv := long_any p q m n A B c c' wr HA.out.1 HB.out.1 hm.symm hn.symm (by rw [hm]; exact HA.out.2.1) HA.out.2.2 (by have := HP.out; omega) hq
      have HDV := hide hdv
      have hmes : Hid (sval wr (.slice B n c') = q) := by
        show _ = _
        rw [hn, sval_at HB.out.1, lval_limbs]
      have hlt : Hid (p % q < q) := Nat.mod_lt _ (by omega)
      have hgc : Hid (q.gcd (p % q) = x.gcd y) := by
        show _ = _
        rw [← HG.out, Nat.gcd_comm q, ← Nat.gcd_rec, Nat.gcd_comm]
      have hszr : Hid (sz (p % q) ≤ 25000) := Nat.le_trans (sz_mod _ _) HP.out
      have HN := hide hn
      clear hdv hq hm hn
      go_wp2_with fail
      refine HDV.out.mono ?_
      rintro e w2 ⟨A2, c2, A3, c3, rfl, h1, h2, h3, h4, h5, h6, h7⟩
      have H6 : Hid (NAt w2 A3 c3 (p % q)) := ⟨h6, h3, h4⟩
      have HB2 : Hid (NAt w2 B c' q) := HB.out.next h7
      have hm2 : sval w2 (.slice A3 (limbs (p % q)).length c3) < sval wr (.slice B n c') := by
        rw [hmes.out, sval_at h6, lval_limbs]; exact hlt.out
      have hbf : Below w.heap.size w w2 := hbr.trans (h7.mono hbr.size)
      clear h5 h6
      go_wp2_with fail
      go_roundw
      case rel => exact ⟨q, p % q, _, _, B, A3, c', c3, rfl, rfl, HN.out, rfl, HB2, H6, hgc, HQ, hszr, hbf⟩
      case measure => exact hm2
set_option maxHeartbeats 4000000 in
theorem rgcd_any (s t : ByteArray) (w : World) (hs : s.size ≤ 100000) (ht : t.size ≤ 100000) :
    Calls Tryz.prog 119 #[.string s, .string t] w (SPost (bs ((nv s).gcd (nv t))) w) := by
  have hx := nv_le (s := s) (k := 25000) (by omega)
  have hy := nv_le (s := t) (k := 25000) (by omega)
  obtain ⟨x, hX⟩ : ∃ x, nv s = x := ⟨_, rfl⟩
  obtain ⟨y, hY⟩ : ∃ y, nv t = y := ⟨_, rfl⟩
  have P1 := Lib.hid (fun w => rlimbs_any s w (by omega))
  have P2 := Lib.hid (fun w => rlimbs_any t w (by omega))
  rw [hX] at hx P1 ⊢
  rw [hY] at hy P2 ⊢
  have HX := hide hx
  have HY := hide hy
  have hgl : (limbs (x.gcd y)).length ≤ 1000000 := by
    rcases Nat.eq_zero_or_pos y with h | h
    · subst h
      rw [Nat.gcd_zero_right]
      have : (limbs x).length ≤ 25000 := hx
      omega
    · have h2 := sz_gcd (m := x) h
      have h3 : (limbs (x.gcd y)).length = sz (x.gcd y) := rfl
      omega
  have HLV := hide (lval_limbs (x.gcd y))
  clear hX hY hs ht hx hy
  go_enter Tryz.func119, Tryz.ntmps119
  go_wp2_with fail
  refine (P1.out _).mono ?_
  rintro e w1 ⟨A, c, rfl, hA1, hA2, hA3, hb1⟩
  have HA1 : Hid (NAt w1 A c x) := ⟨hA3, hA1, hA2⟩
  clear hA1 hA2 hA3
  go_wp2_with fail
  refine (P2.out _).mono ?_
  rintro e w2 ⟨B, c', rfl, hB1, hB2, hB3, hb2⟩
  have HB : Hid (NAt w2 B c' y) := ⟨hB3, hB1, hB2⟩
  have HA : Hid (NAt w2 A c x) := HA1.out.next hb2
  have hb3 := below_next hb1 hb2
  clear hB1 hB2 hB3 HA1 hb1 hb2
  have HC := hide (rcommon_any x y A B c c' w2 HA.out HB.out (by have := HX.out; omega) (by have := HY.out; omega))
  go_wp2_with fail
  refine HC.out.mono ?_
  rintro e w3 ⟨C, c2, rfl, h1, h2, h3, h4⟩
  have H3 := hide h3
  have hb4 := below_next hb3 h4
  clear h3 h4 hb3
  go_wp2_with fail
  refine (rtext_any _ _ _ _ H3.out h1 hgl).mono ?_
  rintro e w4 ⟨rfl, hb5⟩
  rw [HLV.out]
  go_wp2_with fail
  go_ret
  exact ⟨rfl, below_next hb4 hb5⟩
set_option maxHeartbeats 4000000 in
theorem rnatformat_any (s : ByteArray) (w : World) (hs : s.size ≤ 100000) :
    Calls Tryz.prog 45 #[.string s] w (SPost (st (decOf (nv s))) w) := by
  have hx := nv_le (s := s) (k := 25000) (by omega)
  have P1 := Lib.hid (fun w => rlimbs_any s w (by omega))
  generalize nv s = x at *
  go_enter Tryz.func45, Tryz.ntmps45
  go_wp2_with fail
  refine (P1.out _).mono ?_
  rintro e w1 ⟨A, c, rfl, hA1, hA2, hA3, hb1⟩
  have HA := hide hA3
  clear hA1 hA2 hA3
  go_wp2_with fail
  refine (rwritten_any x A c _ HA.out (by omega)).mono ?_
  rintro e w2 ⟨rfl, hb2⟩
  go_wp2_with fail
  go_ret
  exact ⟨rfl, below_next hb1 hb2⟩
end Go.Proofs.YthppojbabkljpaaGreatDoor.PnJ
