/- The walks of bits.Add32, bits.Sub32 and the program's Add. -/
import Derived.Test.YthppojbabkljpaaGreatDoorPnC
namespace Go.Proofs.YthppojbabkljpaaGreatDoor.PnD
open Go.RowKit RnA RnB RnS RnC RnK RnM RnL RnN RnD RnE RnQ RnR RnP RnW RnX RoA RoB RoC RoD RoE RoF RoG RoH RoI RoL PnA PnB PnC
set_option maxHeartbeats 1000000 in
set_option maxRecDepth 100000 in
theorem add32_any (x y c T : Nat) (w : World) (hx : x < 4294967296) (hy : y < 4294967296) (hc : c ≤ 1) (hT : x + y + c = T) :
    Calls Tryz.prog 110 #[.int .u32 (x : Int), .int .u32 (y : Int), .int .u32 (c : Int)] w fun e w' => e = .returned (.tuple #[.int .u32 ((T % 4294967296 : Nat) : Int), .int .u32 ((T / 4294967296 : Nat) : Int)]) ∧ w = w' := by
  have p1 : (x : Int) + (y : Int) + (c : Int) = (T : Int) := by omega
  have hTl : T < 8589934592 := by omega
  have e1 : ((T % 4294967296 : Nat) : Int) = (T : Int) % 4294967296 := by omega
  have e2 : ((T / 4294967296 : Nat) : Int) = (T : Int) / 4294967296 := by omega
  rw [e1, e2]
  clear e1 e2 hT
  go_enter Tryz.func110, Tryz.ntmps110
  go_wp2_with fail
  go_ret2
  exact ⟨rfl, rfl⟩
theorem not_xor {x : Nat} (h : x < 4294967296) : 4294967295 ^^^ x = 4294967295 - x := by
  refine Nat.eq_of_testBit_eq fun i => ?_
  rw [Nat.testBit_xor, show 4294967295 - x = 2 ^ 32 - (x + 1) by omega, Nat.testBit_two_pow_sub_succ h, show 4294967295 = 2 ^ 32 - 1 from rfl, Nat.testBit_two_pow_sub_one]
  by_cases hi : i < 32
  · simp [hi]
  · have : x.testBit i = false := Nat.testBit_lt_two_pow (Nat.lt_of_lt_of_le h (Nat.pow_le_pow_right (n := 2) (by omega) (by omega : 32 ≤ i)))
    simp [hi, this]
theorem xor_max {x : Nat} (h : x < 4294967296) : bits BinOp.xor IntKind.u32 IntKind.u32.max (x : Int) = ((4294967295 - x : Nat) : Int) := by
  have := u32_xor_nat 4294967295 x (by omega) h
  rw [not_xor h] at this
  exact this
set_option maxHeartbeats 1000000 in
set_option maxRecDepth 100000 in
theorem sub32_any (x y b d bo : Nat) (w : World) (hx : x < 4294967296) (hy : y < 4294967296) (hb : b ≤ 1) (hd : d = (x + 8589934592 - y - b) % 4294967296) (hbo : (if x < y + b then 1 else 0) = bo) :
    Calls Tryz.prog 167 #[.int .u32 (x : Int), .int .u32 (y : Int), .int .u32 (b : Int)] w fun e w' => e = .returned (.tuple #[.int .u32 (d : Int), .int .u32 (bo : Int)]) ∧ w = w' := by
  have hbb := borrow_bits hx hy hb hd
  have hdl : d < 4294967296 := by omega
  have q1 : (((x : Int) - (y : Int)) % 4294967296 - (b : Int)) % 4294967296 = (d : Int) := by omega
  have q2 := xor_max hx
  have hxy := xor_lt hx hy
  have q3 := u32_xor_nat x y hx hy
  have q4 := xor_max hxy
  have q5 := u32_and_nat (4294967295 - x) y (by omega) hy
  have q6 := u32_and_nat (4294967295 - (x ^^^ y)) d (by omega) hdl
  have q7 := u32_or_nat ((4294967295 - x) &&& y) ((4294967295 - (x ^^^ y)) &&& d) (and_lt hy) (and_lt hdl)
  rw [hbo] at hbb
  have hsg : IntKind.u32.signed = false := rfl
  generalize ((4294967295 - x) &&& y) ||| ((4294967295 - (x ^^^ y)) &&& d) = C at q7 hbb
  generalize (4294967295 - x) &&& y = A at q5 q7
  generalize (4294967295 - (x ^^^ y)) &&& d = B at q6 q7
  generalize 4294967295 - (x ^^^ y) = NX at q4 q6
  generalize x ^^^ y = X at q3 q4
  generalize 4294967295 - x = NN at q2 q5
  have q8 : (C : Int) / 2147483648 = (bo : Int) := by omega
  clear hbb hd hbo hxy
  go_enter Tryz.func167, Tryz.ntmps167
  go_wp2_with fail
  go_ret2
  have e : Ending.returned (.tuple #[.int .u32 ((((x : Int) - (y : Int)) % 4294967296 - (b : Int)) % 4294967296), .int .u32 (bo : Int)]) = Ending.returned (.tuple #[.int .u32 (d : Int), .int .u32 (bo : Int)]) := by rw [q1]
  exact ⟨e, rfl⟩
theorem nv_le {s : ByteArray} {k : Nat} (h : s.size ≤ 4 * k) : sz (nv s) ≤ k := by
  unfold nv
  exact sz_bytes (by simpa using h)
set_option maxHeartbeats 4000000 in
set_option maxRecDepth 100000 in
theorem add_any (s t : ByteArray) (w : World) (hs : s.size ≤ 100000) (ht : t.size ≤ 100000) :
    Calls Tryz.prog 63 #[.string s, .string t] w (SPost (bs (nv s + nv t)) w) := by
  obtain ⟨i0, hi0, hz0, hz1, hz2⟩ := info_parts u32Info
  have hx := nv_le (s := s) (k := 25000) (by omega)
  have hy := nv_le (s := t) (k := 25000) (by omega)
  obtain ⟨x, hX⟩ : ∃ x, nv s = x := ⟨_, rfl⟩
  obtain ⟨y, hY⟩ : ∃ y, nv t = y := ⟨_, rfl⟩
  have P1 := Lib.hid (fun w => parse_any s w (by omega))
  have P2 := Lib.hid (fun w => parse_any t w (by omega))
  rw [hX] at hx P1 ⊢
  rw [hY] at hy P2 ⊢
  clear hX hY hs ht
  go_enter Tryz.func63, Tryz.ntmps63
  go_wp2_with fail
  refine (P1.out _).mono ?_
  rintro e w1 ⟨A, c, rfl, hA1, hA2, hA3, hb1⟩
  have HA := hide hA3
  clear hA1 hA2 hA3
  go_wp2_with fail
  refine (P2.out _).mono ?_
  rintro e w2 ⟨B, c', rfl, hB1, hB2, hB3, hb2⟩
  have HB := hide hB3
  have HA2 := hide (HA.out.next hb2)
  have hb3 := below_next hb1 hb2
  clear hB1 hB2 hB3 HA hb1 hb2
  generalize hm : (limbs x).length = m
  generalize hn : (limbs y).length = n
  have hml : m ≤ 25000 := by have : (limbs x).length ≤ 25000 := hx; omega
  have hnl : n ≤ 25000 := by have : (limbs y).length ≤ 25000 := hy; omega
  have HM := hide hm
  have HN := hide hn
  clear hm hn
  go_upto_if 19 with fail
  go_cut [5, 6] (fun va vb wx => ∃ (p q : Nat) (a b : List Nat) (A B : Option Addr) (c c' : Nat), va = .slice A p c ∧ vb = .slice B q c' ∧ q ≤ p ∧ p ≤ 25000 ∧ Hid (a.length = p) ∧ Hid (b.length = q) ∧ Hid (LAt w2 w2.heap.size A a) ∧ Hid (LAt w2 w2.heap.size B b) ∧ Hid (lval a + lval b = x + y) ∧ w2 = wx)
  case first =>
    by_cases hlt : m < n
    · go_wp2_with fail
      go_meet
      case rel => exact ⟨n, m, limbs y, limbs x, B, A, c', c, rfl, rfl, by omega, hnl, HN, HM, HB, HA2, by show _ = _; rw [lval_limbs, lval_limbs, Nat.add_comm], rfl⟩
    · go_wp2_with fail
      go_meet
      case rel => exact ⟨m, n, limbs x, limbs y, A, B, c, c', rfl, rfl, by omega, hml, HM, HN, HA2, HB, by show _ = _; rw [lval_limbs, lval_limbs], rfl⟩
  case rest =>
    clear HA2 HB HM HN hml hnl
    obtain ⟨p, q, a, b, A, B, c, c', rfl, rfl, hqp, hpl, HP, HQ, HA, HB, HS, rfl⟩ := hcut
    go_wp2_with (first
      | (at_make
         refine wpList_make_full _ rfl (.tmp 24) (.tmp 24) 88 rfl w2.heap.size 52 i0 _ 1 Tryz.underlying88 hi0 hz0 hz1 .i64 .i64 _ _ (p + 1) rfl rfl ?c1 ?c2 ?c3 ?c4 ?c5 ?_
         case c1 => omega
         case c2 => omega
         case c3 => rw [hz2]; omega
         case c4 => unfold maxLen; omega
         case c5 => exact Nat.le_refl _
         intro w4 hown hg))
    rw [made_uv] at hown
    have hb4 : Below w2.heap.size w2 w4 := (Below.refl _ _).grown hg (Nat.le_refl _) (by simp)
    clear hg
    generalize hL : p + 1 = L at hown
    have HL := hide hL
    have hpL : p < L := by omega
    have hLl : L ≤ 30000 := by omega
    clear hL
    go_loopw [8, 28] (fun vc vi wr => ∃ (i k : Nat) (O : List Nat), i ≤ p ∧ k ≤ 1 ∧ vi = .int .i64 i ∧ vc = .int .u32 k ∧ Hid (O.length = L) ∧ Hid (Ok O) ∧ Hid (lval (O.take i) + k * 4294967296 ^ i = lval (a.take i) + lval (b.take i)) ∧ wr.ownsRow w2.heap.size 52 1 (.slice (some ⟨w2.heap.size, 0, none⟩) L L) L (uv O) ∧ Below w2.heap.size w2 wr) (fun _ vi _ => p - (intOf vi).toNat)
    case atStart => exact ⟨0, 0, List.replicate L 0, by omega, by omega, rfl, rfl, by show _ = _; simp, Ok.replicate _, by show _ = _; simp [lval], hown, hb4⟩
    case round =>
      obtain ⟨i, k, O, hi, hk, rfl, rfl, HOL, HO, HV, hown, hbr⟩ := hrel
      by_cases hlt : i < p
      · obtain ⟨u, hu⟩ : ∃ u, a[i]? = some u := ⟨_, List.getElem?_eq_getElem (by have := HP.out; omega)⟩
        obtain ⟨z, hz⟩ : ∃ z, O[i]? = some z := ⟨_, List.getElem?_eq_getElem (by have := HOL.out; omega)⟩
        obtain ⟨b1, o1, rfl, hb1, hc1⟩ := (HA.out.below hbr).2.2 (by have := HP.out; omega)
        have c1 := hc1 i u hu
        have hul : u < 4294967296 := HA.out.ok.at_ hu
        have hvl := dig_lt HB.out.ok i
        obtain ⟨v, hv⟩ : ∃ v, dig b i = v := ⟨_, rfl⟩
        rw [hv] at hvl
        have cz : wr.cell? ⟨w2.heap.size, i, none⟩ = some (.int .u32 (z : Int)) := (hown.cellAt i (by omega)).trans (uv_get hz)
        have fz := hown.frozenAt i
        have HU := hide hu
        have HVV := hide hv
        have hiL : i < L := by omega
        clear hc1 hu hv hz
        go_upto_if 34 with fail
        go_cut [10] (fun vv wx => vv = .int .u32 (v : Int) ∧ wr = wx)
        case first =>
          by_cases h1 : i < q
          · obtain ⟨b2, o2, rfl, hb2, hc2⟩ := (HB.out.below hbr).2.2 (by have := HQ.out; omega)
            have c2 : wr.cell? ⟨b2, o2 + i, none⟩ = some (.int .u32 (v : Int)) := hc2 i v (by rw [← HVV.out, dig_at (List.getElem?_eq_getElem (by rw [HQ.out]; exact h1))]; exact List.getElem?_eq_getElem (by rw [HQ.out]; exact h1))
            clear hc2
            go_wp2_with fail
            go_meet
            case rel => exact ⟨rfl, rfl⟩
          · have hv0 : v = 0 := by rw [← HVV.out]; exact dig_out (by rw [HQ.out]; omega)
            subst hv0
            go_wp2_with fail
            go_meet
            case rel => exact ⟨rfl, rfl⟩
        case rest =>
          obtain ⟨rfl, rfl⟩ := hcut
          obtain ⟨T, hT⟩ : ∃ T, u + v + k = T := ⟨_, rfl⟩
          have hround := add_round (a := a) (b := b) (out := O.take i) (i := i) (c := k) HV.out (take_len (by rw [HOL.out]; omega))
          rw [dig_at HU.out, HVV.out, hT] at hround
          have HR := hide hround
          have hTl : T ≤ 8589934591 := by omega
          have HAD := Lib.hid (fun w => add32_any u v k T w hul hvl hk hT)
          obtain ⟨D, hD⟩ : ∃ D, T % 4294967296 = D := ⟨_, rfl⟩
          obtain ⟨K, hK⟩ : ∃ K, T / 4294967296 = K := ⟨_, rfl⟩
          rw [hD, hK] at HR HAD
          have hDl : D < 4294967296 := by omega
          have hKl : K ≤ 1 := by omega
          have hsum : Hid (lval ((O.set i D).take (i + 1)) + K * 4294967296 ^ (i + 1) = lval (a.take (i + 1)) + lval (b.take (i + 1))) := by
            show _ = _
            rw [take_set_succ (by rw [HOL.out]; omega)]
            exact HR.out
          have hok : Hid (Ok (O.set i D)) := HO.out.set _ hDl
          have hlen : Hid ((O.set i D).length = L) := by show _ = _; rw [List.length_set]; exact HOL.out
          obtain ⟨hos, hgs⟩ := hown.stored i (.int .u32 (D : Int))
          rw [uv_set] at hos
          have hbs := hbr.setCell (p := ⟨w2.heap.size, i, none⟩) (Nat.le_refl _) (.int .u32 (D : Int))
          clear hround hT hD hK
          go_wp2_with fail
          refine (HAD.out _).mono ?_
          rintro e w5 ⟨rfl, rfl⟩
          go_wp2_with fail
          go_roundw
          case rel => exact ⟨i + 1, K, _, by omega, hKl, by go_num, rfl, hlen, hok, hsum, hos, hbs⟩
          case measure => simp [intOf]; omega
      · obtain rfl : i = p := by omega
        obtain ⟨z, hz⟩ : ∃ z, O[i]? = some z := ⟨_, List.getElem?_eq_getElem (by have := HOL.out; omega)⟩
        have cz : wr.cell? ⟨w2.heap.size, i, none⟩ = some (.int .u32 (z : Int)) := (hown.cellAt i (by omega)).trans (uv_get hz)
        have fz := hown.frozenAt i
        have hfin : Hid (lval (O.set i k) = x + y) := by
          show _ = _
          have h1 := take_set_succ (l := O) (k := i) (y := k) (by rw [HOL.out]; omega)
          rw [List.take_of_length_le (by rw [List.length_set, HOL.out, ← HL.out]; exact Nat.le_refl _)] at h1
          have h2 := HV.out
          rw [lval_take_all (l := a) (by rw [HP.out]; exact Nat.le_refl _), lval_take_all (l := b) (by rw [HQ.out]; exact hqp), HS.out] at h2
          rw [h1, lval_snoc, take_len (by rw [HOL.out]; omega), Nat.mul_comm]
          exact h2
        have hok : Ok (O.set i k) := HO.out.set _ (by omega)
        have hlen : Hid ((O.set i k).length = L) := by show _ = _; rw [List.length_set]; exact HOL.out
        obtain ⟨hos, hgs⟩ := hown.stored i (.int .u32 (k : Int))
        rw [uv_set] at hos
        have hbs := hbr.setCell (p := ⟨w2.heap.size, i, none⟩) (Nat.le_refl _) (.int .u32 (k : Int))
        have HLL := hide (LAt.of_own hos hok)
        have hbf := hb3.trans (hbs.mono hb3.size)
        clear hz hos hgs hbs hok
        go_wp2_with fail
        refine (text_any (O.set i k) _ _ _ _ HLL.out hlen.out (by omega)).mono ?_
        rintro e w5 ⟨rfl, hb5⟩
        rw [hfin.out]
        go_wp2_with fail
        go_ret
        exact ⟨rfl, below_next hbf hb5⟩
end Go.Proofs.YthppojbabkljpaaGreatDoor.PnD
