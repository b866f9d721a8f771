/- The walk of the reference's Decimal. -/
import Derived.Test.YthppojbabkljpaaGreatDoorRtK
namespace Go.Proofs.YthppojbabkljpaaGreatDoor.RtF
open Go.RowKit RnA RnB RnS RnC RnK RnM RnL RnN RnD RnE RnQ RnR RnG RnP RnW RnX RoA RoB RoC RoD RoE RoF RoG RoH RoI RoJ RoK RoL RoM RoN PnA PnB PnC PnD PnE PnF PnG PnH PnI PnJ PnK PnL RtA RtB RtC RtE RtG RtH RtI RtJ RtK RpA RpB RpC RpD RpE RpF RpG RpH RnY RpI RpJ RpK RpL
theorem zeros_succ (c : Nat) (T : ByteArray) : (⟨#[48]⟩ : ByteArray) ++ (zeros c ++ T) = zeros (c + 1) ++ T := by
  rw [← bapp_assoc]
  congr 1
theorem pow_four {z k : Nat} (h : z ≤ k) : 4294967296 ^ z ≤ 256 ^ (4 * k) := by
  rw [show (4294967296 : Nat) = 256 ^ 4 from rfl, ← Nat.pow_mul]
  exact pow_mono (by omega)
theorem bs_sz {t z : Nat} (h : sz t ≤ z) : (bs t).size ≤ 4 * z := by
  rw [bs_size]
  exact bytesOf_len_le (Nat.lt_of_lt_of_le (sz_lt t) (pow_four h))
theorem zeros_zero (T : ByteArray) : zeros 0 ++ T = T := st_nil_left T
theorem zeros_size (c : Nat) : (zeros c).size = c := by unfold zeros; rw [st_size, List.length_replicate]
set_option maxHeartbeats 8000000 in
set_option maxRecDepth 100000 in
theorem rdecimal_any (n : Bool) (a d : ByteArray) (places : Int) (w : World) (ha : a.size ≤ 20000) (hd : d.size ≤ 20000) :
    Calls Tryz.prog 24 #[.agg #[.bool n, .string a, .string d], .int .i64 places] w (SPost (st (decimalQ (fixQ n a.data.toList d.data.toList) (clampN places))) w) := by
  have HC := Lib.hid (fun w => rfix_any n a d w (by omega) (by omega))
  obtain ⟨hs1, hs2⟩ := fix_size (n := n) (a := a) (d := d)
  generalize fixQ n a.data.toList d.data.toList = q at *
  rw [enc_open] at HC
  have hp20 := clampN_le places
  have hpv : Hid (((clampN places : Nat) : Int) = max 0 (min places 20)) := by show _ = _; unfold clampN; omega
  generalize clampN places = p at *
  have HL := Lib.hid (fun w => rlimbs_any (bs (nm q)) w (by omega))
  rw [nv_bs] at HL
  have hN : sz (nm q) ≤ 5000 := by have := nv_le (s := bs (nm q)) (k := 5000) (by omega); rwa [nv_bs] at this
  have HSZ : Hid (∀ k, k ≤ 20 → sz (nm q * 10 ^ k) ≤ 5003) := fun k hk => by
    have h1 := sz_mul (nm q) (10 ^ k)
    have h2 : sz (10 ^ k) ≤ 3 := sz_le (Nat.lt_of_le_of_lt (Nat.pow_le_pow_right (by omega) hk) (by decide))
    omega
  have hr : Hid (decimalQ q p = (if negB q = true ∧ nm q * 10 ^ p / q.den ≠ 0 then [45] else []) ++ pointed (shown (nm q * 10 ^ p / q.den) p) p) := rfl
  have hts : sz (nm q * 10 ^ p / q.den) ≤ 5003 := Nat.le_trans (sz_div _ _) (HSZ.out p hp20)
  generalize htt : nm q * 10 ^ p / q.den = t at *
  have HT := hide htt
  clear htt
  have htb : (bs t).size ≤ 4 * 5003 := bs_sz hts
  have hT := dec_size t
  have hTl : (st (decOf t)).size ≤ 100000 := by omega
  have hshown := shown_eq t p
  have hlenS : (shown t p).length ≤ 100021 := by
    unfold shown
    rw [List.length_append, List.length_replicate]
    rw [st_size] at hTl
    omega
  have hge := shown_len t p
  have ht0 : Hid (t = 0 → (limbs t).length = 0) := fun h => by rw [limbs_nil.2 h]
  have ht1 : Hid (t ≠ 0 → 0 < (limbs t).length) := fun h => sz_pos h
  obtain ⟨S, hS⟩ : ∃ S : ByteArray, st (shown t p) = S := ⟨_, rfl⟩
  have hSd : S.data.toList = shown t p := by rw [← hS]; rfl
  have hSs : S.size = (shown t p).length := by rw [← hS, st_size]
  have hpt := pointed_eq S p
  rw [hSd] at hpt
  rw [hS] at hshown
  obtain ⟨U, hU⟩ : ∃ U : ByteArray, st (pointed (shown t p) p) = U := ⟨_, rfl⟩
  rw [hU] at hpt
  have hres : Hid (st (decimalQ q p) = (if negB q = true ∧ t ≠ 0 then st [45] else st []) ++ U) := by
    show _ = _
    rw [hr.out, ← st_app, hU]
    congr 1
    split <;> rfl
  have hSl : S.size ≤ 100021 := by omega
  have hSp : p + 1 ≤ S.size := by omega
  have HSH := hide hshown
  have HPT := hide hpt
  have HWR := Lib.hid (fun A c w h => rwritten_any t A c w h (by omega))
  generalize st (decOf t) = T at *
  clear hr hSd hSs hS hU hshown hpt hT hge hlenS htb
  generalize hrr : st (decimalQ q p) = R at *
  clear hrr
  go_enter Tryz.func24, Tryz.ntmps24
  go_wp2_with fail
  refine (HC.out _).mono ?_
  rintro e w1 ⟨rfl, hb1⟩
  obtain ⟨hbx, hbw, hbl⟩ := boxed hb1
  have HBX1 := hide hbx
  obtain ⟨c0, c1, c2, f0, f1, f2⟩ := hbx
  have HX3 := hide (HBX1.out.set3 (.bool (negB q)) (.string (bs (nm q))) (.string (dstr q)))
  have HB3 := hide (below_set3 hbw (Nat.le_refl _) (.bool (negB q)) (.string (bs (nm q))) (.string (dstr q)))
  go_upto_region 2 with fail
  generalize ((w1.setCell ⟨w.heap.size, 0, none⟩ (.bool (negB q))).setCell ⟨w.heap.size, 1, none⟩ (.string (bs (nm q)))).setCell ⟨w.heap.size, 2, none⟩ (.string (dstr q)) = W3 at HX3 HB3 ⊢
  clear c0 c1 c2 f0 f1 f2 hbl hb1 hbw HBX1
  go_cut [1] (fun v wx => v = .int .i64 (p : Int) ∧ W3 = wx)
  case first =>
    go_wp2_with fail
    go_meet
    case rel => exact ⟨by rw [hpv.out], rfl⟩
  case rest =>
    obtain ⟨rfl, rfl⟩ := hcut
    obtain ⟨c0, c1, c2, _⟩ := HX3.out
    go_wp2_with fail
    refine (HL.out _).mono ?_
    rintro e w4 ⟨A, c, rfl, h1, h2, h3, h4⟩
    have HA : Hid (NAt w4 A c (nm q)) := ⟨h3, h1, h2⟩
    have hl := h3.len
    have HX4 := hide (HX3.out.keep h4 HX3.out.lt)
    have HB4 := hide (HB3.out.trans (h4.mono HB3.out.size))
    obtain ⟨m0, hm0⟩ : ∃ m0, (limbs (nm q)).length = m0 := ⟨_, rfl⟩
    have HM0 := hide hm0
    rw [hm0] at hl ⊢
    clear h1 h2 h3 h4 hm0 c0 c1 c2 HX3 HB3
    go_wp2_with fail
    go_loopw [5, 6] (fun va vi wr => ∃ (k m : Nat) (A : Option Addr) (c : Nat), va = .slice A m c ∧ vi = .int .i64 k ∧ k ≤ p ∧ m ≤ 1000000 ∧ Hid ((limbs (nm q * 10 ^ k)).length = m) ∧ Hid (NAt wr A c (nm q * 10 ^ k)) ∧ Below w4.heap.size w4 wr) (fun _ vi _ => p - (intOf vi).toNat)
    case atStart =>
      refine ⟨0, m0, A, c, rfl, rfl, by omega, by have := HM0.out; have h := hN; unfold sz at h; omega, ?_, ?_, Below.refl _ _⟩
      · show _ = _; rw [Nat.pow_zero, Nat.mul_one]; exact HM0.out
      · show NAt _ _ _ _; rw [Nat.pow_zero, Nat.mul_one]; exact HA.out
    case round =>
      obtain ⟨k, m, A, c, rfl, rfl, hk, hm, HM, HA, hbr⟩ := hrel
      by_cases hlt : k < p
      · obtain ⟨V, hV, hone, hbv⟩ := new_ten wr
        have hAV := HA.out.next hbv
        have htm := rtimesq hAV hone.out (by have := HSZ.out k (by omega); omega) (Nat.le_trans (sz_small (by decide)) (by decide))
        rw [HM.out, len_ten, Nat.mul_assoc, ← Nat.pow_succ] at htm
        have HTM := hide htm
        have HBV := hide (hbr.trans (hbv.mono hbr.size))
        have hl2 : (limbs (nm q * 10 ^ (k + 1))).length ≤ 5003 := HSZ.out (k + 1) (by omega)
        clear htm hone hbv hAV
        go_wp2_with fail
        refine HTM.out.mono ?_
        rintro e w5 ⟨A2, c2, rfl, h1, h2, h3, h4⟩
        have HA2 : Hid (NAt w5 A2 c2 (nm q * 10 ^ (k + 1))) := ⟨h3, h1, h2⟩
        have hbf := HBV.out.trans (h4.mono HBV.out.size)
        clear h1 h2 h3 h4
        go_wp2_with fail
        go_roundw
        case rel => exact ⟨k + 1, _, A2, c2, rfl, by go_num, by omega, by omega, rfl, HA2, hbf⟩
        case measure => simp [intOf]; omega
      · have hkp : k = p := by omega
        subst hkp
        have HX5 := hide (HX4.out.keep hbr (by have := HX4.out.lt; omega))
        have HB5 := hide (HB4.out.trans (hbr.mono HB4.out.size))
        have hds : (dstr q).size ≤ 100000 := by omega
        have hsd := den_size q
        have HDEN := Lib.hid (fun w => rden_any q w hds)
        have HDN := hide q.den_nz
        have hszk := HSZ.out k hp20
        have HAM : Hid (LAt wr wr.heap.size A (limbs (nm q * 10 ^ k)) ∧ (limbs (nm q * 10 ^ k)).length = m ∧ m ≤ c ∧ c ≤ maxLen) := ⟨HA.out.1, HM.out, by rw [← HM.out]; exact HA.out.2.1, HA.out.2.2⟩
        obtain ⟨c0, c1, c2, _⟩ := HX5.out
        clear HX4 HB4 hbr HSZ hpv HL HC
        go_wp2_with fail
        refine (HDEN.out _).mono ?_
        rintro e w6 ⟨B, c6, rfl, h1, h2, h3, h4⟩
        have HX6 := hide (HX5.out.keep h4 HX5.out.lt)
        have HB6 := hide (HB5.out.trans (h4.mono HB5.out.size))
        have hdv := rdivide_any (nm q * 10 ^ k) q.den m _ A B c c6 w6 (HAM.out.1.next h4) h3 HAM.out.2.1 rfl HAM.out.2.2.1 HAM.out.2.2.2 (by omega) HDN.out
        rw [HT.out] at hdv
        have HDV := hide hdv
        have hlb := h3.len
        clear h1 h2 h3 h4 hdv c0 c1 c2 HX5 HB5
        go_wp2_with fail
        refine HDV.out.mono ?_
        rintro e w7 ⟨A2, c2, A3, c3, rfl, h1, h2, h3, h4, h5, h6, h7⟩
        have HX7 := hide (HX6.out.keep h7 HX6.out.lt)
        have HB7 := hide (HB6.out.trans (h7.mono HB6.out.size))
        have HW := hide (HWR.out A2 c2 w7 h5)
        have hlq := h5.len
        have hlr := h6.len
        clear h1 h2 h3 h4 h5 h6 h7 HX6 HB6
        go_wp2_with fail
        refine HW.out.mono ?_
        rintro e w8 ⟨rfl, h8⟩
        have HX8 := hide (HX7.out.keep h8 HX7.out.lt)
        have HB8 := hide (HB7.out.trans (h8.mono HB7.out.size))
        clear h8 HX7 HB7 HW HWR HDV HDEN HAM HA HM hszk hts hsd hds HT HDN
        generalize (limbs t).length = lt at *
        go_wp2_with fail
        go_loop [9] (fun v => ∃ (c : Nat) (s : ByteArray), v = .string s ∧ Hid (s = zeros c ++ T) ∧ s.size ≤ c + T.size ∧ c + T.size ≤ s.size ∧ (c = 0 ∨ c + T.size ≤ k + 1)) (fun v => k + 1 - szOf v)
        case atStart => exact ⟨0, T, rfl, (zeros_zero T).symm, by omega, by omega, .inl rfl⟩
        case round =>
          obtain ⟨c, s, rfl, HS, hc1, hc2, hc3⟩ := hrel
          by_cases hle : s.size ≤ k
          · have HN : Hid ((⟨#[48]⟩ : ByteArray) ++ s = zeros (c + 1) ++ T) := by show _ = _; rw [HS.out, zeros_succ]
            have hsz2 : ((⟨#[48]⟩ : ByteArray) ++ s).size = s.size + 1 := by rw [ByteArray.size_append, Nat.add_comm]; rfl
            have HSZ2 := hide hsz2
            clear hsz2
            go_wp2_with fail
            go_round
            case rel => exact ⟨c + 1, _, rfl, HN.out, by have := HSZ2.out; omega, by have := HSZ2.out; omega, .inr (by omega)⟩
            case measure => have := HSZ2.out; simp only [szOf]; omega
          · have hSS : s = S := by
              have h := HSH.out
              rw [HS.out]
              by_cases hl : T.size ≤ k
              · rw [if_pos hl] at h
                rw [h, show k + 1 - T.size = c by omega]
              · rw [if_neg hl] at h
                rw [h, show c = 0 by omega, zeros_zero]
            obtain rfl := hSS
            clear HS hc1 hc2 hc3 HSH
            go_upto_if 42 with fail
            go_cut [9] (fun v wx => v = .string U ∧ Below w8.heap.size w8 wx)
            case first =>
              have hv := HPT.out
              by_cases hl : 0 < k
              · rw [if_pos hl] at hv
                have HV := hide hv
                clear hv
                go_wp2_with fail
                go_quiet (fail)
                go_wp2_with fail
                go_meet
                case rel => exact ⟨by rw [HV.out], below_drewN (Below.refl _ _) _⟩
              · rw [if_neg hl] at hv
                have HV := hide hv
                clear hv
                go_wp2_with fail
                go_meet
                case rel => exact ⟨by rw [HV.out], Below.refl _ _⟩
            case rest =>
              obtain ⟨rfl, hb9⟩ := hcut
              have HX9 := hide (HX8.out.keep hb9 HX8.out.lt)
              have HB9 := HB8.out.trans (hb9.mono HB8.out.size)
              have hUs : U.size ≤ 200100 := by
                rw [HPT.out]
                split
                · rw [ByteArray.size_append, ByteArray.size_append, ByteArray.size_extract, ByteArray.size_extract]
                  show _ + 1 + _ ≤ _
                  omega
                · omega
              clear hb9 HPT HX8 HB8
              obtain ⟨d0, d1, d2, _⟩ := HX9.out
              cases hn : negB q
              · rw [hn] at d0
                have HR : Hid (R = U) := by
                  show _ = _
                  rw [hres.out, hn, if_neg (by simp), st_nil_left]
                go_wp2_with fail
                go_ret
                exact ⟨by rw [HR.out]; rfl, HB9⟩
              · rw [hn] at d0
                by_cases hz : t = 0
                · have HR : Hid (R = U) := by
                    show _ = _
                    rw [hres.out, if_neg (by simp [hz]), st_nil_left]
                  have hlt0 := ht0.out hz
                  subst hlt0
                  clear hz ht0 ht1
                  go_wp2_with fail
                  go_ret
                  exact ⟨by rw [HR.out]; rfl, HB9⟩
                · have HR : Hid (R = ⟨#[45]⟩ ++ U) := by
                    show _ = _
                    rw [hres.out, if_pos ⟨hn, hz⟩]
                    rfl
                  have hlt1 := ht1.out hz
                  clear hz ht0 ht1
                  go_wp2_with fail
                  go_ret
                  exact ⟨by rw [HR.out]; rfl, HB9⟩
end Go.Proofs.YthppojbabkljpaaGreatDoor.RtF
