/- The walks of the program's subtract and Subtract. -/
import Derived.Test.YthppojbabkljpaaGreatDoorPnD
namespace Go.Proofs.YthppojbabkljpaaGreatDoor.PnE
open Go.RowKit RnA RnB RnS RnC RnK RnM RnL RnN RnD RnE RnQ RnR RnP RnW RnX RoA RoB RoC RoD RoE RoF RoG RoH RoI RoL PnA PnB PnC PnD
theorem sub_lt {x y b : Nat} (hx : x < 4294967296) (hy : y < 4294967296) (hb : b ≤ 1) : (if x < y + b then 1 else 0) ≤ 1 ∧ (x + 8589934592 - y - b) % 4294967296 + y + b = x + (if x < y + b then 1 else 0) * 4294967296 := by
  refine ⟨by split <;> omega, ?_⟩
  exact borrow_sum hx hy hb rfl
set_option maxHeartbeats 4000000 in
set_option maxRecDepth 100000 in
theorem sub_any (x y m n : Nat) (A B : Option Addr) (c c' : Nat) (w : World) (ha : LAt w w.heap.size A (limbs x)) (hb : LAt w w.heap.size B (limbs y)) (hm : (limbs x).length = m) (hn : (limbs y).length = n) (hx : m ≤ 1000000) (hyx : y ≤ x) :
    Calls Tryz.prog 154 #[.slice A m c, .slice B n c'] w (LPost (limbs (x - y)) w) := by
  obtain ⟨i0, hi0, hz0, hz1, hz2⟩ := info_parts u32Info
  have hnm : n ≤ m := by
    have h : (limbs y).length ≤ (limbs x).length := sz_mono hyx
    omega
  have HYX := hide hyx
  have HVA := hide (lval_limbs x)
  have HVB := hide (lval_limbs y)
  have HA := hide ha
  have HB := hide hb
  have HM := hide hm
  have HN := hide hn
  clear ha hb hyx hm hn
  generalize limbs x = a at HVA HA HM
  generalize limbs y = b at HVB HB HN
  go_enter Tryz.func154, Tryz.ntmps154
  go_wp2_with (first
    | (at_make
       refine wpList_make_full _ rfl (.tmp 10) (.tmp 10) 88 rfl w.heap.size 52 i0 _ 1 Tryz.underlying88 hi0 hz0 hz1 .i64 .i64 _ _ m rfl rfl ?c1 ?c2 ?c3 ?c4 ?c5 ?_
       case c1 => rfl
       case c2 => rfl
       case c3 => rw [hz2]; omega
       case c4 => unfold maxLen; omega
       case c5 => exact Nat.le_refl _
       intro w2 hown hg))
  rw [made_uv] at hown
  have hb2 : Below w.heap.size w w2 := (Below.refl _ _).grown hg (Nat.le_refl _) (by simp)
  clear hg
  go_loopw [6, 14] (fun vc vi wr => ∃ (i k : Nat) (O : List Nat), i ≤ m ∧ k ≤ 1 ∧ vi = .int .i64 i ∧ vc = .int .u32 k ∧ Hid (O.length = m) ∧ Hid (Ok O) ∧ Hid (lval (O.take i) + lval (b.take i) = lval (a.take i) + k * 4294967296 ^ i) ∧ wr.ownsRow w.heap.size 52 1 (.slice (some ⟨w.heap.size, 0, none⟩) m m) m (uv O) ∧ Below w.heap.size w wr) (fun _ vi _ => m - (intOf vi).toNat)
  case atStart => exact ⟨0, 0, List.replicate m 0, by omega, by omega, rfl, rfl, by show _ = _; simp, Ok.replicate _, by show _ = _; simp [lval], hown, hb2⟩
  case round =>
    obtain ⟨i, k, O, hi, hk, rfl, rfl, HOL, HO, HV, hown, hbr⟩ := hrel
    by_cases hlt : i < m
    · obtain ⟨u, hu⟩ : ∃ u, a[i]? = some u := ⟨_, List.getElem?_eq_getElem (by have := HM.out; omega)⟩
      obtain ⟨z, hz⟩ : ∃ z, O[i]? = some z := ⟨_, List.getElem?_eq_getElem (by have := HOL.out; omega)⟩
      obtain ⟨b1, o1, rfl, hb1, hc1⟩ := (HA.out.below hbr).2.2 (by have := HM.out; omega)
      have c1 := hc1 i u hu
      have hul : u < 4294967296 := HA.out.ok.at_ hu
      have hvl := dig_lt HB.out.ok i
      obtain ⟨v, hv⟩ : ∃ v, dig b i = v := ⟨_, rfl⟩
      rw [hv] at hvl
      have cz : wr.cell? ⟨w.heap.size, i, none⟩ = some (.int .u32 (z : Int)) := (hown.cellAt i (by omega)).trans (uv_get hz)
      have fz := hown.frozenAt i
      have HU := hide hu
      have HVV := hide hv
      clear hc1 hu hv hz
      go_upto_if 20 with fail
      go_cut [8] (fun vv wx => vv = .int .u32 (v : Int) ∧ wr = wx)
      case first =>
        by_cases h1 : i < n
        · obtain ⟨b2, o2, rfl, hb2, hc2⟩ := (HB.out.below hbr).2.2 (by have := HN.out; omega)
          have c2 : wr.cell? ⟨b2, o2 + i, none⟩ = some (.int .u32 (v : Int)) := hc2 i v (by rw [← HVV.out, dig_at (List.getElem?_eq_getElem (by rw [HN.out]; exact h1))]; exact List.getElem?_eq_getElem (by rw [HN.out]; exact h1))
          clear hc2
          go_wp2_with fail
          go_meet
          case rel => exact ⟨rfl, rfl⟩
        · have hv0 : v = 0 := by rw [← HVV.out]; exact dig_out (by rw [HN.out]; omega)
          subst hv0
          go_wp2_with fail
          go_meet
          case rel => exact ⟨rfl, rfl⟩
      case rest =>
        obtain ⟨rfl, rfl⟩ := hcut
        obtain ⟨hbo1, hbo2⟩ := sub_lt hul hvl hk
        obtain ⟨bo, hbo⟩ : ∃ bo, (if u < v + k then 1 else 0) = bo := ⟨_, rfl⟩
        obtain ⟨D, hD⟩ : ∃ D, (u + 8589934592 - v - k) % 4294967296 = D := ⟨_, rfl⟩
        have HSB := Lib.hid (fun w => sub32_any u v k D bo w hul hvl hk hD.symm hbo)
        rw [hbo] at hbo1 hbo2
        rw [hD] at hbo2
        have hDl : D < 4294967296 := by omega
        have hsum : Hid (lval ((O.set i D).take (i + 1)) + lval (b.take (i + 1)) = lval (a.take (i + 1)) + bo * 4294967296 ^ (i + 1)) := by
          show _ = _
          rw [take_set_succ (by rw [HOL.out]; omega)]
          exact sub_round HV.out (take_len (by rw [HOL.out]; omega)) (by rw [HVV.out, dig_at HU.out]; exact hbo2)
        have hok : Hid (Ok (O.set i D)) := HO.out.set _ hDl
        have hlen : Hid ((O.set i D).length = m) := by show _ = _; rw [List.length_set]; exact HOL.out
        obtain ⟨hos, hgs⟩ := hown.stored i (.int .u32 (D : Int))
        rw [uv_set] at hos
        have hbs := hbr.setCell (p := ⟨w.heap.size, i, none⟩) (Nat.le_refl _) (.int .u32 (D : Int))
        clear hbo hD hbo2
        go_wp2_with fail
        refine (HSB.out _).mono ?_
        rintro e w5 ⟨rfl, rfl⟩
        go_wp2_with fail
        go_roundw
        case rel => exact ⟨i + 1, bo, _, by omega, hbo1, by go_num, rfl, hlen, hok, hsum, hos, hbs⟩
        case measure => simp [intOf]; omega
    · obtain rfl : i = m := by omega
      have hfin : Hid (lval O = x - y) := by
        show _ = _
        have h2 := HV.out
        rw [lval_take_all (l := O) (by rw [HOL.out]; exact Nat.le_refl _), lval_take_all (l := a) (by rw [HM.out]; exact Nat.le_refl _), lval_take_all (l := b) (by rw [HN.out]; exact hnm), HVA.out, HVB.out] at h2
        have h3 := lval_lt HO.out
        rw [HOL.out] at h3
        have h4 := HYX.out
        rcases (by omega : k = 0 ∨ k = 1) with h5 | h5
        · subst h5; omega
        · subst h5; omega
      have hL := LAt.of_own hown HO.out
      obtain ⟨hL2, hle⟩ := LAt.strip hL
      have hcap := own_cap hown
      rw [hfin.out] at hL2 hle
      rw [HOL.out] at hle
      have HL := hide hL
      have HL2 := hide hL2
      clear hL hL2
      go_wp2_with fail
      refine (trim_any O _ _ _ _ HOL.out HL.out (Nat.le_refl _)).mono ?_
      rintro e w3 ⟨rfl, rfl⟩
      rw [hfin.out]
      go_wp2_with fail
      go_ret
      exact ⟨_, _, rfl, hle, hcap.2, HL2.out, hbr⟩
/-- a difference, if there is one -/
def subN (x y : Nat) : Nat × Bool := if x < y then (0, false) else (x - y, true)
def SBPost (p : Nat × Bool) (w : World) (e : Ending) (w' : World) : Prop := e = .returned (.tuple #[.string (bs p.1), .bool p.2]) ∧ Below w.heap.size w w'
theorem bs_zero : bs 0 = ⟨#[]⟩ := by unfold bs; rw [bytesOf_zero]
set_option maxHeartbeats 4000000 in
set_option maxRecDepth 100000 in
theorem subtract_any (s t : ByteArray) (w : World) (hs : s.size ≤ 100000) (ht : t.size ≤ 100000) :
    Calls Tryz.prog 130 #[.string s, .string t] w (SBPost (subN (nv s) (nv t)) w) := by
  have hx := nv_le (s := s) (k := 25000) (by omega)
  obtain ⟨x, hX⟩ : ∃ x, nv s = x := ⟨_, rfl⟩
  obtain ⟨y, hY⟩ : ∃ y, nv t = y := ⟨_, rfl⟩
  have P1 := Lib.hid (fun w => parse_any s w (by omega))
  have P2 := Lib.hid (fun w => parse_any t w (by omega))
  rw [hX] at hx P1 ⊢
  rw [hY] at P2 ⊢
  have hxl : (limbs x).length ≤ 25000 := hx
  clear hX hY hs ht hx
  go_enter Tryz.func130, Tryz.ntmps130
  go_wp2_with fail
  refine (P1.out _).mono ?_
  rintro e w1 ⟨A, c, rfl, hA1, hA2, hA3, hb1⟩
  have HA := hide hA3
  clear hA1 hA2 hA3
  go_wp2_with fail
  refine (P2.out _).mono ?_
  rintro e w2 ⟨B, c', rfl, hB1, hB2, hB3, hb2⟩
  have HB := hide hB3
  have HA2 := hide (HA.out.next hb2)
  have hb3 := below_next hb1 hb2
  clear hB1 hB2 hB3 HA hb1 hb2
  go_wp2_with fail
  refine (cmp_any x y A B c c' _ HA2.out HB.out).mono ?_
  rintro e w3 ⟨rfl, hb4⟩
  have HA3 := hide (HA2.out.next hb4)
  have HB3 := hide (HB.out.next hb4)
  have hb5 := below_next hb3 hb4
  clear HA2 HB hb3 hb4
  by_cases hlt : x < y
  · have hc : cmpN x y = -1 := (cmpN_lt hlt).symm
    have hr : Hid (subN x y = (0, false)) := by show _ = _; unfold subN; rw [if_pos hlt]
    rw [hc]
    clear hlt
    go_wp2_with fail
    go_ret2
    rw [hr.out]
    exact ⟨by rw [bs_zero]; rfl, hb5⟩
  · have hc : ¬ cmpN x y < 0 := by
      unfold cmpN
      rw [if_neg hlt]
      split <;> omega
    have hr : Hid (subN x y = (x - y, true)) := by show _ = _; unfold subN; rw [if_neg hlt]
    have HSUB := hide (sub_any x y _ _ A B c c' _ HA3.out HB3.out rfl rfl (by omega) (by omega))
    have hl2 : (limbs (x - y)).length ≤ 1000000 := by
      have h1 : (limbs (x - y)).length ≤ (limbs x).length := sz_sub x y
      omega
    generalize cmpN x y = cv at hc ⊢
    clear hlt
    go_wp2_with fail
    refine HSUB.out.mono ?_
    rintro e w4 ⟨C, c2, rfl, h1, h2, h3, h4⟩
    have H3 := hide h3
    have hb6 := below_next hb5 h4
    have hlv := hide (lval_limbs (x - y))
    clear h3 h4 hb5
    go_wp2_with fail
    refine (text_any (limbs (x - y)) _ _ _ _ H3.out rfl hl2).mono ?_
    rintro e w5 ⟨rfl, hb7⟩
    rw [hlv.out]
    go_wp2_with fail
    go_ret2
    rw [hr.out]
    exact ⟨rfl, below_next hb6 hb7⟩
end Go.Proofs.YthppojbabkljpaaGreatDoor.PnE
