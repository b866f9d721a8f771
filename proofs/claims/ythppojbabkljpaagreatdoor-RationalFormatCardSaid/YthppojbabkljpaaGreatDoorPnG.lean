/- The walks of the program's divideSmall, shift, unshift. -/
import Derived.Test.YthppojbabkljpaaGreatDoorPnE
namespace Go.Proofs.YthppojbabkljpaaGreatDoor.PnG
open Go.RowKit RnA RnB RnS RnC RnK RnM RnL RnN RnD RnE RnQ RnR RnP RnW RnX RoA RoB RoC RoD RoE RoF RoG RoH RoI RoL PnA PnB PnC PnD PnE
set_option maxHeartbeats 4000000 in
set_option maxRecDepth 100000 in
theorem small_any (x d m : Nat) (A : Option Addr) (c : Nat) (w : World) (ha : LAt w w.heap.size A (limbs x)) (hm : (limbs x).length = m) (hx : m ≤ 1000000) (hd0 : 0 < d) (hd : d < 4294967296) :
    Calls Tryz.prog 116 #[.slice A m c, .int .u32 (d : Int)] w (DPost (x / d) (x % d) w) := by
  obtain ⟨i0, hi0, hz0, hz1, hz2⟩ := info_parts u32Info
  have HVA := hide (lval_limbs x)
  have HA := hide ha
  have HM := hide hm
  clear ha hm
  generalize limbs x = a at HVA HA HM
  go_enter Tryz.func116, Tryz.ntmps116
  go_wp2_with (first
    | (at_make
       refine wpList_make_full _ rfl (.tmp 11) (.tmp 11) 88 rfl w.heap.size 52 i0 _ 1 Tryz.underlying88 hi0 hz0 hz1 .i64 .i64 _ _ m rfl rfl ?c1 ?c2 ?c3 ?c4 ?c5 ?_
       case c1 => rfl
       case c2 => rfl
       case c3 => rw [hz2]; omega
       case c4 => unfold maxLen; omega
       case c5 => exact Nat.le_refl _
       intro w2 hown hg))
  rw [made_uv] at hown
  have hb2 : Below w.heap.size w w2 := (Below.refl _ _).grown hg (Nat.le_refl _) (by simp)
  clear hg
  go_loopw [7, 8] (fun vr vi wr => ∃ (k r : Nat) (O : List Nat), k ≤ m ∧ r < d ∧ vi = .int .i64 ((k : Int) - 1) ∧ vr = .int .u64 r ∧ Hid (O.length = m) ∧ Hid (Ok O) ∧ Hid (lval (a.drop k) = d * lval (O.drop k) + r) ∧ wr.ownsRow w.heap.size 52 1 (.slice (some ⟨w.heap.size, 0, none⟩) m m) m (uv O) ∧ Below w.heap.size w wr) (fun _ vi _ => (intOf vi + 1).toNat)
  case atStart => exact ⟨m, 0, List.replicate m 0, by omega, hd0, rfl, rfl, by show _ = _; simp, Ok.replicate _, by show _ = _; rw [List.drop_eq_nil_of_le (by rw [HM.out]; exact Nat.le_refl _), List.drop_eq_nil_of_le (by simp)]; rfl, hown, hb2⟩
  case round =>
    obtain ⟨k, r, O, hk, hr, rfl, rfl, HOL, HO, HV, hown, hbr⟩ := hrel
    rcases Nat.eq_zero_or_pos k with h0 | h0
    · subst h0
      have hfin : Hid (lval O = x / d ∧ r = x % d) := by
        have h1 := HV.out
        rw [List.drop_zero, List.drop_zero, HVA.out] at h1
        constructor
        · rw [h1, Nat.mul_add_div hd0, Nat.div_eq_of_lt hr, Nat.add_zero]
        · rw [h1, Nat.mul_add_mod, Nat.mod_eq_of_lt hr]
      have hL := LAt.of_own hown HO.out
      obtain ⟨hL2, hle⟩ := LAt.strip hL
      have hcap := own_cap hown
      rw [hfin.out.1] at hL2 hle
      rw [HOL.out] at hle
      have HL := hide hL
      have HL2 := hide hL2
      clear hL hL2
      go_wp2_with fail
      refine (trim_any O _ _ _ _ HOL.out HL.out (Nat.le_refl _)).mono ?_
      rintro e w3 ⟨rfl, rfl⟩
      rw [hfin.out.1]
      go_wp2_with fail
      go_ret2
      rw [← hfin.out.2]
      exact ⟨_, _, rfl, hle, hcap.2, HL2.out, hbr, fun a ha => by cases ha; exact Nat.le_refl _⟩
    · obtain ⟨j, rfl⟩ : ∃ j, k = j + 1 := ⟨k - 1, by omega⟩
      obtain ⟨p, hp⟩ : ∃ p, a[j]? = some p := ⟨_, List.getElem?_eq_getElem (by have := HM.out; omega)⟩
      obtain ⟨z, hz⟩ : ∃ z, O[j]? = some z := ⟨_, List.getElem?_eq_getElem (by have := HOL.out; omega)⟩
      obtain ⟨b1, o1, rfl, hb1, hc1⟩ := (HA.out.below hbr).2.2 (by have := HM.out; omega)
      have c1 := hc1 j p hp
      have hpl : p < 4294967296 := HA.out.ok.at_ hp
      have cz : wr.cell? ⟨w.heap.size, j, none⟩ = some (.int .u32 (z : Int)) := (hown.cellAt j (by omega)).trans (uv_get hz)
      have fz := hown.frozenAt j
      have hor := or_hi (r := r) (x := p) (by omega) hpl
      obtain ⟨hd1, hd2, hd3⟩ := div_lt (d := d) hpl hr hd
      have hstep := div_round HV.out hp
      have e1 : (((j + 1 : Nat) : Int) - 1) = j := by omega
      obtain ⟨T, hT⟩ : ∃ T, r * 4294967296 + p = T := ⟨_, rfl⟩
      rw [hT] at hor hd1 hd2 hd3 hstep
      have HSTEP := hide hstep
      have hjn : j < m := by omega
      obtain ⟨hos, hgs⟩ := hown.stored j (.int .u32 ((T / d : Nat) : Int))
      rw [uv_set] at hos
      have hbs := hbr.setCell (p := ⟨w.heap.size, j, none⟩) (Nat.le_refl _) (.int .u32 ((T / d : Nat) : Int))
      have hok : Hid (Ok (O.set j (T / d))) := HO.out.set _ hd2
      have hval : Hid (lval (a.drop j) = d * lval ((O.set j (T / d)).drop j) + T % d) := by
        show _ = _
        rw [HSTEP.out, drop_set_self (by have := HOL.out; omega)]
      rw [e1]
      clear hc1 hp hz hT hstep h0 e1
      go_wp2_with fail
      rw [quo_eq hd2]
      go_roundw
      case rel => exact ⟨j, T % d, O.set j (T / d), by omega, hd3, rfl, by congr 1, by show _ = _; rw [List.length_set]; exact HOL.out, hok, hval, hos, hbs⟩
      case measure => simp [intOf] <;> omega
/-- nothing is carried out of the last limb -/
theorem shl_none {a : List Nat} {i s v n : Nat} (hv : a[i]? = some v) (hn : i + 1 = n) (h : lval a * 2 ^ s < 4294967296 ^ n) : v * 2 ^ s / 4294967296 = 0 := by
  have hi : i < a.length := (List.getElem?_eq_some_iff.1 hv).1
  have e := lval_split a i (by omega)
  rw [lval_drop_at hv] at e
  have h1 : 4294967296 ^ i * v ≤ lval a := by
    rw [e]
    exact Nat.le_trans (Nat.mul_le_mul_left _ (by omega)) (Nat.le_add_left _ _)
  have h2 : 4294967296 ^ i * v * 2 ^ s ≤ lval a * 2 ^ s := Nat.mul_le_mul_right _ h1
  rw [← hn, Nat.pow_succ] at h
  have h3 : 4294967296 ^ i * (v * 2 ^ s) < 4294967296 ^ i * 4294967296 := by
    rw [← Nat.mul_assoc]; omega
  have h4 := Nat.lt_of_mul_lt_mul_left h3
  omega
set_option maxHeartbeats 4000000 in
set_option maxRecDepth 100000 in
theorem shift_any (x s m n : Nat) (A : Option Addr) (c : Nat) (w : World) (ha : LAt w w.heap.size A (limbs x)) (hm : (limbs x).length = m) (hmn : m ≤ n) (hx : n ≤ 1000000) (hs : s ≤ 31) (hfit : x * 2 ^ s < 4294967296 ^ n) :
    Calls Tryz.prog 146 #[.slice A m c, .int .u64 (s : Int), .int .i64 (n : Int)] w (OPost n (x * 2 ^ s) w) := by
  obtain ⟨i0, hi0, hz0, hz1, hz2⟩ := info_parts u32Info
  have HVA := hide (lval_limbs x)
  have HA := hide ha
  have HM := hide hm
  have HFIT := hide hfit
  clear ha hm hfit
  generalize limbs x = a at HVA HA HM
  go_enter Tryz.func146, Tryz.ntmps146
  go_wp2_with (first
    | (at_make
       refine wpList_make_full _ rfl (.tmp 11) (.tmp 11) 88 rfl w.heap.size 52 i0 _ 1 Tryz.underlying88 hi0 hz0 hz1 .i64 .i64 _ _ n rfl rfl ?c1 ?c2 ?c3 ?c4 ?c5 ?_
       case c1 => rfl
       case c2 => rfl
       case c3 => rw [hz2]; omega
       case c4 => unfold maxLen; omega
       case c5 => exact Nat.le_refl _
       intro w2 hown hg))
  rw [made_uv] at hown
  have hb2 : Below w.heap.size w w2 := (Below.refl _ _).grown hg (Nat.le_refl _) (by simp)
  clear hg
  go_loopw [15] (fun vi wr => ∃ (i : Nat) (O : List Nat), i ≤ m ∧ vi = .int .i64 i ∧ Hid (O.length = n) ∧ Hid (Ok O) ∧ Hid (lval O = lval (a.take i) * 2 ^ s) ∧ wr.ownsRow w.heap.size 52 1 (.slice (some ⟨w.heap.size, 0, none⟩) n n) n (uv O) ∧ Below w.heap.size w wr) (fun vi _ => m - (intOf vi).toNat)
  case atStart => exact ⟨0, List.replicate n 0, by omega, rfl, by show _ = _; simp, Ok.replicate _, by show _ = _; simp [lval, lval_replicate], hown, hb2⟩
  case round =>
    obtain ⟨i, O, hi, rfl, HOL, HO, HV, hown, hbr⟩ := hrel
    by_cases hlt : i < m
    · obtain ⟨p, hp⟩ : ∃ p, a[i]? = some p := ⟨_, List.getElem?_eq_getElem (by rw [HM.out]; exact hlt)⟩
      obtain ⟨z, hz⟩ : ∃ z, O[i]? = some z := ⟨_, List.getElem?_eq_getElem (by have := HOL.out; omega)⟩
      obtain ⟨b1, o1, rfl, hb1, hc1⟩ := (HA.out.below hbr).2.2 (by rw [HM.out]; omega)
      have c1 := hc1 i p hp
      have hpl : p < 4294967296 := HA.out.ok.at_ hp
      have hsmall := shl_small (s := s) HA.out.ok (by rw [HM.out]; exact hi)
      rw [← HV.out] at hsmall
      have hzl : z < 2 ^ s := limb_lt hsmall hz
      obtain ⟨hs1, hs2, hs3⟩ := shl_bounds hs hzl hpl
      have hor := or_shift (s := s) (a := p) (by omega) hzl
      have cz : wr.cell? ⟨w.heap.size, i, none⟩ = some (.int .u32 (z : Int)) := (hown.cellAt i (by omega)).trans (uv_get hz)
      have fz := hown.frozenAt i
      have HOR := hide hor
      have HP := hide hp
      have HZ := hide hz
      have HNONE : i + 1 = n → p * 2 ^ s / 4294967296 = 0 := fun e => shl_none hp e (by rw [HVA.out]; exact HFIT.out)
      have HNONE2 := Lib.hid HNONE
      have HY : i + 1 < n → O[i + 1]? = some 0 := fun hlt2 => by
        obtain ⟨y, hy⟩ : ∃ y, O[i + 1]? = some y := ⟨_, List.getElem?_eq_getElem (by have := HOL.out; omega)⟩
        rw [hy]
        congr 1
        refine zero_above ?_ hy
        have h1 : 4294967296 ^ i * 2 ^ s ≤ 4294967296 ^ i * 4294967296 := Nat.mul_le_mul_left _ (Nat.pow_le_pow_right (n := 2) (by omega) (by omega : s ≤ 32))
        rw [Nat.pow_succ]
        omega
      have HY2 := Lib.hid HY
      have HR1 : i + 1 < n → lval ((O.set i (z + (p * 2 ^ s) % 4294967296)).set (i + 1) ((p * 2 ^ s) / 4294967296)) = lval (a.take (i + 1)) * 2 ^ s := fun h => shl_round HV.out hp hz (HY h)
      have HR2 : i + 1 = n → lval (O.set i (z + (p * 2 ^ s) % 4294967296)) = lval (a.take (i + 1)) * 2 ^ s := fun h => shl_round_last HV.out hp hz (HNONE h)
      obtain ⟨t, ht⟩ : ∃ t, p * 2 ^ s = t := ⟨_, rfl⟩
      rw [ht] at hs1 hs2 hs3 HOR HR1 HR2
      have HRA := Lib.hid HR1
      have HRB := Lib.hid HR2
      have hw1 : IntKind.u64.wrap ((p : Int) * 2 ^ s) = (t : Int) := by
        rw [← ht]
        have e : (p : Int) * 2 ^ s = ((p * 2 ^ s : Nat) : Int) := by simp
        rw [e]
        exact IntWalk.u64_in _ (by rw [ht]; omega)
      have HZL := hide hzl
      have e1 : bits BinOp.or IntKind.u32 (z : Int) ((t : Int) % 4294967296) = ((z + t % 4294967296 : Nat) : Int) := by
        have e : (t : Int) % 4294967296 = ((t % 4294967296 : Nat) : Int) := by omega
        rw [e, u32_or_nat _ _ (by omega) (by omega), HOR.out]
      obtain ⟨D, hD⟩ : ∃ D, z + t % 4294967296 = D := ⟨_, rfl⟩
      rw [hD] at hs1 HRA HRB e1
      obtain ⟨E, hE⟩ : ∃ E, t / 4294967296 = E := ⟨_, rfl⟩
      rw [hE] at HRA
      have e2 : (t : Int) / 4294967296 = (E : Int) := by omega
      have hEl : E < 4294967296 := by omega
      have hin : i < n := by omega
      obtain ⟨hos, hgs⟩ := hown.stored i (.int .u32 (D : Int))
      rw [uv_set] at hos
      have hbs := hbr.setCell (p := ⟨w.heap.size, i, none⟩) (Nat.le_refl _) (.int .u32 (D : Int))
      have hok : Hid (Ok (O.set i D)) := HO.out.set _ hs1
      have E1 := Lib.hid e1
      clear hc1 hp hz hor hsmall ht hzl hs2 HNONE HY HR1 HR2 hD hE e1
      by_cases hlast : i + 1 < n
      · have hy0 := HY2.out hlast
        have hy1 : (O.set i D)[i + 1]? = some 0 := by rw [List.getElem?_set_ne (by omega)]; exact hy0
        have cy : (wr.setCell ⟨w.heap.size, i, none⟩ (.int .u32 (D : Int))).cell? ⟨w.heap.size, i + 1, none⟩ = some (.int .u32 (0 : Nat)) := (hos.cellAt (i + 1) (by omega)).trans (uv_get hy1)
        have fy := hos.frozenAt (i + 1)
        obtain ⟨hos2, hgs2⟩ := hos.stored (i + 1) (.int .u32 (E : Int))
        rw [uv_set] at hos2
        have hbs2 := hbs.setCell (p := ⟨w.heap.size, i + 1, none⟩) (Nat.le_refl _) (.int .u32 (E : Int))
        have hok2 : Hid (Ok ((O.set i D).set (i + 1) E)) := hok.out.set _ hEl
        have hval := hide (HRA.out hlast)
        have e3 : bits BinOp.or IntKind.u32 0 (E : Int) = (E : Int) := by
          have := u32_or_nat 0 E (by omega) hEl
          rw [Nat.zero_or] at this
          exact this
        have hlen : Hid (((O.set i D).set (i + 1) E).length = n) := by show _ = _; rw [List.length_set, List.length_set]; exact HOL.out
        clear hy0 hy1
        have e1 := E1.out
        go_wp2_with fail
        go_roundw
        case rel => exact ⟨i + 1, _, by omega, by go_num, hlen, hok2, hval, hos2, hbs2⟩
        case measure => simp [intOf]; omega
      · have hval := hide (HRB.out (by omega))
        have hlen : Hid ((O.set i D).length = n) := by show _ = _; rw [List.length_set]; exact HOL.out
        have e1 := E1.out
        go_wp2_with fail
        go_roundw
        case rel => exact ⟨i + 1, _, by omega, by go_num, hlen, hok, hval, hos, hbs⟩
        case measure => simp [intOf]; omega
    · have hfin : Hid (lval O = x * 2 ^ s) := by
        show _ = _
        rw [HV.out, lval_take_all (by rw [HM.out]; omega), HVA.out]
      go_wp2_with fail
      go_ret
      exact ⟨_, O, rfl, HOL.out, HO.out, hfin.out, hown, hbr⟩
set_option maxHeartbeats 4000000 in
set_option maxRecDepth 100000 in
theorem unshift_any (a : List Nat) (s n : Nat) (A : Option Addr) (c : Nat) (w : World) (ha : LAt w w.heap.size A a) (hn : a.length = n) (hx : n ≤ 1000000) (hs : s ≤ 31) :
    Calls Tryz.prog 148 #[.slice A n c, .int .u64 (s : Int)] w (LPost (limbs (lval a / 2 ^ s)) w) := by
  obtain ⟨i0, hi0, hz0, hz1, hz2⟩ := info_parts u32Info
  have HA := hide ha
  have HN := hide hn
  clear ha hn
  go_enter Tryz.func148, Tryz.ntmps148
  go_wp2_with (first
    | (at_make
       refine wpList_make_full _ rfl (.tmp 9) (.tmp 9) 88 rfl w.heap.size 52 i0 _ 1 Tryz.underlying88 hi0 hz0 hz1 .i64 .i64 _ _ n rfl rfl ?c1 ?c2 ?c3 ?c4 ?c5 ?_
       case c1 => rfl
       case c2 => rfl
       case c3 => rw [hz2]; omega
       case c4 => unfold maxLen; omega
       case c5 => exact Nat.le_refl _
       intro w2 hown hg))
  rw [made_uv] at hown
  have hb2 : Below w.heap.size w w2 := (Below.refl _ _).grown hg (Nat.le_refl _) (by simp)
  clear hg
  go_loopw [13] (fun vi wr => ∃ (i : Nat) (O : List Nat), i ≤ n ∧ vi = .int .i64 i ∧ Hid (O.length = n) ∧ Hid (Ok O) ∧ Hid (O.take i = (ush s a).take i) ∧ wr.ownsRow w.heap.size 52 1 (.slice (some ⟨w.heap.size, 0, none⟩) n n) n (uv O) ∧ Below w.heap.size w wr) (fun vi _ => n - (intOf vi).toNat)
  case atStart => exact ⟨0, List.replicate n 0, by omega, rfl, by show _ = _; simp, Ok.replicate _, by show _ = _; simp, hown, hb2⟩
  case round =>
    obtain ⟨i, O, hi, rfl, HOL, HO, HV, hown, hbr⟩ := hrel
    by_cases hlt : i < n
    · obtain ⟨p, hp⟩ : ∃ p, a[i]? = some p := ⟨_, List.getElem?_eq_getElem (by rw [HN.out]; exact hlt)⟩
      obtain ⟨z, hz⟩ : ∃ z, O[i]? = some z := ⟨_, List.getElem?_eq_getElem (by have := HOL.out; omega)⟩
      obtain ⟨b1, o1, rfl, hb1, hc1⟩ := (HA.out.below hbr).2.2 (by rw [HN.out]; omega)
      have c1 := hc1 i p hp
      have hpl : p < 4294967296 := HA.out.ok.at_ hp
      have cz : wr.cell? ⟨w.heap.size, i, none⟩ = some (.int .u32 (z : Int)) := (hown.cellAt i (by omega)).trans (uv_get hz)
      have fz := hown.frozenAt i
      have hnext := ush_at s hp
      have hql := dig_lt HA.out.ok (i + 1)
      obtain ⟨q, hq⟩ : ∃ q, dig a (i + 1) = q := ⟨_, rfl⟩
      rw [hq] at hnext hql
      have HQ : i + 1 < n → wr.cell? ⟨b1, o1 + (i + 1), none⟩ = some (.int .u32 (q : Int)) := fun h => by
        refine hc1 (i + 1) q ?_
        rw [← hq, dig_at (List.getElem?_eq_getElem (by rw [HN.out]; exact h))]
        exact List.getElem?_eq_getElem (by rw [HN.out]; exact h)
      have HQ0 : ¬ i + 1 < n → q = 0 := fun h => by rw [← hq]; exact dig_out (by rw [HN.out]; omega)
      have HQ1 := Lib.hid HQ
      have HQ2 := Lib.hid HQ0
      obtain ⟨V, hV⟩ : ∃ V, p + 4294967296 * q = V := ⟨_, rfl⟩
      rw [hV] at hnext
      obtain ⟨D, hD⟩ : ∃ D, V / 2 ^ s % 4294967296 = D := ⟨_, rfl⟩
      rw [hD] at hnext
      have hDl : D < 4294967296 := by rw [← hD]; exact Nat.mod_lt _ (by omega)
      have q10 : (V : Int) / 2 ^ s % 4294967296 = (D : Int) := by
        have e : (V : Int) / 2 ^ s = ((V / 2 ^ s : Nat) : Int) := by simp
        rw [e]; omega
      have HN1 : Hid (Ok (O.set i D)) := HO.out.set _ hDl
      have HN2 : Hid ((O.set i D).length = n) := by show _ = _; rw [List.length_set]; exact HOL.out
      have HN3 : Hid ((O.set i D).take (i + 1) = (ush s a).take (i + 1)) := by
        show _ = _
        rw [take_set_succ (by rw [HOL.out]; omega), RnA.take_at hnext, HV.out]
      obtain ⟨hos, hgs⟩ := hown.stored i (.int .u32 (D : Int))
      rw [uv_set] at hos
      have hbs := hbr.setCell (p := ⟨w.heap.size, i, none⟩) (Nat.le_refl _) (.int .u32 (D : Int))
      have HV2 := hide hV
      clear hc1 hp hz hq hnext hD hV HQ HQ0
      by_cases hlast : i + 1 < n
      · have c2 := HQ1.out hlast
        have q9 : IntKind.u64.wrap ((q : Int) * 4294967296) = (q : Int) * 4294967296 := IntWalk.u64_in _ (by omega)
        have hor : bits BinOp.or IntKind.u64 (p : Int) ((q : Int) * 4294967296) = (V : Int) := by
          have e : (q : Int) * 4294967296 = ((q * 4294967296 : Nat) : Int) := by omega
          rw [e, u64_or_nat _ _ (by omega) (by omega), Nat.mul_comm q, show (4294967296 : Nat) = 2 ^ 32 from rfl, or_low hpl, ← HV2.out]
        go_wp2_with fail
        go_roundw
        case rel => exact ⟨i + 1, _, by omega, by go_num, HN2, HN1, HN3, hos, hbs⟩
        case measure => simp [intOf]; omega
      · have hq0 := HQ2.out hlast
        have hpV : p = V := by have := HV2.out; omega
        subst hpV
        go_wp2_with fail
        go_roundw
        case rel => exact ⟨i + 1, _, by omega, by go_num, HN2, HN1, HN3, hos, hbs⟩
        case measure => simp [intOf]; omega
    · obtain rfl : i = n := by omega
      have hfin : Hid (lval O = lval a / 2 ^ s) := by
        show _ = _
        have h := HV.out
        rw [List.take_of_length_le (by rw [HOL.out]; exact Nat.le_refl _), List.take_of_length_le (by rw [ush_length, HN.out]; exact Nat.le_refl _)] at h
        rw [h, ush_val hs HA.out.ok]
      have hL := LAt.of_own hown HO.out
      obtain ⟨hL2, hle⟩ := LAt.strip hL
      have hcap := own_cap hown
      rw [hfin.out] at hL2 hle
      rw [HOL.out] at hle
      have HL := hide hL
      have HL2 := hide hL2
      clear hL hL2
      go_wp2_with fail
      refine (trim_any O _ _ _ _ HOL.out HL.out (Nat.le_refl _)).mono ?_
      rintro e w3 ⟨rfl, rfl⟩
      rw [hfin.out]
      go_wp2_with fail
      go_ret
      exact ⟨_, _, rfl, hle, hcap.2, HL2.out, hbr⟩
end Go.Proofs.YthppojbabkljpaaGreatDoor.PnG
