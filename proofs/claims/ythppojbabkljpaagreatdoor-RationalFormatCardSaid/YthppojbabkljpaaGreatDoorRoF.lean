/- The walks of the reference's minus, times, short. -/
import Derived.Test.YthppojbabkljpaaGreatDoorRoE
namespace Go.Proofs.YthppojbabkljpaaGreatDoor.RoF
open Go.RowKit RnA RnB RnS RnC RnM RnL RnN RnW RoA RoB RoC RoD RoE
/-- a list without its zeros at the end reads where it stood -/
theorem LAt.strip {w : World} {B : Nat} {A : Option Addr} {l : List Nat} (h : LAt w B A l) : LAt w B A (limbs (lval l)) ∧ (limbs (lval l)).length ≤ l.length := by
  obtain ⟨h1, h2⟩ := take_sz h.ok
  have h3 := RnW.LAt.take h (sz (lval l))
  rw [h1] at h3
  exact ⟨h3, h2⟩
theorem strip_n (l : List Nat) (A : Option Addr) (n c : Nat) (w : World) (hn : l.length = n) (h : LAt w w.heap.size A l) (hc : n ≤ c) :
    Calls Tryz.prog 71 #[.slice A n c] w fun e w' => e = .returned (.slice A (limbs (lval l)).length c) ∧ w = w' := by
  subst hn; exact strip_any l A c w h hc
set_option maxHeartbeats 4000000 in
set_option maxRecDepth 100000 in
theorem rminus_any (x y : Nat) (A B : Option Addr) (c c' : Nat) (w : World) (ha : LAt w w.heap.size A (limbs x)) (hb : LAt w w.heap.size B (limbs y)) (hx : sz x ≤ 1000000) (hyx : y ≤ x) :
    Calls Tryz.prog 131 #[.slice A (limbs x).length c, .slice B (limbs y).length c'] w (LPost (limbs (x - y)) w) := by
  obtain ⟨i0, hi0, hz0, hz1, hz2⟩ := info_parts u32Info
  have hla : (limbs x).length ≤ 1000000 := hx
  have hlb : (limbs y).length ≤ (limbs x).length := sz_mono hyx
  have HYX := hide hyx
  have HVA := hide (lval_limbs x)
  have HVB := hide (lval_limbs y)
  have HA := hide ha
  have HB := hide hb
  clear ha hb hx hyx
  generalize limbs x = a at *
  generalize limbs y = b at *
  go_enter Tryz.func131, Tryz.ntmps131
  go_wp2_with (first
    | (at_make
       refine wpList_make_full _ rfl (.tmp 11) (.tmp 11) 71 rfl w.heap.size 52 i0 _ 1 Tryz.underlying71 hi0 hz0 hz1 .i64 .i64 _ _ a.length rfl rfl ?c1 ?c2 ?c3 ?c4 ?c5 ?_
       case c1 => rfl
       case c2 => rfl
       case c3 => rw [hz2]; omega
       case c4 => unfold maxLen; omega
       case c5 => exact Nat.le_refl _
       intro w2 hown hg))
  rw [made_uv] at hown
  have hb2 : Below w.heap.size w w2 := (Below.refl _ _).grown hg (Nat.le_refl _) (by simp)
  clear hg
  go_loopw [6, 7] (fun vc vi wr => ∃ (i k : Nat) (O : List Nat), i ≤ a.length ∧ k ≤ 1 ∧ vi = .int .i64 i ∧ vc = .int .u64 k ∧ O.length = a.length ∧ Hid (Ok O) ∧ Hid (lval (O.take i) + lval (b.take i) = lval (a.take i) + k * 4294967296 ^ i) ∧ wr.ownsRow w.heap.size 52 1 (.slice (some ⟨w.heap.size, 0, none⟩) a.length a.length) a.length (uv O) ∧ Below w.heap.size w wr) (fun _ vi _ => a.length - (intOf vi).toNat)
  case atStart => exact ⟨0, 0, List.replicate a.length 0, by omega, by omega, rfl, rfl, by simp, Ok.replicate _, by show _ = _; simp [lval], hown, hb2⟩
  case round =>
    obtain ⟨i, k, O, hi, hk, rfl, rfl, hol, HO, HV, hown, hbr⟩ := hrel
    by_cases hlt : i < a.length
    · obtain ⟨p, hp⟩ : ∃ p, a[i]? = some p := ⟨_, List.getElem?_eq_getElem hlt⟩
      obtain ⟨z, hz⟩ : ∃ z, O[i]? = some z := ⟨_, List.getElem?_eq_getElem (by omega)⟩
      obtain ⟨b1, o1, rfl, hb1, hc1⟩ := (HA.out.below hbr).2.2 (by omega)
      have c1 := hc1 i p hp
      have hpl : p < 4294967296 := HA.out.ok.at_ hp
      have hql := dig_lt HB.out.ok i
      obtain ⟨q, hq⟩ : ∃ q, dig b i = q := ⟨_, rfl⟩
      rw [hq] at hql
      have cz : wr.cell? ⟨w.heap.size, i, none⟩ = some (.int .u32 (z : Int)) := (hown.cellAt i (by omega)).trans (uv_get hz)
      have fz := hown.frozenAt i
      have HP := hide hp
      have HQ := hide hq
      clear hc1 hp hq hz
      go_upto_if 23 with fail
      go_cut [8] (fun v wx => v = .int .u64 ((k + q : Nat) : Int) ∧ wr = wx)
      case first =>
        by_cases h1 : i < b.length
        · obtain ⟨b2, o2, rfl, hb2, hc2⟩ := (HB.out.below hbr).2.2 (by omega)
          have c2 : wr.cell? ⟨b2, o2 + i, none⟩ = some (.int .u32 (q : Int)) := hc2 i q (by rw [← HQ.out, dig_at (List.getElem?_eq_getElem h1)]; exact List.getElem?_eq_getElem h1)
          clear hc2
          go_wp2_with fail
          go_meet
          case rel => exact ⟨by go_num, rfl⟩
        · have hq0 : q = 0 := by rw [← HQ.out]; exact dig_out (by omega)
          subst hq0
          go_wp2_with fail
          go_meet
          case rel => exact ⟨by go_num, rfl⟩
      case rest =>
        obtain ⟨rfl, rfl⟩ := hcut
        obtain ⟨s, hs⟩ : ∃ s, k + q = s := ⟨_, rfl⟩
        rw [hs]
        have hsl : s ≤ 4294967296 := by omega
        have HS := hide hs
        clear hs
        by_cases hps : p < s
        · have hstep : Hid (lval ((O.set i (p + 4294967296 - s)).take (i + 1)) + lval (b.take (i + 1)) = lval (a.take (i + 1)) + 1 * 4294967296 ^ (i + 1)) := by
            show _ = _
            rw [take_set_succ (by omega)]
            exact sub_round HV.out (take_len (by omega)) (by rw [HQ.out, dig_at HP.out]; have := HS.out; omega)
          have hok := HO.out.set i (x := p + 4294967296 - s) (by omega)
          obtain ⟨hos, hgs⟩ := hown.stored i (.int .u32 ((p + 4294967296 - s : Nat) : Int))
          rw [uv_set] at hos
          have hbs := hbr.setCell (p := ⟨w.heap.size, i, none⟩) (Nat.le_refl _) (.int .u32 ((p + 4294967296 - s : Nat) : Int))
          have eS : ((p + 4294967296 - s : Nat) : Int) = (p : Int) + 4294967296 - (s : Int) := by omega
          rw [eS] at hos hbs
          go_wp2_with fail
          go_roundw
          case rel => exact ⟨i + 1, 1, O.set i (p + 4294967296 - s), by omega, by omega, by go_num, rfl, by rw [List.length_set]; exact hol, hok, hstep, hos, hbs⟩
          case measure => simp [intOf]; omega
        · have hstep : Hid (lval ((O.set i (p - s)).take (i + 1)) + lval (b.take (i + 1)) = lval (a.take (i + 1)) + 0 * 4294967296 ^ (i + 1)) := by
            show _ = _
            rw [take_set_succ (by omega)]
            exact sub_round HV.out (take_len (by omega)) (by rw [HQ.out, dig_at HP.out]; have := HS.out; omega)
          have hok := HO.out.set i (x := p - s) (by omega)
          obtain ⟨hos, hgs⟩ := hown.stored i (.int .u32 ((p - s : Nat) : Int))
          rw [uv_set] at hos
          have hbs := hbr.setCell (p := ⟨w.heap.size, i, none⟩) (Nat.le_refl _) (.int .u32 ((p - s : Nat) : Int))
          have eS : ((p - s : Nat) : Int) = (p : Int) - (s : Int) := by omega
          rw [eS] at hos hbs
          go_wp2_with fail
          go_roundw
          case rel => exact ⟨i + 1, 0, O.set i (p - s), by omega, by omega, by go_num, rfl, by rw [List.length_set]; exact hol, hok, hstep, hos, hbs⟩
          case measure => simp [intOf]; omega
    · have hfin : Hid (lval O = x - y) := by
        show _ = _
        have h1 := HV.out
        rw [lval_take_all (by omega), lval_take_all (by omega), lval_take_all (by omega), HVA.out, HVB.out] at h1
        have h2 := lval_lt HO.out
        have h3 := HYX.out
        have h4 : k = 0 := by
          rcases Nat.eq_zero_or_pos k with h0 | h0
          · exact h0
          · exfalso
            have h5 : 1 * 4294967296 ^ i ≤ k * 4294967296 ^ i := Nat.mul_le_mul_right _ h0
            rw [hol, show a.length = i by omega] at h2
            omega
        subst h4
        omega
      have hL := LAt.of_own hown HO.out
      obtain ⟨hL2, hle⟩ := LAt.strip hL
      have hcap := own_cap hown
      rw [hfin.out] at hL2 hle
      rw [hol] at hle
      have HL := hide hL
      have HL2 := hide hL2
      have HOL := hide hol
      clear hL hL2 hol
      go_wp2_with fail
      refine (strip_n O _ _ _ _ HOL.out HL.out (Nat.le_refl _)).mono ?_
      rintro e w3 ⟨rfl, rfl⟩
      rw [hfin.out]
      go_wp2_with fail
      go_ret
      exact ⟨_, _, rfl, hle, hcap.2, HL2.out, hbr⟩
set_option maxHeartbeats 4000000 in
set_option maxRecDepth 100000 in
theorem rtimes_any (x y : Nat) (A B : Option Addr) (c c' : Nat) (w : World) (ha : LAt w w.heap.size A (limbs x)) (hb : LAt w w.heap.size B (limbs y)) (hx : sz x ≤ 100000) (hy : sz y ≤ 100000) :
    Calls Tryz.prog 69 #[.slice A (limbs x).length c, .slice B (limbs y).length c'] w (LPost (limbs (x * y)) w) := by
  obtain ⟨i0, hi0, hz0, hz1, hz2⟩ := info_parts u32Info
  have hla : (limbs x).length ≤ 100000 := hx
  have hlb : (limbs y).length ≤ 100000 := hy
  have HVA := hide (lval_limbs x)
  have HVB := hide (lval_limbs y)
  have HA := hide ha
  have HB := hide hb
  clear ha hb hx hy
  generalize limbs x = a at *
  generalize limbs y = b at *
  have hw0 : IntKind.i64.wrap ((a.length : Int) + (b.length : Int)) = ((a.length + b.length : Nat) : Int) := by
    rw [IntWalk.i64_in _ (by omega)]; omega
  go_enter Tryz.func69, Tryz.ntmps69
  go_wp2_with (first
    | (at_make
       refine wpList_make_full _ rfl (.tmp 13) (.tmp 13) 71 rfl w.heap.size 52 i0 _ 1 Tryz.underlying71 hi0 hz0 hz1 .i64 .i64 _ _ (a.length + b.length) rfl rfl ?c1 ?c2 ?c3 ?c4 ?c5 ?_
       case c1 => omega
       case c2 => omega
       case c3 => rw [hz2]; omega
       case c4 => unfold maxLen; omega
       case c5 => exact Nat.le_refl _
       intro w2 hown hg))
  rw [made_uv] at hown
  have hb2 : Below w.heap.size w w2 := (Below.refl _ _).grown hg (Nat.le_refl _) (by simp)
  clear hg hw0
  generalize hn : a.length + b.length = n at hown
  go_loopw [6] (fun vi wr => ∃ (i : Nat) (O : List Nat), i ≤ a.length ∧ vi = .int .i64 i ∧ Hid (O.length = n) ∧ Hid (Ok O) ∧ Hid (lval O = lval (a.take i) * y) ∧ wr.ownsRow w.heap.size 52 1 (.slice (some ⟨w.heap.size, 0, none⟩) n n) n (uv O) ∧ Below w.heap.size w wr) (fun vi _ => a.length - (intOf vi).toNat)
  case atStart => exact ⟨0, List.replicate n 0, by omega, rfl, by show _ = _; simp, Ok.replicate _, by show _ = _; simp [lval, lval_replicate], hown, hb2⟩
  case round =>
    obtain ⟨i, O, hi, rfl, HOL, HO, HV, hown, hbr⟩ := hrel
    by_cases hlt : i < a.length
    · obtain ⟨u, hu⟩ : ∃ u, a[i]? = some u := ⟨_, List.getElem?_eq_getElem hlt⟩
      have hul : u < 4294967296 := HA.out.ok.at_ hu
      have hzero : Hid (O[i + b.length]? = some 0) := by
        show _ = _
        obtain ⟨z, hz⟩ : ∃ z, O[i + b.length]? = some z := ⟨_, List.getElem?_eq_getElem (by have := HOL.out; omega)⟩
        rw [hz]
        congr 1
        refine zero_above ?_ hz
        rw [HV.out, Nat.pow_add]
        have h1 := lval_lt (HA.out.ok.take i)
        rw [take_len hi] at h1
        have h2 := lval_lt HB.out.ok
        rw [HVB.out] at h2
        exact Nat.mul_lt_mul_of_lt_of_le h1 (Nat.le_of_lt h2) (pow_pos _)
      have HU := hide hu
      obtain ⟨wo, rfl⟩ : ∃ wo : World, wo = wr := ⟨_, rfl⟩
      clear hu
      go_wp2_with fail
      go_loopw [7, 8] (fun vk vj wq => ∃ (j k : Nat) (P : List Nat), j ≤ b.length ∧ k < 4294967296 ∧ vj = .int .i64 j ∧ vk = .int .u64 k ∧ Hid (P.length = n) ∧ Hid (Ok P) ∧ Hid (P[i + b.length]? = some 0) ∧ Hid (lval P + k * 4294967296 ^ (i + j) = lval (a.take i) * y + u * lval (b.take j) * 4294967296 ^ i) ∧ wq.ownsRow w.heap.size 52 1 (.slice (some ⟨w.heap.size, 0, none⟩) n n) n (uv P) ∧ Below w.heap.size w wq) (fun _ vj _ => b.length - (intOf vj).toNat)
      case atStart => exact ⟨0, 0, O, by omega, by omega, rfl, rfl, HOL.out, HO.out, hzero.out, by show _ = _; rw [HV.out]; simp [lval], hown, hbr⟩
      case round =>
        clear hown hbr HOL HO HV hzero
        obtain ⟨j, k, P, hj, hk, rfl, rfl, HPL, HP, HZ, HV, hown, hbr⟩ := hrel
        by_cases hjl : j < b.length
        · obtain ⟨v, hv⟩ : ∃ v, b[j]? = some v := ⟨_, List.getElem?_eq_getElem hjl⟩
          have hvl : v < 4294967296 := HB.out.ok.at_ hv
          obtain ⟨z, hz⟩ : ∃ z, P[i + j]? = some z := ⟨_, List.getElem?_eq_getElem (by have := HPL.out; omega)⟩
          have hzl : z < 4294967296 := HP.out.at_ hz
          obtain ⟨b1, o1, rfl, hb1, hc1⟩ := (HA.out.below hbr).2.2 (by omega)
          obtain ⟨b2, o2, rfl, hb2', hc2⟩ := (HB.out.below hbr).2.2 (by omega)
          have c1 := hc1 i u HU.out
          have c2 := hc2 j v hv
          have hijn : i + j < n := by omega
          have cz : wr.cell? ⟨w.heap.size, i + j, none⟩ = some (.int .u32 (z : Int)) := (hown.cellAt (i + j) (by omega)).trans (uv_get hz)
          have fz := hown.frozenAt (i + j)
          have hmr := mul_round HV.out hz hv
          obtain ⟨hT1, hT2⟩ := prod_lt hul hvl hzl hk
          obtain ⟨T, hT⟩ : ∃ T, u * v + z + k = T := ⟨_, rfl⟩
          rw [hT] at hmr hT1 hT2
          have huv : u * v ≤ 18446744065119617025 := Nat.mul_le_mul (by omega : u ≤ 4294967295) (by omega : v ≤ 4294967295)
          have hw1 : IntKind.u64.wrap ((u : Int) * (v : Int)) = ((u * v : Nat) : Int) := by
            rw [← Int.natCast_mul]
            exact IntWalk.u64_in _ (by omega)
          have hp0 : Hid (u * v + z + k = T) := hT
          obtain ⟨pr, hpr⟩ : ∃ pr, u * v = pr := ⟨_, rfl⟩
          rw [hpr] at hw1 hT huv
          have hw2 : IntKind.u64.wrap ((k : Int) + (pr : Int)) = (k : Int) + (pr : Int) := IntWalk.u64_in _ (by omega)
          have hw3 : IntKind.u64.wrap ((k : Int) + (pr : Int) + (z : Int)) = (T : Int) := by rw [IntWalk.u64_in _ (by omega)]; omega
          have hw4 : IntKind.i64.wrap ((i : Int) + (j : Int)) = (i : Int) + (j : Int) := IntWalk.i64_in _ (by omega)
          have hw5 : ((i : Int) + (j : Int)).toNat = i + j := by omega
          have hw6 : 0 ≤ (i : Int) + (j : Int) := by omega
          have hw7 : (i : Int) + (j : Int) < (n : Int) := by omega
          have HV2 := hide hmr
          have HZ2 := hide hz
          have HV3 := hide hv
          clear hc1 hc2 hz hv hpr hT hmr
          go_wp2_with fail
          go_quiet (fail)
          obtain ⟨hos, hgs⟩ := hown.stored (i + j) (.int .u32 ((T % 4294967296 : Nat) : Int))
          rw [uv_set] at hos
          have hbs := hbr.setCell (p := ⟨w.heap.size, i + j, none⟩) (Nat.le_refl _) (.int .u32 ((T % 4294967296 : Nat) : Int))
          have eS : ((T % 4294967296 : Nat) : Int) = (T : Int) % 4294967296 := by omega
          rw [eS] at hos hbs
          have hok : Hid (Ok (P.set (i + j) (T % 4294967296))) := HP.out.set _ (Nat.mod_lt _ (by omega))
          have hzz : Hid ((P.set (i + j) (T % 4294967296))[i + b.length]? = some 0) := by
            show _ = _
            rw [List.getElem?_set_ne (by omega)]; exact HZ.out
          clear hw1 hw2 hw3 eS
          go_wp2_with fail
          go_roundw
          case rel => exact ⟨j + 1, T / 4294967296, P.set (i + j) (T % 4294967296), by omega, hT2, by go_num, by congr 1, by show _ = _; rw [List.length_set]; exact HPL.out, hok, hzz, HV2.out, hos, below_drewN hbs _⟩
          case measure => simp [intOf]; omega
        · have hjb : j = b.length := by omega
          have HJ := hide hjb
          have hib : i + b.length < n := by omega
          have cz : wr.cell? ⟨w.heap.size, i + b.length, none⟩ = some (.int .u32 (0 : Nat)) := (hown.cellAt (i + b.length) (by omega)).trans (uv_get HZ.out)
          have fz := hown.frozenAt (i + b.length)
          obtain ⟨hos, hgs⟩ := hown.stored (i + b.length) (.int .u32 (k : Int))
          rw [uv_set] at hos
          have hbs := hbr.setCell (p := ⟨w.heap.size, i + b.length, none⟩) (Nat.le_refl _) (.int .u32 (k : Int))
          have hok : Hid (Ok (P.set (i + b.length) k)) := HP.out.set _ hk
          have hval : Hid (lval (P.set (i + b.length) k) = lval (a.take (i + 1)) * y) := by
            show _ = _
            have h1 := HV.out
            rw [HJ.out] at h1
            rw [mul_last h1 HZ.out, lval_take_all (Nat.le_refl _), HVB.out, lval_take_at HU.out]
            grind
          clear hjb
          go_wp2_with fail
          go_roundw
          case rel => exact ⟨i + 1, P.set (i + b.length) k, by omega, by go_num, by show _ = _; rw [List.length_set]; exact HPL.out, hok, hval, hos, hbs⟩
          case measure => simp [intOf]; omega
    · have hfin : Hid (lval O = x * y) := by
        show _ = _
        rw [HV.out, lval_take_all (by omega), HVA.out]
      have hL := LAt.of_own hown HO.out
      obtain ⟨hL2, hle⟩ := LAt.strip hL
      have hcap := own_cap hown
      rw [hfin.out] at hL2 hle
      rw [HOL.out] at hle
      have HL := hide hL
      have HL2 := hide hL2
      clear hL hL2
      go_wp2_with fail
      refine (strip_n O _ _ _ _ HOL.out HL.out (Nat.le_refl _)).mono ?_
      rintro e w3 ⟨rfl, rfl⟩
      rw [hfin.out]
      go_wp2_with fail
      go_ret
      exact ⟨_, _, rfl, hle, hcap.2, HL2.out, hbr⟩
end Go.Proofs.YthppojbabkljpaaGreatDoor.RoF
