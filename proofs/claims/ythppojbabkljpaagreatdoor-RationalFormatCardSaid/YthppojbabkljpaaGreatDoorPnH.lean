/- The walk of the program's step: one digit of a quotient. -/
import Derived.Test.YthppojbabkljpaaGreatDoorPnG
import Derived.Test.YthppojbabkljpaaGreatDoorRoJ
namespace Go.Proofs.YthppojbabkljpaaGreatDoor.PnH
open Go.RowKit RnA RnB RnS RnC RnK RnM RnL RnN RnD RnE RnQ RnR RnP RnW RnX RoA RoB RoC RoD RoE RoF RoG RoH RoI RoJ RoL PnA PnB PnC PnD PnE PnG
/-- what a step of a long division answers -/
def StepPost (w0 : World) (gu gv gq M L : Nat) (P0 W0 R0 Q ds : List Nat) (n : Nat) (e : Ending) (w' : World) : Prop :=
  e = .returned (.int .u32 ((lval W0 / lval ds : Nat) : Int)) ∧ ∃ W2, lval W2 = lval W0 % lval ds ∧ W2.length = n + 1 ∧ Ok W2 ∧ St w0 w' gu gv gq M L (P0 ++ W2 ++ R0) Q ds
set_option maxHeartbeats 16000000 in
set_option maxRecDepth 100000 in
theorem step_any (w0 w : World) (gu gv gq M L j n cu : Nat) (P0 W0 R0 Q ds : List Nat) (hst : St w0 w gu gv gq M L (P0 ++ W0 ++ R0) Q ds) (hpl : P0.length = j) (hWL : W0.length = n + 1) (hWO : Ok W0) (hdl : ds.length = n) (hn2 : 2 ≤ n) (hdo : Ok ds)
    (hjn : j + n + 1 ≤ M) (hM : M ≤ 200000) (hbigd : 2147483648 * 4294967296 ^ (n - 1) ≤ lval ds) (hwin : lval W0 < lval ds * 4294967296) :
    Calls Tryz.prog 147 #[.slice (some ⟨gu, j, none⟩) (n + 1) cu, .slice (some ⟨gv, 0, none⟩) n n] w (StepPost w0 gu gv gq M L P0 W0 R0 Q ds n) := by
  have HPL := hide hpl
  have HWL := hide hWL
  have HOW := hide hWO
  have HDL := hide hdl
  have HDO := hide hdo
  have HWLT := hide hwin
  have HBD := hide hbigd
  clear hpl hWL hWO hdl hdo hwin hbigd
  obtain ⟨u0, hu0⟩ : ∃ v, W0[n]? = some v := ⟨_, List.getElem?_eq_getElem (by have := HWL.out; omega)⟩
  obtain ⟨u1, hu1⟩ : ∃ v, W0[n - 1]? = some v := ⟨_, List.getElem?_eq_getElem (by have := HWL.out; omega)⟩
  obtain ⟨u2, hu2⟩ : ∃ v, W0[n - 2]? = some v := ⟨_, List.getElem?_eq_getElem (by have := HWL.out; omega)⟩
  obtain ⟨v1, hv1⟩ : ∃ v, ds[n - 1]? = some v := ⟨_, List.getElem?_eq_getElem (by have := HDL.out; omega)⟩
  obtain ⟨v2, hv2⟩ : ∃ v, ds[n - 2]? = some v := ⟨_, List.getElem?_eq_getElem (by have := HDL.out; omega)⟩
  have hu0l := HOW.out.at_ hu0
  have hu1l := HOW.out.at_ hu1
  have hu2l := HOW.out.at_ hu2
  have hv1l := HDO.out.at_ hv1
  have hv2l := HDO.out.at_ hv2
  have hat : ∀ k x, k < n + 1 → W0[k]? = some x → (P0 ++ W0 ++ R0)[j + k]? = some x := fun k x hk h => by rw [win_at HPL.out (by have := HWL.out; omega)]; exact h
  have HAT := Lib.hid hat
  have hbig : 2147483648 ≤ v1 := top_big (n := n - 1) HDO.out (by rw [HDL.out]; omega) hv1 HBD.out
  have hest := est_window (k := n - 2) HDO.out HOW.out (by rw [HDL.out]; omega) (by rw [HWL.out]; omega)
    (x := u0) (y := u1) (z := u2) (v1 := v1) (v2 := v2)
    (by rw [show n - 2 + 2 = n by omega]; exact hu0) (by rw [show n - 2 + 1 = n - 1 by omega]; exact hu1) hu2
    (by rw [show n - 2 + 1 = n - 1 by omega]; exact hv1) hv2 hbig HWLT.out
  obtain ⟨T, hT⟩ : ∃ T, u0 * 4294967296 + u1 = T := ⟨_, rfl⟩
  rw [hT] at hest
  obtain ⟨hq1, hq2, hTt⟩ := hest
  have HQ1 := hide hq1
  have HQ2 := hide hq2
  have HTT := hide hTt
  have HBIG := hide hbig
  have HU0 := hide hu0
  have HU1 := hide hu1
  have HU2 := hide hu2
  have HV1 := hide hv1
  have HV2 := hide hv2
  have HT := hide hT
  have hT64 : T ≤ 18446744073709551615 := by omega
  clear hat hu0 hu1 hu2 hv1 hv2 hq1 hq2 hTt hbig hT
  have q1 : IntKind.i64.wrap ((n : Int) - 1) = (n : Int) - 1 := IntWalk.i64_in _ (by omega)
  have q2 : ((n : Int) - 1).toNat = n - 1 := by omega
  have q3 : 0 ≤ (n : Int) - 1 := by omega
  have q4 : (n : Int) - 1 < (n : Int) := by omega
  have q5 : (n : Int) - 1 < (n : Int) + 1 := by omega
  have q6 : IntKind.i64.wrap ((n : Int) - 2) = (n : Int) - 2 := IntWalk.i64_in _ (by omega)
  have q7 : ((n : Int) - 2).toNat = n - 2 := by omega
  have q8 : 0 ≤ (n : Int) - 2 := by omega
  have q9 : (n : Int) - 2 < (n : Int) := by omega
  have q10 : (n : Int) - 2 < (n : Int) + 1 := by omega
  have cu0 := hst.cu (HAT.out n u0 (by omega) HU0.out)
  have cu1 := hst.cu (HAT.out (n - 1) u1 (by omega) HU1.out)
  go_enter Tryz.func147, Tryz.ntmps147
  go_upto_region 2 with fail
  go_cut [6] (fun v wx => v = .int .u64 (T : Int) ∧ St w0 wx gu gv gq M L (P0 ++ W0 ++ R0) Q ds)
  case first =>
    as_aux_lemma =>
      have hor := or_hi hu0l hu1l
      rw [HT.out] at hor
      have q11 : IntKind.u64.wrap ((u0 : Int) * 4294967296) = (u0 : Int) * 4294967296 := IntWalk.u64_in _ (by omega)
      go_quiet (fail)
      go_wp2_with fail
      go_meet
      case rel => exact ⟨rfl, hst.drewN _⟩
  case rest =>
    clear hst cu0 cu1
    obtain ⟨rfl, hst⟩ := hcut
    have cv1 := hst.cd HV1.out
    have hg0 : T / v1 ≤ 4294967297 := start_le HBIG.out HTT.out
    have hge := est_start (top := T) (v1 := v1) (v2 := v2) (u := u2) (by have := HBIG.out; omega) hu2l
    have hdm : T / v1 * v1 + T % v1 = T := by rw [Nat.mul_comm]; exact Nat.div_add_mod T v1
    have hrl : T % v1 < v1 := Nat.mod_lt _ (by have := HBIG.out; omega)
    have hq64 := quo64 (T := T) (d := v1) (by omega)
    have hv1p : 1 ≤ v1 := by have := HBIG.out; omega
    have HGE := hide hge
    have HDM := hide hdm
    have hmod : (T : Int) % (v1 : Int) = ((T % v1 : Nat) : Int) := (Int.natCast_emod T v1).symm
    generalize T / v1 = g0 at hg0 HGE HDM hq64
    generalize T % v1 = r0 at hrl HDM hmod
    clear hge hdm
    go_upto_region 3 with fail
    go_cut [7, 8] (fun vg vr wx => vg = .int .u64 (g0 : Int) ∧ vr = .int .u64 (r0 : Int) ∧ St w0 wx gu gv gq M L (P0 ++ W0 ++ R0) Q ds)
    case first =>
      as_aux_lemma =>
        go_quiet (fail)
        go_wp2_with fail
        go_meet
        case rel => exact ⟨rfl, by rw [hmod], hst.drewN _⟩
    case rest =>
      clear hst cv1 hq64 hmod
      obtain ⟨rfl, rfl, hst⟩ := hcut
      go_upto_block 0 with fail
      go_cut [7] (fun v wx => v = .int .u64 (est T u2 v1 v2 : Nat) ∧ St w0 wx gu gv gq M L (P0 ++ W0 ++ R0) Q ds)
      case first =>
        as_aux_lemma =>
          go_wp2_with fail
          go_loopw [7, 8] (fun vg vr wr => ∃ g r : Nat, vg = .int .u64 g ∧ vr = .int .u64 r ∧ Hid (g * v1 + r = T) ∧ r < 4294967296 ∧ g ≤ 4294967297 ∧ Hid (est T u2 v1 v2 ≤ g) ∧ St w0 wr gu gv gq M L (P0 ++ W0 ++ R0) Q ds) (fun vg _ _ => (intOf vg).toNat)
          case atStart => exact ⟨g0, r0, rfl, rfl, HDM.out, by omega, hg0, HGE.out, hst⟩
          case round =>
            clear hst HDM hrl HGE hg0
            obtain ⟨g, r, rfl, rfl, HDM, hrl, hgl, HGE, hst⟩ := hrel
            have cu2 := hst.cu (HAT.out (n - 2) u2 (by omega) HU2.out)
            have cv2 := hst.cd HV2.out
            go_upto_region 4 with fail
            go_cut [69] (fun b wx => b = .bool (tooGreat g r u2 v2) ∧ St w0 wx gu gv gq M L (P0 ++ W0 ++ R0) Q ds)
            case first =>
              by_cases hbg : 4294967296 ≤ g
              · have t1 : decide (4294967296 ≤ (g : Int)) = true := decide_eq_true (by omega)
                have hres : Hid (true = tooGreat g r u2 v2) := by show _ = _; unfold tooGreat; rw [decide_eq_true hbg]; rfl
                go_quiet (fail)
                go_wp2_with fail
                go_meet
                case rel => exact ⟨by rw [← hres.out], hst.drewN _⟩
              · have t1 : decide (4294967296 ≤ (g : Int)) = false := decide_eq_false (by omega)
                have hor := or_hi hrl hu2l
                have hpr := guess_prod hgl hv2l
                have hres : Hid (decide (r * 4294967296 + u2 < g * v2) = tooGreat g r u2 v2) := by
                  show _ = _
                  unfold tooGreat
                  rw [decide_eq_false hbg, Bool.false_or]
                have hw1 : IntKind.u64.wrap ((g : Int) * (v2 : Int)) = ((g * v2 : Nat) : Int) := by
                  rw [← Int.natCast_mul]
                  generalize g * v2 = pr at hpr ⊢
                  exact IntWalk.u64_in _ (by omega)
                have hw2 : IntKind.u64.wrap ((r : Int) * 4294967296) = (r : Int) * 4294967296 := IntWalk.u64_in _ (by omega)
                generalize r * 4294967296 + u2 = RU at hor hres
                generalize g * v2 = GV at hpr hres hw1
                go_quiet (fail)
                go_wp2_with fail
                go_meet
                case rel => exact ⟨by rw [← hres.out], hst.drewN _⟩
            case rest =>
              clear hst cu2 cv2
              obtain ⟨rfl, hst⟩ := hcut
              have cv1 := hst.cd HV1.out
              have hHDM := HDM.out
              have hHGE := HGE.out
              cases hc : tooGreat g r u2 v2
              case false =>
                obtain ⟨hc1, hc2⟩ := tg_false hc
                have hfin : g = est T u2 v1 v2 := Nat.le_antisymm (est_stop (by omega) hHDM hc1 hc2) hHGE
                clear hc hc1 hc2 hHDM hHGE
                go_wp2_with fail
                go_meet
                case rel => exact ⟨by rw [hfin], hst⟩
              case true =>
                obtain ⟨hd, hg1⟩ := est_down hHDM (tg_true hc)
                have hs1 : (g - 1) * v1 + (r + v1) = T := by rw [← hHDM]; exact tg_step hg1
                have hw3 : IntKind.u64.wrap ((g : Int) - 1) = ((g - 1 : Nat) : Int) := by rw [show ((g - 1 : Nat) : Int) = (g : Int) - 1 by omega]; exact IntWalk.u64_in _ (by omega)
                have hw4 : IntKind.u64.wrap ((r : Int) + (v1 : Int)) = ((r + v1 : Nat) : Int) := by rw [show ((r + v1 : Nat) : Int) = (r : Int) + (v1 : Int) by omega]; exact IntWalk.u64_in _ (by omega)
                have hg2 : g - 1 ≤ 4294967296 := by omega
                have hmes : g - 1 < g := by omega
                clear hHDM hHGE hc
                obtain ⟨g', hg'⟩ : ∃ g', g - 1 = g' := ⟨_, rfl⟩
                obtain ⟨r', hr'⟩ : ∃ r', r + v1 = r' := ⟨_, rfl⟩
                rw [hg'] at hd hs1 hw3 hg2 hmes
                rw [hr'] at hs1 hw4
                have hs1' := hide hs1
                have hd' := hide hd
                clear hs1 hd hr' hg' HDM HGE
                by_cases hbr : 4294967296 ≤ r'
                · have t1 : decide (4294967296 ≤ (r' : Int)) = true := decide_eq_true (by omega)
                  have hfin : g' = est T u2 v1 v2 := Nat.le_antisymm (est_break (by omega) HTT.out hv2l hg2 hs1'.out hbr) hd'.out
                  go_wp2_with fail
                  go_meet
                  case rel => exact ⟨rfl, hst⟩
                · have t1 : decide (4294967296 ≤ (r' : Int)) = false := decide_eq_false (by omega)
                  go_wp2_with fail
                  exact ⟨⟨g', r', rfl, rfl, hs1', by omega, by omega, hd', hst⟩, by show (g' : Int).toNat < (g : Int).toNat; omega⟩
      case rest =>
        clear hst hg0 hrl HDM HGE
        obtain ⟨rfl, hst⟩ := hcut
        have hGl := est_lt T u2 v1 v2
        obtain ⟨G, hG⟩ : ∃ G, est T u2 v1 v2 = G := ⟨_, rfl⟩
        rw [hG] at hGl HQ1 HQ2 ⊢
        clear HU0 HU1 HU2 HV1 HV2 hu0l hu1l hu2l hv1l hv2l HT HTT HBIG hv1p hT64 hG q1 q2 q3 q4 q5 q6 q7 q8 q9 q10
        go_upto_block 2 with fail
        go_cut [9, 10] (fun vc vb wx => ∃ (c b : Nat) (W' : List Nat), vc = .int .u64 c ∧ vb = .int .u32 b ∧ c < 4294967296 ∧ b ≤ 1 ∧ Hid (MulSub G ds W0 W' n c b) ∧ Hid (Ok W') ∧ St w0 wx gu gv gq M L (P0 ++ W' ++ R0) Q ds)
        case first =>
          as_aux_lemma =>
            go_wp2_with fail
            go_loopw [9, 10, 84] (fun vc vb vi wr => ∃ (k c b : Nat) (W' : List Nat), k ≤ n ∧ vi = .int .i64 k ∧ vc = .int .u64 c ∧ vb = .int .u32 b ∧ c < 4294967296 ∧ b ≤ 1 ∧ Hid (MulSub G ds W0 W' k c b) ∧ Hid (Ok W') ∧ St w0 wr gu gv gq M L (P0 ++ W' ++ R0) Q ds) (fun _ _ vi _ => n - (intOf vi).toNat)
            case atStart => exact ⟨0, 0, 0, W0, by omega, rfl, rfl, rfl, by omega, by omega, MulSub.start G ds W0, HOW, hst⟩
            case round =>
              clear hst
              obtain ⟨k, c, b, W', hk, rfl, rfl, rfl, hcl, hbl, HMS, HOW', hst⟩ := hrel
              by_cases hkn : k < n
              · obtain ⟨v, hv⟩ : ∃ v, ds[k]? = some v := ⟨_, List.getElem?_eq_getElem (by have := HDL.out; omega)⟩
                have hWl' : W'.length = n + 1 := by rw [HMS.out.1, HWL.out]
                obtain ⟨z, hz⟩ : ∃ z, W'[k]? = some z := ⟨_, List.getElem?_eq_getElem (by omega)⟩
                have hz0 : W0[k]? = some z := by rw [← getElem?_of_drop HMS.out.2.1]; exact hz
                have hvl := HDO.out.at_ hv
                have hzl := HOW'.out.at_ hz
                have cd1 := hst.cd hv
                have cu1 := hst.cu (k := j + k) (v := z) (by rw [win_at HPL.out (by omega)]; exact hz)
                have fu1 := hst.fu (j + k)
                have hT1 := (prod_lt hGl hvl (by omega : 0 < 4294967296) hcl).1
                have hT2 := (prod_lt hGl hvl (by omega : 0 < 4294967296) hcl).2
                obtain ⟨T2, hT⟩ : ∃ T2, G * v + 0 + c = T2 := ⟨_, rfl⟩
                rw [hT] at hT1 hT2
                have hp0 : Hid (G * v + c = T2) := by show _ = _; omega
                have hw1 : IntKind.u64.wrap ((G : Int) * (v : Int)) = ((G * v : Nat) : Int) := by
                  rw [← Int.natCast_mul]
                  exact IntWalk.u64_in _ (by omega)
                obtain ⟨pr, hpr⟩ : ∃ pr, G * v = pr := ⟨_, rfl⟩
                rw [hpr] at hw1 hT
                have hw2 : IntKind.u64.wrap ((pr : Int) + (c : Int)) = (T2 : Int) := by rw [IntWalk.u64_in _ (by omega)]; omega
                obtain ⟨Y0, hY0⟩ : ∃ Y0, T2 % 4294967296 = Y0 := ⟨_, rfl⟩
                have hY0l : Y0 < 4294967296 := by omega
                have hw3 : (T2 : Int) % 4294967296 = (Y0 : Int) := by omega
                obtain ⟨hbo1, hbo2⟩ := sub_lt hzl hY0l hbl
                obtain ⟨bo, hbo⟩ : ∃ bo, (if z < Y0 + b then 1 else 0) = bo := ⟨_, rfl⟩
                obtain ⟨D, hD⟩ : ∃ D, (z + 8589934592 - Y0 - b) % 4294967296 = D := ⟨_, rfl⟩
                have HSB := Lib.hid (fun w => sub32_any z Y0 b D bo w hzl hY0l hbl hD.symm hbo)
                rw [hbo] at hbo1 hbo2
                rw [hD] at hbo2
                have hDl : D < 4294967296 := by omega
                have HN1 : Hid (MulSub G ds W0 (W'.set k D) (k + 1) (T2 / 4294967296) bo) := by
                  have := MulSub.step (diff := D) (b' := bo) HMS.out hv hz0 (by rw [hp0.out, hY0]; exact hbo2)
                  rw [hp0.out] at this
                  exact this
                have HN2 : Hid (Ok (W'.set k D)) := HOW'.out.set _ hDl
                have hsn := hst.setU (j + k) D
                rw [win_set HPL.out (by omega)] at hsn
                clear hz hz0 hv hD hbo hbo2 hpr hT hY0
                go_wp2_with fail
                refine (HSB.out _).mono ?_
                rintro e w5 ⟨rfl, rfl⟩
                go_wp2_with fail
                go_roundw
                case rel => exact ⟨k + 1, T2 / 4294967296, bo, _, by omega, by go_num, by go_num, rfl, hT2, hbo1, HN1, HN2, hsn⟩
                case measure => simp [intOf]; omega
              · obtain rfl : k = n := by omega
                go_wp2_with fail
                go_meet
                case rel => exact ⟨c, b, W', rfl, rfl, hcl, hbl, HMS, HOW', hst⟩
        case rest =>
          as_aux_lemma =>
            clear hst
            obtain ⟨c, b, W', rfl, rfl, hcl, hbl, HMS, HOW', hst⟩ := hcut
            have hWl' : W'.length = n + 1 := by rw [HMS.out.1, HWL.out]
            obtain ⟨z, hz⟩ : ∃ z, W'[n]? = some z := ⟨_, List.getElem?_eq_getElem (by omega)⟩
            have hz0 : W0[n]? = some z := by rw [← getElem?_of_drop HMS.out.2.1]; exact hz
            have hzl := HOW'.out.at_ hz
            have cu1 := hst.cu (k := j + n) (v := z) (by rw [win_at HPL.out (by omega)]; exact hz)
            have fu1 := hst.fu (j + n)
            have hw3 : (c : Int) % 4294967296 = (c : Int) := by omega
            obtain ⟨hbo1, hbo2⟩ := sub_lt hzl hcl hbl
            obtain ⟨bo, hbo⟩ : ∃ bo, (if z < c + b then 1 else 0) = bo := ⟨_, rfl⟩
            obtain ⟨D, hD⟩ : ∃ D, (z + 8589934592 - c - b) % 4294967296 = D := ⟨_, rfl⟩
            have HSB := Lib.hid (fun w => sub32_any z c b D bo w hzl hcl hbl hD.symm hbo)
            rw [hbo] at hbo1 hbo2
            rw [hD] at hbo2
            have hDl : D < 4294967296 := by omega
            have hml := MulSub.last (diff := D) (b' := bo) HMS.out HDL.out HWL.out hz0 hbo2
            have HML : Hid (lval (W'.set n D) + G * lval ds = lval W0 + bo * 4294967296 ^ (n + 1)) := hml.1
            have HL1 : Hid ((W'.set n D).length = n + 1) := hml.2
            have HO1 : Hid (Ok (W'.set n D)) := HOW'.out.set _ hDl
            have hsn := hst.setU (j + n) D
            rw [win_set HPL.out (by omega)] at hsn
            have hdp : 0 < lval ds := by
              have := HBD.out
              have := RnC.pow_pos (n - 1)
              omega
            have hHQ : Hid (G = lval W0 / lval ds ∨ G = lval W0 / lval ds + 1) := by
              show _ ∨ _
              have := HQ1.out
              have := HQ2.out
              omega
            clear hz hz0 hD hbo hbo2 hml HMS HOW' hst hWl'
            go_wp2_with fail
            refine (HSB.out _).mono ?_
            rintro e w5 ⟨rfl, rfl⟩
            obtain ⟨W1, hW1⟩ : ∃ W1, W'.set n D = W1 := ⟨_, rfl⟩
            rw [hW1] at hsn HO1 HL1 HML
            clear hW1
            rcases (by omega : bo = 0 ∨ bo = 1) with h0 | h0
            · subst h0
              have h1 := sub_right hdp rfl hHQ.out HML.out rfl
              have HS1 := hide h1.1
              have HS2 := hide h1.2
              have hw4 : (G : Int) % 4294967296 = (G : Int) := by omega
              clear h1 hHQ
              go_wp2_with fail
              go_ret
              unfold StepPost
              rw [← HS1.out]
              exact ⟨rfl, W1, HS2.out, HL1.out, HO1.out, hsn⟩
            · subst h0
              have h1 := sub_over hdp rfl hHQ.out (by have := lval_lt HO1.out; rw [HL1.out] at this; exact this) HML.out rfl
              have HS1 := hide h1.1
              have HS2 := hide h1.2
              clear h1 hHQ
              go_wp2_with fail
              go_loopw [14, 132] (fun vc vi wr => ∃ (k cc : Nat) (W2 : List Nat), k ≤ n ∧ vi = .int .i64 k ∧ vc = .int .u32 cc ∧ cc ≤ 1 ∧ Hid (AddBack ds W1 W2 k cc) ∧ Hid (Ok W2) ∧ St w0 wr gu gv gq M L (P0 ++ W2 ++ R0) Q ds) (fun _ vi _ => n - (intOf vi).toNat)
              case atStart => exact ⟨0, 0, W1, by omega, rfl, rfl, by omega, AddBack.start ds W1, HO1, hsn⟩
              case round =>
                clear hsn cu1 fu1
                obtain ⟨k, cc, W2, hk, rfl, rfl, hcc, HAB, HO2, hst⟩ := hrel
                have hWl2 : W2.length = n + 1 := by rw [HAB.out.1, HL1.out]
                by_cases hkn : k < n
                · obtain ⟨v, hv⟩ : ∃ v, ds[k]? = some v := ⟨_, List.getElem?_eq_getElem (by have := HDL.out; omega)⟩
                  obtain ⟨x2, hx2⟩ : ∃ z, W2[k]? = some z := ⟨_, List.getElem?_eq_getElem (by omega)⟩
                  have hx3 : W1[k]? = some x2 := by rw [← getElem?_of_drop HAB.out.2.1]; exact hx2
                  have hvl := HDO.out.at_ hv
                  have hxl2 := HO2.out.at_ hx2
                  have cd1 := hst.cd hv
                  have cu1 := hst.cu (k := j + k) (v := x2) (by rw [win_at HPL.out (by omega)]; exact hx2)
                  have fu1 := hst.fu (j + k)
                  obtain ⟨T2, hT⟩ : ∃ T2, x2 + v + cc = T2 := ⟨_, rfl⟩
                  have hTl : T2 ≤ 8589934591 := by omega
                  have HN1 := AddBack.step HAB.out hv hx3
                  rw [hT] at HN1
                  have HAD := Lib.hid (fun w => add32_any x2 v cc T2 w hxl2 hvl hcc hT)
                  obtain ⟨D2, hD2⟩ : ∃ D2, T2 % 4294967296 = D2 := ⟨_, rfl⟩
                  obtain ⟨K2, hK2⟩ : ∃ K2, T2 / 4294967296 = K2 := ⟨_, rfl⟩
                  rw [hD2, hK2] at HN1 HAD
                  have hDl2 : D2 < 4294967296 := by omega
                  have hKl2 : K2 ≤ 1 := by omega
                  have HN1 := hide HN1
                  have HN2 : Hid (Ok (W2.set k D2)) := HO2.out.set _ hDl2
                  have hsn2 := hst.setU (j + k) D2
                  rw [win_set HPL.out (by omega)] at hsn2
                  clear hv hx2 hx3 hT hD2 hK2 hWl2
                  go_wp2_with fail
                  refine (HAD.out _).mono ?_
                  rintro e w5 ⟨rfl, rfl⟩
                  go_wp2_with fail
                  go_roundw
                  case rel => exact ⟨k + 1, K2, _, by omega, by go_num, rfl, hKl2, HN1, HN2, hsn2⟩
                  case measure => simp [intOf]; omega
                · obtain rfl : k = n := by omega
                  obtain ⟨x2, hx2⟩ : ∃ z, W2[k]? = some z := ⟨_, List.getElem?_eq_getElem (by omega)⟩
                  have hx3 : W1[k]? = some x2 := by rw [← getElem?_of_drop HAB.out.2.1]; exact hx2
                  have hxl2 := HO2.out.at_ hx2
                  have cu1 := hst.cu (k := j + k) (v := x2) (by rw [win_at HPL.out (by omega)]; exact hx2)
                  have fu1 := hst.fu (j + k)
                  have hlast := AddBack.last HAB.out HDL.out HL1.out hx3
                  obtain ⟨T2, hT⟩ : ∃ T2, x2 + cc = T2 := ⟨_, rfl⟩
                  have hTl : T2 ≤ 4294967296 := by omega
                  rw [hT] at hlast
                  obtain ⟨D2, hD2⟩ : ∃ D2, T2 % 4294967296 = D2 := ⟨_, rfl⟩
                  rw [hD2] at hlast
                  have hDl2 : D2 < 4294967296 := by omega
                  have p9 : ((x2 : Int) + (cc : Int)) % 4294967296 = (D2 : Int) := by omega
                  have HN2 : Hid (Ok (W2.set k D2)) := HO2.out.set _ hDl2
                  have HN3 : Hid ((W2.set k D2).length = k + 1) := hlast.2
                  have HN4 : Hid (lval (W2.set k D2) = lval W0 % lval ds) := by
                    show _ = _
                    have h1 := hlast.1
                    have h2 := HS2.out
                    have h3 := lval_lt HN2.out
                    rw [HN3.out] at h3
                    have h4 := Nat.mod_lt (lval W0) hdp
                    have h5 := lval_lt HDO.out
                    rw [HDL.out] at h5
                    have h6 : 4294967296 ^ k ≤ 4294967296 ^ (k + 1) := Nat.pow_le_pow_right (by omega) (by omega)
                    have h7 : T2 / 4294967296 ≤ 1 := by omega
                    generalize 4294967296 ^ (k + 1) = MM at *
                    generalize lval W0 % lval ds = rr at *
                    generalize lval (W2.set k D2) = aa at *
                    rcases (by omega : T2 / 4294967296 = 0 ∨ T2 / 4294967296 = 1) with h8 | h8
                    · rw [h8] at h1; omega
                    · rw [h8] at h1; omega
                  have hsn2 := hst.setU (j + k) D2
                  rw [win_set HPL.out (by omega)] at hsn2
                  obtain ⟨qd, hqd⟩ : ∃ q, lval W0 / lval ds = q := ⟨_, rfl⟩
                  have hGq : G = qd + 1 := by rw [← hqd]; exact HS1.out
                  have p11 : IntKind.u64.wrap ((G : Int) - 1) = (qd : Int) := by rw [show (qd : Int) = (G : Int) - 1 by omega]; exact IntWalk.u64_in _ (by omega)
                  have p12 : (qd : Int) % 4294967296 = (qd : Int) := by omega
                  have HQD := hide hqd
                  clear hx2 hx3 hT hD2 hlast hWl2 hqd hGq
                  go_wp2_with fail
                  go_ret
                  unfold StepPost
                  rw [HQD.out]
                  exact ⟨rfl, _, HN4.out, HN3.out, HN2.out, hsn2⟩
end Go.Proofs.YthppojbabkljpaaGreatDoor.PnH
