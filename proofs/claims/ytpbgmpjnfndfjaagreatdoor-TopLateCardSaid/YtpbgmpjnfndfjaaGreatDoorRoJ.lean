/- The walk of the reference's long. -/
import Derived.Test.YtpbgmpjnfndfjaaGreatDoorRO
namespace Go.Proofs.YtpbgmpjnfndfjaaGreatDoor.RoJ
theorem here : True := trivial
open Go.RowKit RnA RnB RnS RnC RnK RnM RnL RnN RnW RoA RoB RoC RoD RoE RoF RoG RoH RoI
theorem win_at {P W R : List Nat} {j k : Nat} (hp : P.length = j) (hk : k < W.length) : (P ++ W ++ R)[j + k]? = W[k]? := by
  rw [List.append_assoc, List.getElem?_append_right (by omega), List.getElem?_append_left (by omega)]
  congr 1; omega
theorem win_set {P W R : List Nat} {j k v : Nat} (hp : P.length = j) (hk : k < W.length) : (P ++ W ++ R).set (j + k) v = P ++ W.set k v ++ R := by
  rw [List.append_assoc, List.set_append_right _ _ (by omega), List.set_append_left _ _ (by omega), show j + k - P.length = k by omega, List.append_assoc]
theorem and_lo {T : Nat} (h : T < 18446744073709551616) : bits BinOp.and IntKind.u64 (T : Int) 4294967295 = ((T % 4294967296 : Nat) : Int) := by
  have := u64_and_nat T 4294967295 h (by decide)
  rw [show (4294967295 : Nat) = 2 ^ 32 - 1 from rfl, Nat.and_two_pow_sub_one_eq_mod] at this
  exact this
theorem tg_false {g r u v : Nat} (h : tooGreat g r u v = false) : g < 4294967296 ∧ g * v ≤ r * 4294967296 + u := by
  unfold tooGreat at h
  rw [Bool.or_eq_false_iff, decide_eq_false_iff_not, decide_eq_false_iff_not] at h
  exact ⟨Nat.lt_of_not_le h.1, Nat.le_of_not_lt h.2⟩
theorem tg_true {g r u v : Nat} (h : tooGreat g r u v = true) : 4294967296 ≤ g ∨ r * 4294967296 + u < g * v := by
  unfold tooGreat at h
  rwa [Bool.or_eq_true, decide_eq_true_iff, decide_eq_true_iff] at h
theorem tg_step {g r v : Nat} (h : 1 ≤ g) : (g - 1) * v + (r + v) = g * v + r := by
  obtain ⟨k, rfl⟩ : ∃ k, g = k + 1 := ⟨g - 1, by omega⟩
  rw [Nat.add_sub_cancel, Nat.succ_mul]
  omega
set_option maxHeartbeats 16000000000000 in
set_option maxRecDepth 100000000000 in
theorem rlong_any (x y m n : Nat) (A B : Option Addr) (c c' : Nat) (w : World) (ha : LAt w w.heap.size A (limbs x)) (hb : LAt w w.heap.size B (limbs y)) (hx : sz x ≤ 100000000000) (hm : (limbs x).length = m) (hn : (limbs y).length = n) (hn2 : 2 ≤ n) (hyx : y ≤ x) :
    Calls Tryz.prog 235 #[.slice A m c, .slice B n c'] w (QPost (x / y) (x % y) w) := by
  obtain ⟨i0, hi0, hz0, hz1, hz2⟩ := info_parts u32Info
  have hma : m ≤ 100000000000 := by have : (limbs x).length ≤ 100000000000 := hx; omega
  have hnm : n ≤ m := by have : (limbs y).length ≤ (limbs x).length := sz_mono hyx; omega
  obtain ⟨top, htop⟩ : ∃ t, (limbs y)[n - 1]? = some t := ⟨_, List.getElem?_eq_getElem (by omega)⟩
  have htl : top < 4294967296 := (limbs_ok y).at_ htop
  have ht0 : top ≠ 0 := by
    refine limbs_last (n := y) top ?_
    rw [List.getLast?_eq_getElem?, hn]; exact htop
  have HNF := Lib.hid (fun s h1 h2 h3 => norm_facts (n := n - 1) (s := s) (by omega) htop h1 h2 h3)
  have HM := hide hm
  have HN := hide hn
  have HTOP := hide htop
  have HA := hide ha
  have HB := hide hb
  have HSX := hide hx
  clear ha hb hyx htop hx hm hn
  obtain ⟨b2, o2, rfl, hb2, hc2⟩ := HB.out.2.2 (by have := HN.out; omega)
  have ctop := hc2 (n - 1) top HTOP.out
  clear hc2
  go_enter Tryz.func235, Tryz.ntmps235
  go_wp2_with fail
  go_loop [7] (fun vs => ∃ s : Nat, s ≤ 31 ∧ vs = .int .u64 s ∧ Hid (top * 2 ^ s < 4294967296)) (fun vs => 32 - (intOf vs).toNat)
  case atStart => exact ⟨0, by omega, rfl, by show _ < _; simpa using htl⟩
  case round =>
    obtain ⟨s, hs, rfl, HS⟩ := hrel
    obtain ⟨ts, hts⟩ : ∃ ts, top * 2 ^ s = ts := ⟨_, rfl⟩
    have htsl : ts < 4294967296 := by rw [← hts]; exact HS.out
    have hw1 : (top : Int) * 2 ^ s % 4294967296 = (ts : Int) := by
      have e : (top : Int) * 2 ^ s = ((top * 2 ^ s : Nat) : Int) := by simp
      rw [e, hts]
      omega
    have HTS := hide hts
    clear hts
    by_cases hlt : ts < 2147483648
    · have hs2 : Hid (top * 2 ^ (s + 1) < 4294967296) := by
        show _ < _
        rw [Nat.pow_succ, ← Nat.mul_assoc, HTS.out]; omega
      have hs31 : s + 1 ≤ 31 := by
        rcases Nat.lt_or_ge s 31 with h | h
        · omega
        · exfalso
          have h1 : 1 * 2 ^ 31 ≤ top * 2 ^ s := Nat.mul_le_mul (by omega) (Nat.pow_le_pow_right (by omega) h)
          rw [HTS.out] at h1
          have h2 : (2 : Nat) ^ 31 = 2147483648 := rfl
          omega
      go_upto_region 3 with fail
      go_cut [35] (fun b wx => b = .bool true ∧ w = wx)
      case first =>
        go_wp2_with fail
        go_meet
        case rel => exact ⟨congrArg Value.bool (decide_eq_true (by omega)), rfl⟩
      case rest =>
        obtain ⟨rfl, rfl⟩ := hcut
        clear hw1 ctop
        go_wp2_with fail
        go_round
        case rel => exact ⟨s + 1, hs31, by congr 1, hs2⟩
        case measure => simp [intOf]; omega
    · go_upto_region 3 with fail
      go_cut [35] (fun b wx => b = .bool false ∧ w = wx)
      case first =>
        go_wp2_with fail
        go_meet
        case rel => exact ⟨congrArg Value.bool (decide_eq_false (by omega)), rfl⟩
      case rest =>
        obtain ⟨rfl, rfl⟩ := hcut
        clear hw1 ctop
        obtain ⟨hD1, hD2⟩ := HNF.out s HS.out (by rw [HTS.out]; omega) (by omega)
        rw [show n - 1 + 1 = n by omega] at hD1
        have HD1 := hide hD1
        have HD2 := hide hD2
        clear hD1 hD2 hlt htsl HTS HNF htl ht0
        go_wp2_with fail
        have hsx := rshifted_any x s A c w HA.out (by have := HSX.out; omega) hs
        rw [HM.out] at hsx
        refine hsx.mono ?_
        rintro e w1 ⟨gu, us, rfl, hul, huo, huv, hou, hb1⟩
        have HUL := hide hul
        have HUO := hide huo
        have HUV := hide huv
        clear hsx hul huo huv
        go_wp2_with fail
        have hsy := rshifted_any y s (some ⟨b2, o2, none⟩) c' w1 (HB.out.next hb1) (by have : sz y = (limbs y).length := rfl; have := HN.out; omega) hs
        rw [HN.out] at hsy
        refine hsy.mono ?_
        rintro e w2 ⟨gv, vs, rfl, hvl, hvo, hvv, hov, hb2'⟩
        have HVL := hide hvl
        have HVO := hide hvo
        have HVV := hide hvv
        clear hsy hvl hvo hvv
        go_wp2_with (first
          | (at_make
             refine wpList_make_full _ rfl (.tmp 50) (.tmp 50) 216 rfl w.heap.size 219 i0 _ 1 Tryz.underlying216 hi0 hz0 hz1 .i64 .i64 _ _ (m - n + 1) rfl rfl ?c1 ?c2 ?c3 ?c4 ?c5 ?_
             case c1 => omega
             case c2 => omega
             case c3 => rw [hz2]; omega
             case c4 => unfold maxLen; omega
             case c5 => exact Nat.le_trans hb1.size hb2'.size
             intro w3 hoq hg))
        have hgu : gu < w1.heap.size := (hou.lt _ rfl).2
        have hgv : w1.heap.size ≤ gv ∧ gv < w2.heap.size := (hov.lt _ rfl)
        have hgq : w2.heap.size < w3.heap.size := (hoq.lt _ rfl).2
        have hs2 := hb2'.size
        have hou3 := (own_below hou hb2').kept hg (.inr (by simp [Value.ownBlock]))
        have hb3 : Below w.heap.size w w3 := (below_next hb1 hb2').grown hg (Nat.le_trans hb1.size hs2) (by simp)
        have hD0 := (DAt.of_own hov).take n
        have hD3 : DAt w3 gv (vs.take n) := hD0.kept (B := w2.heap.size) ((Below.refl _ _).grown hg (Nat.le_refl _) (by simp)) hgv.2
        have hne1 : gu ≠ gv := by omega
        have hne2 : gu ≠ w2.heap.size := by omega
        have hne3 : gv ≠ w2.heap.size := by omega
        have hwg : w.heap.size ≤ gu := (hou3.lt _ rfl).1
        have hwg2 : w.heap.size ≤ w2.heap.size := Nat.le_trans hb1.size hs2
        have HDL : Hid ((vs.take n).length = n) := by show _ = _; rw [List.length_take, HVL.out]; omega
        have HDO : Hid (Ok (vs.take n)) := HVO.out.take n
        have HDV : Hid (lval (vs.take n) = y * 2 ^ s) := by
          show _ = _
          rw [take_val (by rw [HVL.out]; omega) (by rw [HVV.out]; exact HD1.out), HVV.out]
        clear hou hov hg hb1 hb2' hD0 hs2 hgu hgv hgq
        rw [made_uv] at hoq
        generalize w2.heap.size = gq at *
        generalize vs.take n = ds at *
        generalize hL : m - n + 1 = L at *
        have HST := hide (DivInv.start (U0 := x * 2 ^ s) (D := y * 2 ^ s) (s := s) (n := n) (m := L) (a := limbs x) (u := us) (limbs_ok x) HUV.out (by rw [lval_limbs]) hs (by rw [HM.out]; omega) (by rw [HUL.out]; omega) (by omega) HD2.out)
        have HL := hide hL
        have hLm : L ≤ 100000000000 := by omega
        have hst : St w w3 gu gv gq (m + 1) L us (List.replicate L 0) ds := ⟨hou3, hoq, hD3, hb3, hne1, hne2, hne3, hwg, hwg2⟩
        clear hou3 hoq hD3 hb3 hne1 hne2 hne3 hwg hwg2
        generalize hM : m + 1 = M at *
        clear HVL HVO HVV HTOP HB HSX HD1 HS hb2 hL
        go_loopw [11] (fun vj wr => ∃ (k : Nat) (us Q : List Nat), k ≤ L ∧ vj = .int .i64 ((k : Int) - 1) ∧ Hid (us.length = M) ∧ Hid (Ok us) ∧ Hid (Q.length = L) ∧ Hid (Ok Q) ∧ Hid (DivInv (x * 2 ^ s) (y * 2 ^ s) us (Q.drop k) k) ∧ St w wr gu gv gq M L us Q ds) (fun vj _ => (intOf vj + 1).toNat)
        case atStart =>
          refine ⟨L, us, List.replicate L 0, Nat.le_refl _, ?_, HUL.out, HUO.out, by show _ = _; simp, Ok.replicate _, ?_, hst⟩
          · have := HL.out
            congr 1; omega
          · show DivInv _ _ _ _ _
            rw [List.drop_eq_nil_of_le (by simp)]; exact HST.out
        case round =>
          clear hst HUL HUO HUV HST
          obtain ⟨k, us, Q, hk, rfl, HUL, HUO, HQL, HQO, HI, hst⟩ := hrel
          rcases Nat.eq_zero_or_pos k with h0 | h0
          · as_aux_lemma =>
              subst h0
              have hfin := HI.out.finish
              rw [List.drop_zero] at hfin
              have hus : lval (ush s us) = x % y := by rw [ush_val hs HUO.out, hfin.2]
              have hyp : 0 < y := by
                rcases Nat.eq_zero_or_pos y with h | h
                · exfalso
                  have := HD2.out
                  rw [h, Nat.zero_mul] at this
                  have := pow_pos (n - 1)
                  omega
                · exact h
              have hlt : lval (ush s us) < 4294967296 ^ n := by
                rw [hus, ← HN.out]
                exact Nat.lt_trans (Nat.mod_lt _ hyp) (lt_of_limbs y)
              have HRV : Hid (lval ((ush s us).take n) = x % y) := by
                show _ = _
                rw [take_val (by rw [ush_length, HUL.out]; omega) hlt, hus]
              have HQV := hide hfin.1
              obtain ⟨ho1, ho2, hd3, hbw, _⟩ := hst
              have hLu := LAt.of_own ho1 HUO.out
              have hLq := LAt.of_own ho2 HQO.out
              have hcq := own_cap ho2
              have HLU := hide hLu
              have HLQ := hide hLq
              obtain ⟨wm, hwm⟩ : ∃ wm : World, wm = wr := ⟨_, rfl⟩
              rw [← hwm]
              rw [← hwm] at HLU HLQ hbw
              clear hfin hus hlt hLu hLq ho1 ho2 hd3 hwm
              clear wr
              go_wp2_with (first
                | (at_make
                   refine wpList_make_full _ rfl (.tmp 243) (.tmp 243) 216 rfl wm.heap.size 219 i0 _ 1 Tryz.underlying216 hi0 hz0 hz1 .i64 .i64 _ _ n rfl rfl ?c1 ?c2 ?c3 ?c4 ?c5 ?_
                   case c1 => rfl
                   case c2 => rfl
                   case c3 => rw [hz2]; omega
                   case c4 => unfold maxLen; omega
                   case c5 => exact Nat.le_refl _
                   intro w4 hor hg))
              rw [made_uv] at hor
              have hb4 : Below wm.heap.size wm w4 := (Below.refl _ _).grown hg (Nat.le_refl _) (by simp)
              clear hg
              go_loopw [25] (fun vi wr => ∃ (i : Nat) (O : List Nat), i ≤ n ∧ vi = .int .i64 i ∧ Hid (O.length = n) ∧ Hid (Ok O) ∧ Hid (O.take i = (ush s us).take i) ∧ wr.ownsRow wm.heap.size 219 1 (.slice (some ⟨wm.heap.size, 0, none⟩) n n) n (uv O) ∧ Below wm.heap.size wm wr) (fun vi _ => n - (intOf vi).toNat)
              case atStart => exact ⟨0, List.replicate n 0, by omega, rfl, by show _ = _; simp, Ok.replicate _, by show _ = _; simp, hor, hb4⟩
              case round =>
                clear hor hb4
                obtain ⟨i, O, hi, rfl, HOL, HOO, HOV, hor, hb4⟩ := hrel
                by_cases hin : i < n
                · obtain ⟨u0, hu0⟩ : ∃ v, us[i]? = some v := ⟨_, List.getElem?_eq_getElem (by have := HUL.out; omega)⟩
                  obtain ⟨u1, hu1⟩ : ∃ v, us[i + 1]? = some v := ⟨_, List.getElem?_eq_getElem (by have := HUL.out; omega)⟩
                  obtain ⟨z, hz⟩ : ∃ z, O[i]? = some z := ⟨_, List.getElem?_eq_getElem (by have := HOL.out; omega)⟩
                  obtain ⟨b1, o1, e1, hb1, hc1⟩ := (HLU.out.below hb4).2.2 (by have := HUL.out; omega)
                  injection e1 with e1
                  injection e1 with e1 e2
                  subst e1; subst e2
                  have c1 := hc1 i u0 hu0
                  have c2 := hc1 (i + 1) u1 hu1
                  rw [Nat.zero_add] at c1 c2
                  have cz : wr.cell? ⟨wm.heap.size, i, none⟩ = some (.int .u32 (z : Int)) := (hor.cellAt i (by omega)).trans (uv_get hz)
                  have fz := hor.frozenAt i
                  have hu0l := HUO.out.at_ hu0
                  have hu1l := HUO.out.at_ hu1
                  have hnext := ush_at s hu0
                  rw [dig_at hu1] at hnext
                  have hor2 := or_hi hu1l hu0l
                  have q9 : IntKind.u64.wrap ((u1 : Int) * 4294967296) = (u1 : Int) * 4294967296 := IntWalk.u64_in _ (by omega)
                  obtain ⟨V, hV⟩ : ∃ V, u1 * 4294967296 + u0 = V := ⟨_, rfl⟩
                  have hV2 : u0 + 4294967296 * u1 = V := by omega
                  rw [hV] at hor2
                  rw [hV2] at hnext
                  obtain ⟨D2, hD2⟩ : ∃ D2, V / 2 ^ s % 4294967296 = D2 := ⟨_, rfl⟩
                  rw [hD2] at hnext
                  have hDl2 : D2 < 4294967296 := by rw [← hD2]; exact Nat.mod_lt _ (by omega)
                  have q10 : (V : Int) / 2 ^ s % 4294967296 = (D2 : Int) := by
                    have e : (V : Int) / 2 ^ s = ((V / 2 ^ s : Nat) : Int) := by simp
                    rw [e]; omega
                  have HN1 : Hid (Ok (O.set i D2)) := HOO.out.set _ hDl2
                  have HN2 : Hid ((O.set i D2).length = n) := by show _ = _; rw [List.length_set]; exact HOL.out
                  have HN3 : Hid ((O.set i D2).take (i + 1) = (ush s us).take (i + 1)) := by
                    show _ = _
                    rw [take_set_succ (by rw [HOL.out]; omega), take_at hnext, HOV.out]
                  obtain ⟨hos, hgs⟩ := hor.stored i (.int .u32 (D2 : Int))
                  rw [uv_set] at hos
                  have hbs := hb4.setCell (p := ⟨wm.heap.size, i, none⟩) (Nat.le_refl _) (.int .u32 (D2 : Int))
                  clear hz hu0 hu1 hnext hV hV2 hD2 hc1
                  go_wp2_with fail
                  go_region
                  go_wp2_with fail
                  go_roundw
                  case rel => exact ⟨i + 1, _, by omega, by go_num, HN2, HN1, HN3, hos, hbs.drew⟩
                  case measure => simp [intOf]; omega
                · obtain rfl : i = n := by omega
                  have hO : O = (ush s us).take i := by
                    have := HOV.out
                    rw [List.take_of_length_le (by rw [HOL.out]; exact Nat.le_refl _)] at this
                    exact this
                  subst hO
                  have hLr := LAt.of_own hor HOO.out
                  have hcr := own_cap hor
                  obtain ⟨hL2, hle⟩ := LAt.strip hLr
                  rw [HRV.out] at hL2 hle
                  have hLq2 := HLQ.out.next hb4
                  obtain ⟨hLq3, hle3⟩ := LAt.strip hLq2
                  rw [HQV.out] at hLq3 hle3
                  rw [HQL.out] at hle3
                  rw [HOL.out] at hle
                  have H1 := hide hLr
                  have H2 := hide hL2
                  have H3 := hide hLq2
                  have H4 := hide hLq3
                  have hbf := hbw.trans (hb4.mono hbw.size)
                  clear hLr hL2 hLq2 hLq3
                  go_wp2_with fail
                  refine (strip_n Q _ _ _ _ HQL.out H3.out (Nat.le_refl _)).mono ?_
                  rintro e w5 ⟨rfl, rfl⟩
                  rw [HQV.out]
                  go_wp2_with fail
                  refine (strip_n _ _ _ _ _ HOL.out H1.out (Nat.le_refl _)).mono ?_
                  rintro e w5 ⟨rfl, rfl⟩
                  rw [HRV.out]
                  go_wp2_with fail
                  go_ret2
                  exact ⟨_, _, _, _, rfl, hle3, hcq.2, hle, hcr.2, H4.out, H2.out, hbf⟩
          · obtain ⟨j, rfl⟩ : ∃ j, k = j + 1 := ⟨k - 1, by omega⟩
            have hjm : j + n ≤ m := by have := HL.out; omega
            have e1 : (((j + 1 : Nat) : Int) - 1) = j := by omega
            rw [e1]
            clear e1 h0
            obtain ⟨u0, hu0⟩ : ∃ v, us[j + n]? = some v := ⟨_, List.getElem?_eq_getElem (by have := HUL.out; omega)⟩
            obtain ⟨u1, hu1⟩ : ∃ v, us[j + n - 1]? = some v := ⟨_, List.getElem?_eq_getElem (by have := HUL.out; omega)⟩
            obtain ⟨u2, hu2⟩ : ∃ v, us[j + n - 2]? = some v := ⟨_, List.getElem?_eq_getElem (by have := HUL.out; omega)⟩
            obtain ⟨v1, hv1⟩ : ∃ v, ds[n - 1]? = some v := ⟨_, List.getElem?_eq_getElem (by have := HDL.out; omega)⟩
            obtain ⟨v2, hv2⟩ : ∃ v, ds[n - 2]? = some v := ⟨_, List.getElem?_eq_getElem (by have := HDL.out; omega)⟩
            have hu0l := HUO.out.at_ hu0
            have hu1l := HUO.out.at_ hu1
            have hu2l := HUO.out.at_ hu2
            have hv1l := HDO.out.at_ hv1
            have hv2l := HDO.out.at_ hv2
            have cu0 := hst.cu hu0
            have cu1 := hst.cu hu1
            have HU0 := hide hu0
            have HU1 := hide hu1
            have HU2 := hide hu2
            have HV1 := hide hv1
            have HV2 := hide hv2
            clear hu0 hu1 hu2 hv1 hv2
            obtain ⟨T, hT⟩ : ∃ T, u0 * 4294967296 + u1 = T := ⟨_, rfl⟩
            have HT := hide hT
            go_upto_region 11 with fail
            go_cut [12] (fun v wx => v = .int .u64 (T : Int) ∧ St w wx gu gv gq M L us Q ds)
            case first =>
              as_aux_lemma =>
                have hor := or_hi hu0l hu1l
                rw [hT] at hor
                have q1 : IntKind.i64.wrap ((j : Int) + (n : Int)) = (j : Int) + (n : Int) := IntWalk.i64_in _ (by omega)
                have q2 : ((j : Int) + (n : Int)).toNat = j + n := by omega
                have q3 : IntKind.i64.wrap ((j : Int) + (n : Int) - 1) = (j : Int) + (n : Int) - 1 := IntWalk.i64_in _ (by omega)
                have q4 : ((j : Int) + (n : Int) - 1).toNat = j + n - 1 := by omega
                have q5 : 0 ≤ (j : Int) + (n : Int) := by omega
                have q6 : (j : Int) + (n : Int) < (M : Int) := by omega
                have q7 : 0 ≤ (j : Int) + (n : Int) - 1 := by omega
                have q8 : (j : Int) + (n : Int) - 1 < (M : Int) := by omega
                have q9 : IntKind.u64.wrap ((u0 : Int) * 4294967296) = (u0 : Int) * 4294967296 := IntWalk.u64_in _ (by omega)
                clear hT
                go_quiet (fail)
                go_wp2_with fail
                go_meet
                case rel => exact ⟨rfl, hst.drewN _⟩
            case rest =>
              clear hst cu0 cu1
              obtain ⟨rfl, hst⟩ := hcut
              obtain ⟨w5, rfl⟩ : ∃ w5, w5 = wc := ⟨_, rfl⟩
              have cv1 := hst.cd HV1.out
              have hwin := window_split us j n
              have hWl : ((us.drop j).take (n + 1)).length = n + 1 := by rw [List.length_take, List.length_drop, HUL.out]; omega
              have hpl : (us.take j).length = j := take_len (by rw [HUL.out]; omega)
              have hdlt : y * 2 ^ s < 4294967296 ^ n := by rw [← HDV.out, ← HDL.out]; exact lval_lt HDO.out
              have hI := HI.out
              rw [hwin] at hI
              have hok2 := HUO.out
              rw [hwin] at hok2
              obtain ⟨hpost, hWlt⟩ := DivInv.window hI hpl hWl hok2 hdlt
              have hWo : Ok ((us.drop j).take (n + 1)) := (HUO.out.drop j).take (n + 1)
              have hbig : 2147483648 ≤ v1 := top_big (n := n - 1) HDO.out (by rw [HDL.out]; omega) HV1.out (by rw [HDV.out]; exact HD2.out)
              have hest := est_window (k := n - 2) HDO.out hWo (by rw [HDL.out]; omega) (by rw [hWl]; omega)
                (x := u0) (y := u1) (z := u2) (v1 := v1) (v2 := v2)
                (by rw [show n - 2 + 2 = n by omega]; exact window_at HU0.out (by omega))
                (by rw [show n - 2 + 1 = n - 1 by omega]; exact window_at (by rw [show j + (n - 1) = j + n - 1 by omega]; exact HU1.out) (by omega))
                (window_at (by rw [show j + (n - 2) = j + n - 2 by omega]; exact HU2.out) (by omega))
                (by rw [show n - 2 + 1 = n - 1 by omega]; exact HV1.out) HV2.out hbig (by rw [HDV.out]; exact hWlt)
              rw [hT] at hest
              obtain ⟨hq1, hq2, hTt⟩ := hest
              have HQ1 := hide hq1
              have HQ2 := hide hq2
              have HTT := hide hTt
              have HPOST := hide hpost
              have HWL := hide hWl
              have HPL := hide hpl
              have HWLT := hide hWlt
              have HBIG := hide hbig
              clear hwin hWl hpl hdlt hI hok2 hpost hWlt hWo hbig hq1 hq2 hTt
              have hg0 : T / v1 ≤ 4294967297 := start_le HBIG.out HTT.out
              have hge := est_start (top := T) (v1 := v1) (v2 := v2) (u := u2) (by have := HBIG.out; omega) hu2l
              have hdm : T / v1 * v1 + T % v1 = T := by rw [Nat.mul_comm]; exact Nat.div_add_mod T v1
              have hrl : T % v1 < v1 := Nat.mod_lt _ (by have := HBIG.out; omega)
              have hq64 := quo64 (T := T) (d := v1) (by omega)
              have hv1p : 1 ≤ v1 := by have := HBIG.out; omega
              have hT64 : T ≤ 18446744073709551615 := by have := hT; omega
              have HGE := hide hge
              have HDM := hide hdm
              have hmod : (T : Int) % (v1 : Int) = ((T % v1 : Nat) : Int) := (Int.natCast_emod T v1).symm
              generalize T / v1 = g0 at hg0 HGE HDM hq64
              generalize T % v1 = r0 at hrl HDM hmod
              clear hge hdm hT
              go_upto_block 4 with fail
              go_cut [13] (fun v wx => v = .int .u64 (est T u2 v1 v2 : Nat) ∧ St w wx gu gv gq M L us Q ds)
              case first =>
                as_aux_lemma =>
                  clear cv1
                  go_wp2_with fail
                  go_loopw [13, 14] (fun vg vr wr => ∃ g r : Nat, vg = .int .u64 g ∧ vr = .int .u64 r ∧ Hid (g * v1 + r = T) ∧ r < 4294967296 ∧ g ≤ 4294967297 ∧ Hid (est T u2 v1 v2 ≤ g) ∧ St w wr gu gv gq M L us Q ds) (fun vg _ _ => (intOf vg).toNat)
                  case atStart => exact ⟨g0, r0, rfl, by rw [hmod], HDM.out, by omega, hg0, HGE.out, hst⟩
                  case round =>
                    clear hst HDM hrl HGE hg0 hq64 hmod
                    obtain ⟨g, r, rfl, rfl, HDM, hrl, hgl, HGE, hst⟩ := hrel
                    have cu2 := hst.cu HU2.out
                    have cv2 := hst.cd HV2.out
                    go_upto_region 14 with fail
                    go_cut [116] (fun b wx => b = .bool (tooGreat g r u2 v2) ∧ St w wx gu gv gq M L us Q ds)
                    case first =>
                      by_cases hbg : 4294967296 ≤ g
                      · have t1 : decide (4294967296 ≤ (g : Int)) = true := decide_eq_true (by omega)
                        have hres : Hid (true = tooGreat g r u2 v2) := by show _ = _; unfold tooGreat; rw [decide_eq_true hbg]; rfl
                        go_quiet (fail)
                        go_wp2_with fail
                        go_meet
                        case rel => exact ⟨by rw [← hres.out], hst.drewN _⟩
                      · have t1 : decide (4294967296 ≤ (g : Int)) = false := decide_eq_false (by omega)
                        have hor := or_hi hrl hu2l
                        have hpr := guess_prod hgl hv2l
                        have hres : Hid (decide (r * 4294967296 + u2 < g * v2) = tooGreat g r u2 v2) := by
                          show _ = _
                          unfold tooGreat
                          rw [decide_eq_false hbg, Bool.false_or]
                        have hw1 : IntKind.u64.wrap ((g : Int) * (v2 : Int)) = ((g * v2 : Nat) : Int) := by
                          rw [← Int.natCast_mul]
                          generalize g * v2 = pr at hpr ⊢
                          exact IntWalk.u64_in _ (by omega)
                        have hw2 : IntKind.u64.wrap ((r : Int) * 4294967296) = (r : Int) * 4294967296 := IntWalk.u64_in _ (by omega)
                        generalize r * 4294967296 + u2 = RU at hor hres
                        generalize g * v2 = GV at hpr hres hw1
                        have q1 : IntKind.i64.wrap ((n : Int) - 2) = (n : Int) - 2 := IntWalk.i64_in _ (by omega)
                        have q2 : ((n : Int) - 2).toNat = n - 2 := by omega
                        have q3 : IntKind.i64.wrap ((j : Int) + (n : Int)) = (j : Int) + (n : Int) := IntWalk.i64_in _ (by omega)
                        have q4 : IntKind.i64.wrap ((j : Int) + (n : Int) - 2) = (j : Int) + (n : Int) - 2 := IntWalk.i64_in _ (by omega)
                        have q5 : ((j : Int) + (n : Int) - 2).toNat = j + n - 2 := by omega
                        have q6 : 0 ≤ (n : Int) - 2 := by omega
                        have q7 : (n : Int) - 2 < (n : Int) := by omega
                        have q8 : 0 ≤ (j : Int) + (n : Int) - 2 := by omega
                        have q9 : (j : Int) + (n : Int) - 2 < (M : Int) := by omega
                        go_quiet (fail)
                        go_wp2_with fail
                        go_meet
                        case rel => exact ⟨by rw [← hres.out], hst.drewN _⟩
                    case rest =>
                      clear hst cu2 cv2
                      obtain ⟨rfl, hst⟩ := hcut
                      have cv1 := hst.cd HV1.out
                      have hHDM := HDM.out
                      have hHGE := HGE.out
                      cases hc : tooGreat g r u2 v2
                      case false =>
                        obtain ⟨hc1, hc2⟩ := tg_false hc
                        have hfin : g = est T u2 v1 v2 := Nat.le_antisymm (est_stop (by omega) hHDM hc1 hc2) hHGE
                        clear hc hc1 hc2 hHDM hHGE
                        go_wp2_with fail
                        go_meet
                        case rel => exact ⟨by rw [hfin], hst⟩
                      case true =>
                        obtain ⟨hd, hg1⟩ := est_down hHDM (tg_true hc)
                        have hs1 : (g - 1) * v1 + (r + v1) = T := by rw [← hHDM]; exact tg_step hg1
                        have hw3 : IntKind.u64.wrap ((g : Int) - 1) = ((g - 1 : Nat) : Int) := by rw [show ((g - 1 : Nat) : Int) = (g : Int) - 1 by omega]; exact IntWalk.u64_in _ (by omega)
                        have hw4 : IntKind.u64.wrap ((r : Int) + (v1 : Int)) = ((r + v1 : Nat) : Int) := by rw [show ((r + v1 : Nat) : Int) = (r : Int) + (v1 : Int) by omega]; exact IntWalk.u64_in _ (by omega)
                        have q1 : IntKind.i64.wrap ((n : Int) - 1) = (n : Int) - 1 := IntWalk.i64_in _ (by omega)
                        have q2 : ((n : Int) - 1).toNat = n - 1 := by omega
                        have q6 : 0 ≤ (n : Int) - 1 := by omega
                        have q7 : (n : Int) - 1 < (n : Int) := by omega
                        have hg2 : g - 1 ≤ 4294967296 := by omega
                        have hmes : g - 1 < g := by omega
                        clear hHDM hHGE hc
                        obtain ⟨g', hg'⟩ : ∃ g', g - 1 = g' := ⟨_, rfl⟩
                        obtain ⟨r', hr'⟩ : ∃ r', r + v1 = r' := ⟨_, rfl⟩
                        rw [hg'] at hd hs1 hw3 hg2 hmes
                        rw [hr'] at hs1 hw4
                        have hs1' := hide hs1
                        have hd' := hide hd
                        clear hs1 hd hr' hg' HDM HGE
                        by_cases hbr : 4294967296 ≤ r'
                        · have t1 : decide (4294967296 ≤ (r' : Int)) = true := decide_eq_true (by omega)
                          have hfin : g' = est T u2 v1 v2 := Nat.le_antisymm (est_break (by omega) HTT.out hv2l hg2 hs1'.out hbr) hd'.out
                          go_wp2_with fail
                          go_meet
                          case rel => exact ⟨rfl, hst⟩
                        · have t1 : decide (4294967296 ≤ (r' : Int)) = false := decide_eq_false (by omega)
                          go_wp2_with fail
                          exact ⟨⟨g', r', rfl, rfl, hs1', by omega, by omega, hd', hst⟩, by show (g' : Int).toNat < (g : Int).toNat; omega⟩
              case rest =>
                clear hst cv1 hg0 hrl HDM hq64 hmod HGE
                obtain ⟨rfl, hst⟩ := hcut
                have hGl := est_lt T u2 v1 v2
                obtain ⟨G, hG⟩ : ∃ G, est T u2 v1 v2 = G := ⟨_, rfl⟩
                rw [hG] at hGl HQ1 HQ2 ⊢
                clear HU0 HU1 HU2 HV1 HV2 hu0l hu1l hu2l hv1l hv2l HT HTT HBIG hv1p hT64 hG
                obtain ⟨W0, hW0⟩ : ∃ W0, (us.drop j).take (n + 1) = W0 := ⟨_, rfl⟩
                obtain ⟨P0, hP0⟩ : ∃ P0, us.take j = P0 := ⟨_, rfl⟩
                obtain ⟨R0, hR0⟩ : ∃ R0, us.drop (j + n + 1) = R0 := ⟨_, rfl⟩
                have hwin := window_split us j n
                rw [hW0, hP0, hR0] at hwin
                rw [hW0] at HQ1 HQ2 HWL HWLT
                rw [hR0] at HPOST
                rw [hP0] at HPL
                have HOW : Hid (Ok W0) := by
                  show _
                  rw [← hW0]
                  exact (HUO.out.drop j).take (n + 1)
                have HOP : Hid (Ok P0) := by
                  show _
                  rw [← hP0]
                  exact HUO.out.take j
                have HOR : Hid (Ok R0) := by
                  show _
                  rw [← hR0]
                  exact HUO.out.drop _
                rw [hwin] at hst HI
                clear hW0 hP0 hR0 hwin HUL HUO
                clear us
                go_upto_block 6 with fail
                go_cut [15, 16] (fun vc vb wx => ∃ (c b : Nat) (W' : List Nat), vc = .int .u64 c ∧ vb = .int .u64 b ∧ c < 4294967296 ∧ b ≤ 1 ∧ Hid (MulSub G ds W0 W' n c b) ∧ Hid (Ok W') ∧ St w wx gu gv gq M L (P0 ++ W' ++ R0) Q ds)
                case first =>
                  as_aux_lemma =>
                    go_wp2_with fail
                    go_loopw [15, 16, 17] (fun vc vb vi wr => ∃ (k c b : Nat) (W' : List Nat), k ≤ n ∧ vi = .int .i64 k ∧ vc = .int .u64 c ∧ vb = .int .u64 b ∧ c < 4294967296 ∧ b ≤ 1 ∧ Hid (MulSub G ds W0 W' k c b) ∧ Hid (Ok W') ∧ St w wr gu gv gq M L (P0 ++ W' ++ R0) Q ds) (fun _ _ vi _ => n - (intOf vi).toNat)
                    case atStart => exact ⟨0, 0, 0, W0, by omega, rfl, rfl, rfl, by omega, by omega, MulSub.start G ds W0, HOW, hst⟩
                    case round =>
                      clear hst
                      obtain ⟨k, c, b, W', hk, rfl, rfl, rfl, hcl, hbl, HMS, HOW', hst⟩ := hrel
                      by_cases hkn : k < n
                      · obtain ⟨v, hv⟩ : ∃ v, ds[k]? = some v := ⟨_, List.getElem?_eq_getElem (by have := HDL.out; omega)⟩
                        have hWl' : W'.length = n + 1 := by rw [HMS.out.1, HWL.out]
                        obtain ⟨z, hz⟩ : ∃ z, W'[k]? = some z := ⟨_, List.getElem?_eq_getElem (by omega)⟩
                        have hz0 : W0[k]? = some z := by rw [← getElem?_of_drop HMS.out.2.1]; exact hz
                        have hvl := HDO.out.at_ hv
                        have hzl := HOW'.out.at_ hz
                        have cd1 := hst.cd hv
                        have cu1 := hst.cu (k := j + k) (v := z) (by rw [win_at HPL.out (by omega)]; exact hz)
                        have fu1 := hst.fu (j + k)
                        have hT1 := (prod_lt hGl hvl (by omega : 0 < 4294967296) hcl).1
                        have hT2 := (prod_lt hGl hvl (by omega : 0 < 4294967296) hcl).2
                        obtain ⟨T2, hT⟩ : ∃ T2, G * v + 0 + c = T2 := ⟨_, rfl⟩
                        rw [hT] at hT1 hT2
                        have hp0 : Hid (G * v + c = T2) := by show _ = _; omega
                        have hw1 : IntKind.u64.wrap ((G : Int) * (v : Int)) = ((G * v : Nat) : Int) := by
                          rw [← Int.natCast_mul]
                          exact IntWalk.u64_in _ (by omega)
                        obtain ⟨pr, hpr⟩ : ∃ pr, G * v = pr := ⟨_, rfl⟩
                        rw [hpr] at hw1 hT
                        have hw2 : IntKind.u64.wrap ((c : Int) + (pr : Int)) = (T2 : Int) := by rw [IntWalk.u64_in _ (by omega)]; omega
                        clear hpr hT
                        have hw4 : IntKind.i64.wrap ((j : Int) + (k : Int)) = (j : Int) + (k : Int) := IntWalk.i64_in _ (by omega)
                        have hw5 : ((j : Int) + (k : Int)).toNat = j + k := by omega
                        have hw6 : 0 ≤ (j : Int) + (k : Int) := by omega
                        have hw7 : (j : Int) + (k : Int) < (M : Int) := by omega
                        have hand := and_lo (T := T2) hT1
                        obtain ⟨Y0, hY0⟩ : ∃ Y0, T2 % 4294967296 = Y0 := ⟨_, rfl⟩
                        have hY0l : Y0 < 4294967296 := by omega
                        rw [hY0] at hand
                        have HY0 := hide hY0
                        clear hY0
                        obtain ⟨Y, hY⟩ : ∃ Y, Y0 + b = Y := ⟨_, rfl⟩
                        have hYl : Y ≤ 4294967296 := by omega
                        have hwy : IntKind.u64.wrap ((Y0 : Int) + (b : Int)) = (Y : Int) := by rw [IntWalk.u64_in _ (by omega)]; omega
                        have HY := hide hY
                        clear hY
                        by_cases hlt : z < Y
                        · obtain ⟨D, hD⟩ : ∃ D, z + 4294967296 - Y = D := ⟨_, rfl⟩
                          have hDl : D < 4294967296 := by omega
                          have HN1 : Hid (MulSub G ds W0 (W'.set k D) (k + 1) (T2 / 4294967296) 1) := by
                            have := MulSub.step (diff := D) (b' := 1) HMS.out hv hz0 (by rw [hp0.out, HY0.out]; have := HY.out; omega)
                            rw [hp0.out] at this
                            exact this
                          have HN2 : Hid (Ok (W'.set k D)) := HOW'.out.set _ hDl
                          have hsn := hst.setU (j + k) D
                          rw [win_set HPL.out (by omega)] at hsn
                          have t1 : decide ((z : Int) < (Y : Int)) = true := decide_eq_true (by omega)
                          have hw9 : IntKind.u64.wrap ((z : Int) + 4294967296 - (Y : Int)) = (D : Int) := by rw [IntWalk.u64_in _ (by omega)]; omega
                          have hw10 : (D : Int) % 4294967296 = (D : Int) := by omega
                          clear hz hz0 hv hD
                          go_wp2_with fail
                          go_roundw
                          case rel => exact ⟨k + 1, T2 / 4294967296, 1, _, by omega, by go_num, by go_num, rfl, hT2, by omega, HN1, HN2, hsn⟩
                          case measure => simp [intOf]; omega
                        · obtain ⟨D, hD⟩ : ∃ D, z - Y = D := ⟨_, rfl⟩
                          have hDl : D < 4294967296 := by omega
                          have HN1 : Hid (MulSub G ds W0 (W'.set k D) (k + 1) (T2 / 4294967296) 0) := by
                            have := MulSub.step (diff := D) (b' := 0) HMS.out hv hz0 (by rw [hp0.out, HY0.out]; have := HY.out; omega)
                            rw [hp0.out] at this
                            exact this
                          have HN2 : Hid (Ok (W'.set k D)) := HOW'.out.set _ hDl
                          have hsn := hst.setU (j + k) D
                          rw [win_set HPL.out (by omega)] at hsn
                          have t1 : decide ((z : Int) < (Y : Int)) = false := decide_eq_false (by omega)
                          have hw9 : IntKind.u64.wrap ((z : Int) - (Y : Int)) = (D : Int) := by rw [IntWalk.u64_in _ (by omega)]; omega
                          have hw10 : (D : Int) % 4294967296 = (D : Int) := by omega
                          clear hz hz0 hv hD
                          go_wp2_with fail
                          go_roundw
                          case rel => exact ⟨k + 1, T2 / 4294967296, 0, _, by omega, by go_num, by go_num, rfl, hT2, by omega, HN1, HN2, hsn⟩
                          case measure => simp [intOf]; omega
                      · obtain rfl : k = n := by omega
                        go_wp2_with fail
                        go_meet
                        case rel => exact ⟨c, b, W', rfl, rfl, hcl, hbl, HMS, HOW', hst⟩
                case rest =>
                  clear hst
                  obtain ⟨c, b, W', rfl, rfl, hcl, hbl, HMS, HOW', hst⟩ := hcut
                  have hWl' : W'.length = n + 1 := by rw [HMS.out.1, HWL.out]
                  obtain ⟨z, hz⟩ : ∃ z, W'[n]? = some z := ⟨_, List.getElem?_eq_getElem (by omega)⟩
                  have hz0 : W0[n]? = some z := by rw [← getElem?_of_drop HMS.out.2.1]; exact hz
                  have hzl := HOW'.out.at_ hz
                  have cu1 := hst.cu (k := j + n) (v := z) (by rw [win_at HPL.out (by omega)]; exact hz)
                  have fu1 := hst.fu (j + n)
                  obtain ⟨Y, hY⟩ : ∃ Y, c + b = Y := ⟨_, rfl⟩
                  have hYl : Y ≤ 4294967296 := by omega
                  have hwy : IntKind.u64.wrap ((c : Int) + (b : Int)) = (Y : Int) := by rw [IntWalk.u64_in _ (by omega)]; omega
                  have hw4 : IntKind.i64.wrap ((j : Int) + (n : Int)) = (j : Int) + (n : Int) := IntWalk.i64_in _ (by omega)
                  have hw5 : ((j : Int) + (n : Int)).toNat = j + n := by omega
                  have hw6 : 0 ≤ (j : Int) + (n : Int) := by omega
                  have hw7 : (j : Int) + (n : Int) < (M : Int) := by omega
                  obtain ⟨D, hD⟩ : ∃ D, (z + 4294967296 - Y) % 4294967296 = D := ⟨_, rfl⟩
                  have hDl : D < 4294967296 := by omega
                  have hw9 : IntKind.u64.wrap ((z : Int) - (Y : Int)) % 4294967296 = (D : Int) := by rw [IntKind.wrap_u64]; omega
                  have HML1 : z < Y → Hid (lval (W'.set n D) + G * lval ds = lval W0 + 1 * 4294967296 ^ (n + 1)) := fun h => (MulSub.last (b' := 1) HMS.out HDL.out HWL.out hz0 (by omega)).1
                  have HML0 : ¬ z < Y → Hid (lval (W'.set n D) + G * lval ds = lval W0 + 0 * 4294967296 ^ (n + 1)) := fun h => (MulSub.last (b' := 0) HMS.out HDL.out HWL.out hz0 (by omega)).1
                  have HL1 : Hid ((W'.set n D).length = n + 1) := by show _ = _; rw [List.length_set, hWl']
                  have HO1 : Hid (Ok (W'.set n D)) := HOW'.out.set _ hDl
                  have hsn := hst.setU (j + n) D
                  rw [win_set HPL.out (by omega)] at hsn
                  have HML1' := Lib.hid HML1
                  have HML0' := Lib.hid HML0
                  clear hz hz0 hD HML1 HML0 hY HMS HOW' hWl'
                  have hdp : 0 < lval ds := by
                    rw [HDV.out]
                    have := HD2.out
                    have := pow_pos (n - 1)
                    omega
                  have hHQ : Hid (G = lval W0 / lval ds ∨ G = lval W0 / lval ds + 1) := by
                    show _ ∨ _
                    have := HQ1.out
                    have := HQ2.out
                    omega
                  clear hst
                  go_upto_if 192 with fail
                  obtain ⟨W1, hW1⟩ : ∃ W1, W'.set n D = W1 := ⟨_, rfl⟩
                  rw [hW1] at hsn HO1 HL1 HML1' HML0'
                  clear hW1 cu1 fu1
                  obtain ⟨wn, hwn⟩ : ∃ wn, wc.setCell ⟨gu, j + n, none⟩ (.int .u32 (D : Int)) = wn := ⟨_, rfl⟩
                  rw [hwn] at hsn ⊢
                  clear hwn
                  go_cut [13] (fun v wx => ∃ W2 : List Nat, v = .int .u64 ((lval W0 / lval ds : Nat) : Int) ∧ Hid (lval W2 = lval W0 % lval ds) ∧ Hid (W2.length = n + 1) ∧ Hid (Ok W2) ∧ St w wx gu gv gq M L (P0 ++ W2 ++ R0) Q ds)
                  case first =>
                    as_aux_lemma =>
                      by_cases hlt : z < Y
                      · have t1 : decide ((z : Int) < (Y : Int)) = true := decide_eq_true (by omega)
                        have h1 := sub_over hdp rfl hHQ.out (by have := lval_lt HO1.out; rw [HL1.out] at this; exact this) (HML1'.out hlt).out rfl
                        have HS1 := hide h1.1
                        have HS2 := hide h1.2
                        clear h1
                        have hG1 : 1 ≤ G := by rw [HS1.out]; exact Nat.le_add_left _ _
                        have hw3 : IntKind.u64.wrap ((G : Int) - 1) = ((lval W0 / lval ds : Nat) : Int) := by
                          have h3 := HS1.out
                          generalize lval W0 / lval ds = qq at h3 ⊢
                          rw [show (qq : Int) = (G : Int) - 1 by omega]
                          exact IntWalk.u64_in _ (by omega)
                        go_wp2_with fail
                        go_loopw [15, 23] (fun vc vi wr => ∃ (k cc : Nat) (W2 : List Nat), k ≤ n ∧ vi = .int .i64 k ∧ vc = .int .u64 cc ∧ cc ≤ 1 ∧ Hid (AddBack ds W1 W2 k cc) ∧ Hid (Ok W2) ∧ St w wr gu gv gq M L (P0 ++ W2 ++ R0) Q ds) (fun _ vi _ => n - (intOf vi).toNat)
                        case atStart => exact ⟨0, 0, W1, by omega, rfl, rfl, by omega, AddBack.start ds W1, HO1, hsn⟩
                        case round =>
                          clear hsn
                          obtain ⟨k, cc, W2, hk, rfl, rfl, hcc, HAB, HO2, hst⟩ := hrel
                          have hWl2 : W2.length = n + 1 := by rw [HAB.out.1, HL1.out]
                          by_cases hkn : k < n
                          · obtain ⟨v, hv⟩ : ∃ v, ds[k]? = some v := ⟨_, List.getElem?_eq_getElem (by have := HDL.out; omega)⟩
                            obtain ⟨x2, hx2⟩ : ∃ z, W2[k]? = some z := ⟨_, List.getElem?_eq_getElem (by omega)⟩
                            have hx3 : W1[k]? = some x2 := by rw [← getElem?_of_drop HAB.out.2.1]; exact hx2
                            have hvl := HDO.out.at_ hv
                            have hxl2 := HO2.out.at_ hx2
                            have cd1 := hst.cd hv
                            have cu1 := hst.cu (k := j + k) (v := x2) (by rw [win_at HPL.out (by omega)]; exact hx2)
                            have fu1 := hst.fu (j + k)
                            obtain ⟨T2, hT⟩ : ∃ T2, x2 + v + cc = T2 := ⟨_, rfl⟩
                            have hTl : T2 ≤ 8589934591 := by omega
                            have p2 : IntKind.u64.wrap ((cc : Int) + (x2 : Int)) = (cc : Int) + (x2 : Int) := IntWalk.u64_in _ (by omega)
                            have p3 : IntKind.u64.wrap ((cc : Int) + (x2 : Int) + (v : Int)) = (T2 : Int) := by rw [IntWalk.u64_in _ (by omega)]; omega
                            have p4 : IntKind.i64.wrap ((j : Int) + (k : Int)) = (j : Int) + (k : Int) := IntWalk.i64_in _ (by omega)
                            have p5 : ((j : Int) + (k : Int)).toNat = j + k := by omega
                            have p6 : 0 ≤ (j : Int) + (k : Int) := by omega
                            have p7 : (j : Int) + (k : Int) < (M : Int) := by omega
                            have HN1 := AddBack.step HAB.out hv hx3
                            rw [hT] at HN1
                            obtain ⟨D2, hD2⟩ : ∃ D2, T2 % 4294967296 = D2 := ⟨_, rfl⟩
                            rw [hD2] at HN1
                            have hDl2 : D2 < 4294967296 := by omega
                            have HN1 := hide HN1
                            have p10 : (T2 : Int) % 4294967296 = (D2 : Int) := by omega
                            have HN2 : Hid (Ok (W2.set k D2)) := HO2.out.set _ hDl2
                            have hsn2 := hst.setU (j + k) D2
                            rw [win_set HPL.out (by omega)] at hsn2
                            clear hv hx2 hx3 hT hD2 hw3 hWl2
                            go_wp2_with fail
                            go_quiet (fail)
                            go_wp2_with fail
                            go_roundw
                            case rel => exact ⟨k + 1, T2 / 4294967296, _, by omega, by go_num, by go_num, by omega, HN1, HN2, hsn2.drewN _⟩
                            case measure => simp [intOf]; omega
                          · obtain rfl : k = n := by omega
                            obtain ⟨x2, hx2⟩ : ∃ z, W2[k]? = some z := ⟨_, List.getElem?_eq_getElem (by omega)⟩
                            have hx3 : W1[k]? = some x2 := by rw [← getElem?_of_drop HAB.out.2.1]; exact hx2
                            have hxl2 := HO2.out.at_ hx2
                            have cu1 := hst.cu (k := j + k) (v := x2) (by rw [win_at HPL.out (by omega)]; exact hx2)
                            have fu1 := hst.fu (j + k)
                            have p4 : IntKind.i64.wrap ((j : Int) + (k : Int)) = (j : Int) + (k : Int) := IntWalk.i64_in _ (by omega)
                            have p5 : ((j : Int) + (k : Int)).toNat = j + k := by omega
                            have p6 : 0 ≤ (j : Int) + (k : Int) := by omega
                            have p7 : (j : Int) + (k : Int) < (M : Int) := by omega
                            have p8 : (cc : Int) % 4294967296 = (cc : Int) := by omega
                            have hlast := AddBack.last HAB.out HDL.out HL1.out hx3
                            obtain ⟨T2, hT⟩ : ∃ T2, x2 + cc = T2 := ⟨_, rfl⟩
                            have hTl : T2 ≤ 4294967296 := by omega
                            rw [hT] at hlast
                            obtain ⟨D2, hD2⟩ : ∃ D2, T2 % 4294967296 = D2 := ⟨_, rfl⟩
                            rw [hD2] at hlast
                            have hDl2 : D2 < 4294967296 := by omega
                            have p9 : ((x2 : Int) + (cc : Int)) % 4294967296 = (D2 : Int) := by omega
                            have HN2 : Hid (Ok (W2.set k D2)) := HO2.out.set _ hDl2
                            have HN3 : Hid ((W2.set k D2).length = k + 1) := hlast.2
                            have HN4 : Hid (lval (W2.set k D2) = lval W0 % lval ds) := by
                              show _ = _
                              have h1 := hlast.1
                              have h2 := HS2.out
                              have h3 := lval_lt HN2.out
                              rw [HN3.out] at h3
                              have h4 := Nat.mod_lt (lval W0) hdp
                              have h5 := lval_lt HDO.out
                              rw [HDL.out] at h5
                              have h6 : 4294967296 ^ k ≤ 4294967296 ^ (k + 1) := Nat.pow_le_pow_right (by omega) (by omega)
                              have h7 : T2 / 4294967296 ≤ 1 := by omega
                              generalize 4294967296 ^ (k + 1) = MM at *
                              generalize lval W0 % lval ds = rr at *
                              generalize lval (W2.set k D2) = aa at *
                              rcases (by omega : T2 / 4294967296 = 0 ∨ T2 / 4294967296 = 1) with h8 | h8
                              · rw [h8] at h1; omega
                              · rw [h8] at h1; omega
                            have hsn2 := hst.setU (j + k) D2
                            rw [win_set HPL.out (by omega)] at hsn2
                            clear hx2 hx3 hT hD2 hlast hWl2
                            go_wp2_with fail
                            go_meet
                            case rel => exact ⟨_, by congr 1, HN4, HN3, HN2, hsn2⟩
                      · have t1 : decide ((z : Int) < (Y : Int)) = false := decide_eq_false (by omega)
                        have h1 := sub_right hdp rfl hHQ.out (HML0'.out hlt).out rfl
                        have HS1 := hide h1.1
                        have HS2 := hide h1.2
                        clear h1
                        go_wp2_with fail
                        go_meet
                        case rel => exact ⟨W1, by rw [← HS1.out], HS2, HL1, HO1, hsn⟩
                  case rest =>
                    as_aux_lemma =>
                      clear hsn
                      obtain ⟨W3, rfl, HV3, HL3, HO3, hst⟩ := hcut
                      have hq : lval W0 / lval ds < 4294967296 := by
                        have h := HWLT.out
                        rw [← HDV.out] at h
                        exact (Nat.div_lt_iff_lt_mul hdp).2 (by rw [Nat.mul_comm]; exact h)
                      have hinv := DivInv.step (W' := W3) HI.out HPL.out HPOST.out (by rw [HV3.out, HDV.out]) (by rw [← HDV.out]; exact hdp)
                      rw [← HDV.out] at hinv
                      obtain ⟨qd, hqd⟩ : ∃ q, lval W0 / lval ds = q := ⟨_, rfl⟩
                      rw [hqd] at hq hinv ⊢
                      obtain ⟨z9, hz9⟩ : ∃ z, Q[j]? = some z := ⟨_, List.getElem?_eq_getElem (by rw [HQL.out]; omega)⟩
                      have cq := hst.cq hz9
                      have fq := hst.fq j
                      have hsn := hst.setQ j qd
                      have hjL : j < L := by omega
                      have p10 : (qd : Int) % 4294967296 = (qd : Int) := by omega
                      have HI2 : Hid (DivInv (x * 2 ^ s) (y * 2 ^ s) (P0 ++ W3 ++ R0) ((Q.set j qd).drop j) j) := by
                        show DivInv _ _ _ _ _
                        rw [drop_set_self (by rw [HQL.out]; omega), ← HDV.out]; exact hinv
                      have HQO2 : Hid (Ok (Q.set j qd)) := HQO.out.set _ hq
                      have HQL2 : Hid ((Q.set j qd).length = L) := by show _ = _; rw [List.length_set]; exact HQL.out
                      have HUL2 : Hid ((P0 ++ W3 ++ R0).length = M) := hst.len
                      have HUO2 : Hid (Ok (P0 ++ W3 ++ R0)) := (HOP.out.append HO3.out).append HOR.out
                      clear hz9 hinv hqd hq hHQ HML1' HML0' hst
                      go_wp2_with fail
                      go_roundw
                      case rel => exact ⟨j, P0 ++ W3 ++ R0, Q.set j qd, by omega, rfl, HUL2, HUO2, HQL2, HQO2, HI2, hsn⟩
                      case measure => simp [intOf] <;> omega
end Go.Proofs.YtpbgmpjnfndfjaaGreatDoor.RoJ
