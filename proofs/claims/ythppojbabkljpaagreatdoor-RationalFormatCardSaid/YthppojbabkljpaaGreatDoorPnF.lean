/- The walk of the program's Multiply. -/
import Derived.Test.YthppojbabkljpaaGreatDoorPnE
namespace Go.Proofs.YthppojbabkljpaaGreatDoor.PnF
open Go.RowKit RnA RnB RnS RnC RnK RnM RnL RnN RnD RnE RnQ RnR RnP RnW RnX RoA RoB RoC RoD RoE RoF RoG RoH RoI RoL PnA PnB PnC PnD PnE
set_option maxHeartbeats 4000000 in
set_option maxRecDepth 100000 in
theorem mul_any (s t : ByteArray) (w0 : World) (hs : s.size ≤ 100000) (ht : t.size ≤ 100000) :
    Calls Tryz.prog 64 #[.string s, .string t] w0 (SPost (bs (nv s * nv t)) w0) := by
  obtain ⟨i0, hi0, hz0, hz1, hz2⟩ := info_parts u32Info
  have hx := nv_le (s := s) (k := 25000) (by omega)
  have hy := nv_le (s := t) (k := 25000) (by omega)
  obtain ⟨x, hX⟩ : ∃ x, nv s = x := ⟨_, rfl⟩
  obtain ⟨y, hY⟩ : ∃ y, nv t = y := ⟨_, rfl⟩
  have P1 := Lib.hid (fun w => parse_any s w (by omega))
  have P2 := Lib.hid (fun w => parse_any t w (by omega))
  rw [hX] at hx P1 ⊢
  rw [hY] at hy P2 ⊢
  have hla : (limbs x).length ≤ 25000 := hx
  have hlb : (limbs y).length ≤ 25000 := hy
  clear hX hY hs ht hx hy
  go_enter Tryz.func64, Tryz.ntmps64
  go_wp2_with fail
  refine (P1.out _).mono ?_
  rintro e w1 ⟨A, c, rfl, hA1, hA2, hA3, hb1⟩
  have HA1 := hide hA3
  clear hA1 hA2 hA3
  go_wp2_with fail
  refine (P2.out _).mono ?_
  rintro e w ⟨B, c', rfl, hB1, hB2, hB3, hb2⟩
  have HB := hide hB3
  have HA := hide (HA1.out.next hb2)
  have HB0 := hide (below_next hb1 hb2)
  clear hB1 hB2 hB3 HA1 hb1 hb2
  have HVA := hide (lval_limbs x)
  have HVB := hide (lval_limbs y)
  generalize limbs x = a at *
  generalize limbs y = b at *
  have hw0 : IntKind.i64.wrap ((a.length : Int) + (b.length : Int)) = ((a.length + b.length : Nat) : Int) := by
    rw [IntWalk.i64_in _ (by omega)]; omega
  go_wp2_with (first
    | (at_make
       refine wpList_make_full _ rfl (.tmp 22) (.tmp 22) 88 rfl w.heap.size 52 i0 _ 1 Tryz.underlying88 hi0 hz0 hz1 .i64 .i64 _ _ (a.length + b.length) rfl rfl ?c1 ?c2 ?c3 ?c4 ?c5 ?_
       case c1 => omega
       case c2 => omega
       case c3 => rw [hz2]; omega
       case c4 => unfold maxLen; omega
       case c5 => exact Nat.le_refl _
       intro w2 hown hg))
  rw [made_uv] at hown
  have hb2 : Below w.heap.size w w2 := (Below.refl _ _).grown hg (Nat.le_refl _) (by simp)
  clear hg hw0
  generalize hn : a.length + b.length = n at hown
  go_loopw [26] (fun vi wr => ∃ (i : Nat) (O : List Nat), i ≤ a.length ∧ vi = .int .i64 i ∧ Hid (O.length = n) ∧ Hid (Ok O) ∧ Hid (lval O = lval (a.take i) * y) ∧ wr.ownsRow w.heap.size 52 1 (.slice (some ⟨w.heap.size, 0, none⟩) n n) n (uv O) ∧ Below w.heap.size w wr) (fun vi _ => a.length - (intOf vi).toNat)
  case atStart => exact ⟨0, List.replicate n 0, by omega, rfl, by show _ = _; simp, Ok.replicate _, by show _ = _; simp [lval, lval_replicate], hown, hb2⟩
  case round =>
    obtain ⟨i, O, hi, rfl, HOL, HO, HV, hown, hbr⟩ := hrel
    by_cases hlt : i < a.length
    · obtain ⟨u, hu⟩ : ∃ u, a[i]? = some u := ⟨_, List.getElem?_eq_getElem hlt⟩
      have hul : u < 4294967296 := HA.out.ok.at_ hu
      have hzero : Hid (O[i + b.length]? = some 0) := by
        show _ = _
        obtain ⟨z, hz⟩ : ∃ z, O[i + b.length]? = some z := ⟨_, List.getElem?_eq_getElem (by have := HOL.out; omega)⟩
        rw [hz]
        congr 1
        refine zero_above ?_ hz
        rw [HV.out, Nat.pow_add]
        have h1 := lval_lt (HA.out.ok.take i)
        rw [take_len hi] at h1
        have h2 := lval_lt HB.out.ok
        rw [HVB.out] at h2
        exact Nat.mul_lt_mul_of_lt_of_le h1 (Nat.le_of_lt h2) (RnC.pow_pos _)
      obtain ⟨wo, rfl⟩ : ∃ wo : World, wo = wr := ⟨_, rfl⟩
      obtain ⟨b1, o1, rfl, hb1, hc1⟩ := (HA.out.below hbr).2.2 (by omega)
      have c1 := hc1 i u hu
      have HU := hide hu
      clear hu hc1
      go_wp2_with fail
      go_loopw [10, 33] (fun vk vj wq => ∃ (j k : Nat) (P : List Nat), j ≤ b.length ∧ k < 4294967296 ∧ vj = .int .i64 j ∧ vk = .int .u64 k ∧ Hid (P.length = n) ∧ Hid (Ok P) ∧ Hid (P[i + b.length]? = some 0) ∧ Hid (lval P + k * 4294967296 ^ (i + j) = lval (a.take i) * y + u * lval (b.take j) * 4294967296 ^ i) ∧ wq.ownsRow w.heap.size 52 1 (.slice (some ⟨w.heap.size, 0, none⟩) n n) n (uv P) ∧ Below w.heap.size w wq) (fun _ vj _ => b.length - (intOf vj).toNat)
      case atStart => exact ⟨0, 0, O, by omega, by omega, rfl, rfl, HOL.out, HO.out, hzero.out, by show _ = _; rw [HV.out]; simp [lval], hown, hbr⟩
      case round =>
        clear hown hbr HOL HO HV hzero c1
        obtain ⟨j, k, P, hj, hk, rfl, rfl, HPL, HP, HZ, HV, hown, hbr⟩ := hrel
        by_cases hjl : j < b.length
        · obtain ⟨v, hv⟩ : ∃ v, b[j]? = some v := ⟨_, List.getElem?_eq_getElem hjl⟩
          have hvl : v < 4294967296 := HB.out.ok.at_ hv
          obtain ⟨z, hz⟩ : ∃ z, P[i + j]? = some z := ⟨_, List.getElem?_eq_getElem (by have := HPL.out; omega)⟩
          have hzl : z < 4294967296 := HP.out.at_ hz
          obtain ⟨b2, o2, rfl, hb2', hc2⟩ := (HB.out.below hbr).2.2 (by omega)
          have c2 := hc2 j v hv
          have hijn : i + j < n := by omega
          have cz : wr.cell? ⟨w.heap.size, i + j, none⟩ = some (.int .u32 (z : Int)) := (hown.cellAt (i + j) (by omega)).trans (uv_get hz)
          have fz := hown.frozenAt (i + j)
          have hmr := mul_round HV.out hz hv
          obtain ⟨hT1, hT2⟩ := prod_lt hul hvl hzl hk
          obtain ⟨T, hT⟩ : ∃ T, u * v + z + k = T := ⟨_, rfl⟩
          rw [hT] at hmr hT1 hT2
          have huv : u * v ≤ 18446744065119617025 := Nat.mul_le_mul (by omega : u ≤ 4294967295) (by omega : v ≤ 4294967295)
          have hw1 : IntKind.u64.wrap ((u : Int) * (v : Int)) = ((u * v : Nat) : Int) := by
            rw [← Int.natCast_mul]
            exact IntWalk.u64_in _ (by omega)
          obtain ⟨pr, hpr⟩ : ∃ pr, u * v = pr := ⟨_, rfl⟩
          rw [hpr] at hw1 hT huv
          have hw2 : IntKind.u64.wrap ((pr : Int) + (z : Int)) = (pr : Int) + (z : Int) := IntWalk.u64_in _ (by omega)
          have hw3 : IntKind.u64.wrap ((pr : Int) + (z : Int) + (k : Int)) = (T : Int) := by rw [IntWalk.u64_in _ (by omega)]; omega
          have hw4 : IntKind.i64.wrap ((i : Int) + (j : Int)) = (i : Int) + (j : Int) := IntWalk.i64_in _ (by omega)
          have hw5 : ((i : Int) + (j : Int)).toNat = i + j := by omega
          have hw6 : 0 ≤ (i : Int) + (j : Int) := by omega
          have hw7 : (i : Int) + (j : Int) < (n : Int) := by omega
          have HV2 := hide hmr
          obtain ⟨hos, hgs⟩ := hown.stored (i + j) (.int .u32 ((T % 4294967296 : Nat) : Int))
          rw [uv_set] at hos
          have hbs := hbr.setCell (p := ⟨w.heap.size, i + j, none⟩) (Nat.le_refl _) (.int .u32 ((T % 4294967296 : Nat) : Int))
          have eS : ((T % 4294967296 : Nat) : Int) = (T : Int) % 4294967296 := by omega
          rw [eS] at hos hbs
          have hok : Hid (Ok (P.set (i + j) (T % 4294967296))) := HP.out.set _ (Nat.mod_lt _ (by omega))
          have hzz : Hid ((P.set (i + j) (T % 4294967296))[i + b.length]? = some 0) := by
            show _ = _
            rw [List.getElem?_set_ne (by omega)]; exact HZ.out
          clear hc2 hz hv hpr hT hmr eS
          go_wp2_with fail
          go_roundw
          case rel => exact ⟨j + 1, T / 4294967296, P.set (i + j) (T % 4294967296), by omega, hT2, by go_num, by congr 1, by show _ = _; rw [List.length_set]; exact HPL.out, hok, hzz, HV2.out, hos, hbs⟩
          case measure => simp [intOf]; omega
        · have hjb : j = b.length := by omega
          have HJ := hide hjb
          have hib : i + b.length < n := by omega
          have cz : wr.cell? ⟨w.heap.size, i + b.length, none⟩ = some (.int .u32 (0 : Nat)) := (hown.cellAt (i + b.length) (by omega)).trans (uv_get HZ.out)
          have fz := hown.frozenAt (i + b.length)
          obtain ⟨hos, hgs⟩ := hown.stored (i + b.length) (.int .u32 (k : Int))
          rw [uv_set] at hos
          have hbs := hbr.setCell (p := ⟨w.heap.size, i + b.length, none⟩) (Nat.le_refl _) (.int .u32 (k : Int))
          have hok : Hid (Ok (P.set (i + b.length) k)) := HP.out.set _ hk
          have hval : Hid (lval (P.set (i + b.length) k) = lval (a.take (i + 1)) * y) := by
            show _ = _
            have h1 := HV.out
            rw [HJ.out] at h1
            rw [mul_last h1 HZ.out, lval_take_all (Nat.le_refl _), HVB.out, lval_take_at HU.out]
            grind
          clear hjb
          go_wp2_with fail
          go_roundw
          case rel => exact ⟨i + 1, P.set (i + b.length) k, by omega, by go_num, by show _ = _; rw [List.length_set]; exact HPL.out, hok, hval, hos, hbs⟩
          case measure => simp [intOf]; omega
    · have hfin : Hid (lval O = x * y) := by
        show _ = _
        rw [HV.out, lval_take_all (by omega), HVA.out]
      have HL := hide (LAt.of_own hown HO.out)
      have hb3 := HB0.out.trans (hbr.mono HB0.out.size)
      go_wp2_with fail
      refine (text_any O _ _ _ _ HL.out HOL.out (by omega)).mono ?_
      rintro e w3 ⟨rfl, hb5⟩
      rw [hfin.out]
      go_wp2_with fail
      go_ret
      exact ⟨rfl, below_next hb3 hb5⟩
end Go.Proofs.YthppojbabkljpaaGreatDoor.PnF
