/- The walks of the reference's value, written. -/
import Derived.Test.YthppojbabkljpaaGreatDoorRoL
namespace Go.Proofs.YthppojbabkljpaaGreatDoor.RoM
open Go.RowKit RnA RnB RnS RnC RnK RnM RnL RnN RnD RnE RnQ RnR RnP RnW RoA RoB RoC RoD RoE RoF RoG RoH RoI RoL
theorem digs_at {s : ByteArray} {i : Nat} {c : UInt8} (h : digs s.data.toList = true) (hc : s.data.toList[i]? = some c) : 48 ≤ c.toNat ∧ c.toNat ≤ 57 := digs_mem h (List.mem_of_getElem? hc)
theorem dec_take {s : ByteArray} {i : Nat} {c : UInt8} (hc : s.data.toList[i]? = some c) : dec (s.data.toList.take (i + 1)) = 10 * dec (s.data.toList.take i) + (c.toNat - 48) := by
  rw [List.take_add_one, hc]
  exact dec_snoc _ _
set_option maxHeartbeats 4000000 in
set_option maxRecDepth 100000 in
theorem rvalue_any (s : ByteArray) (w : World) (hs : s.size ≤ 100000) (hd : digs s.data.toList = true) :
    Calls Tryz.prog 72 #[.string s] w (LPost (limbs (dec s.data.toList)) w) := by
  obtain ⟨i0, hi0, hz0, hz1, hz2⟩ := info_parts u32Info
  have HD := hide hd
  clear hd
  go_enter Tryz.func72, Tryz.ntmps72
  go_wp2_with fail
  go_loopw [3, 4] (fun vl vi wr => ∃ (i n : Nat) (out : List Nat), i ≤ s.size ∧ n ≤ i ∧ vi = .int .i64 i ∧ Hid (out.length = n) ∧ Hid (Ok out) ∧ Hid (Cn out) ∧ Hid (lval out = dec (s.data.toList.take i)) ∧ wr.ownsRow w.heap.size 52 1 vl n (uv out) ∧ Below w.heap.size w wr) (fun _ vi _ => s.size - (intOf vi).toNat)
  case atStart => exact ⟨0, 0, [], by omega, by omega, rfl, rfl, Ok.nil, .inl rfl, by show _ = _; simp [lval, dec], World.ownsRow_nil _ _ _ _, Below.refl _ _⟩
  case round =>
    obtain ⟨i, n, out, hi, hni, rfl, HL, HO, HC, HV, hown, hbr⟩ := hrel
    obtain ⟨A, cp, rfl⟩ := own_slice hown
    by_cases hlt : i < s.size
    · obtain ⟨c, hc⟩ : ∃ c, s.data.toList[i]? = some c := ⟨_, List.getElem?_eq_getElem (by simpa using hlt)⟩
      have hix := index_at s (i : Int) i c rfl hc
      obtain ⟨hc1, hc2⟩ := digs_at HD.out hc
      obtain ⟨d, hdd⟩ : ∃ d, c.toNat - 48 = d := ⟨_, rfl⟩
      have hdt := hide (dec_take hc)
      rw [hdd] at hdt
      have hdl : d ≤ 9 := by omega
      have p1 : (c.toNat : Int) - 48 = (d : Int) := by omega
      have HNX := hide (dec_take hc)
      clear hc hdd
      obtain ⟨wo, rfl⟩ : ∃ wo : World, wo = wr := ⟨_, rfl⟩
      go_wp2_with fail
      go_loopw [5, 6] (fun vc vk wr => ∃ (k cc : Nat) (W : List Nat), k ≤ n ∧ cc < 4294967296 ∧ vk = .int .i64 k ∧ vc = .int .u64 cc ∧ Hid (MulAdd 10 d out W k cc) ∧ Hid (Ok W) ∧ wr.ownsRow w.heap.size 52 1 (.slice A n cp) n (uv W) ∧ Below w.heap.size w wr) (fun _ vk _ => n - (intOf vk).toNat)
      case atStart => exact ⟨0, d, out, by omega, by omega, rfl, rfl, MulAdd.start _ _ _, HO.out, hown, hbr⟩
      case round =>
        clear hown hbr
        obtain ⟨k, cc, W, hk, hcc, rfl, rfl, HM, HW, hown, hbr⟩ := hrel
        by_cases hkn : k < n
        · obtain ⟨g, cg, hA, _, hgl⟩ := hown.form (by omega)
          cases hA
          have hWl : W.length = n := by rw [HM.out.1, HL.out]
          obtain ⟨x, hx⟩ : ∃ x, W[k]? = some x := ⟨_, List.getElem?_eq_getElem (by omega)⟩
          have hx0 : out[k]? = some x := by rw [← getElem?_of_drop HM.out.2.1]; exact hx
          have hxl := HW.out.at_ hx
          have cx : wr.cell? ⟨g, k, none⟩ = some (.int .u32 (x : Int)) := (hown.cellAt k (by omega)).trans (uv_get hx)
          have fx := hown.frozenAt k
          have hstep := MulAdd.step HM.out hx0
          obtain ⟨T, hT⟩ : ∃ T, x * 10 + cc = T := ⟨_, rfl⟩
          rw [hT] at hstep
          have hTl : T < 47244640256 := by omega
          have p2 : (cc : Int) + (x : Int) * 10 = (T : Int) := by omega
          obtain ⟨D, hD⟩ : ∃ D, T % 4294967296 = D := ⟨_, rfl⟩
          rw [hD] at hstep
          have hDl : D < 4294967296 := by omega
          have p3 : (T : Int) % 4294967296 = (D : Int) := by omega
          have HM2 := hide hstep
          have HW2 : Hid (Ok (W.set k D)) := HW.out.set _ hDl
          obtain ⟨hos, hgs⟩ := hown.stored k (.int .u32 (D : Int))
          rw [uv_set] at hos
          have hbs := hbr.setCell (p := ⟨g, k, none⟩) (by assumption) (.int .u32 (D : Int))
          clear hx hx0 hstep hT hD hWl
          go_wp2_with fail
          go_roundw
          case rel => exact ⟨k + 1, T / 4294967296, _, by omega, by omega, by go_num, by go_num, HM2, HW2, hos, hbs⟩
          case measure => simp [intOf]; omega
        · obtain rfl : k = n := by omega
          by_cases hc0 : 0 < cc
          · have hfin : Hid (lval (W ++ [cc]) = dec (s.data.toList.take (i + 1))) := by
              show _ = _
              have h := HM.out
              rw [← HL.out] at h
              rw [h.fin1, HV.out, hdt.out]
            have hcn : Hid (Cn (W ++ [cc])) := cn_snoc hc0
            have hok : Hid (Ok (W ++ [cc])) := HW.out.append (Ok.cons hcc Ok.nil)
            have hlen : Hid ((W ++ [cc]).length = k + 1) := by show _ = _; rw [List.length_append, HM.out.1, HL.out]; rfl
            have p4 : (cc : Int) % 4294967296 = (cc : Int) := by omega
            go_wp2_with (first
              | (at_builtin
                 refine wpList_append_own _ rfl (.tmp 41) (.tmp 44) 71 rfl w.heap.size 52 i0 _ 1 4 Tryz.underlying71 hi0 hz0 hz1 hz2 rfl (by decide) _ _ _ rfl (hown.alloc _) ⟨wr.heap.size, 0, none⟩ 1 1 [.int .u32 (cc : Int)] rfl rfl ?c1 ?c2 ?c3 ?c4 ?c5 ?_
                 case c1 => exact cells_new _ [.int .u32 (cc : Int)] _
                 case c2 => simp [Value.oneCell']
                 case c3 => unfold maxLen; omega
                 case c4 => omega
                 case c5 => have := hbr.size; simp; omega
                 intro v1 w1 hown1 hg1 _))
            have eT : [Value.int .u32 (cc : Int)] = uv [cc] := by simp [uv]
            rw [eT, ← uv_append] at hown1
            go_roundw
            case rel =>
              refine ⟨i + 1, k + 1, W ++ [cc], by omega, by omega, by go_num, hlen, hok, hcn, hfin, hown1, ?_⟩
              refine (hbr.alloc hbr.size _).grown hg1 (by have := hbr.size; simp; omega) ?_
              intro g hg
              exact (hown.lt g hg).1
            case measure => simp [intOf]; omega
          · obtain rfl : cc = 0 := by omega
            have hfin : Hid (lval W = dec (s.data.toList.take (i + 1))) := by
              show _ = _
              have h := HM.out
              rw [← HL.out] at h
              rw [h.fin0, HV.out, hdt.out]
            have hcn : Hid (Cn W) := by
              have h := HM.out
              rw [← HL.out] at h
              exact h.cn0 (by omega) HC.out
            have hlen : Hid (W.length = k) := by show _ = _; rw [HM.out.1, HL.out]
            go_wp2_with fail
            go_roundw
            case rel => exact ⟨i + 1, k, W, by omega, by omega, by go_num, hlen, HW, hcn, hfin, hown, hbr⟩
            case measure => simp [intOf]; omega
    · have hfin : Hid (out = limbs (dec s.data.toList)) := by
        show _ = _
        have h := HV.out
        rw [List.take_of_length_le (by simp; omega)] at h
        rw [← h]
        exact HC.out.limbs HO.out
      have hL := LAt.of_own hown HO.out
      have hcap := own_cap hown
      have hn := HL.out
      go_wp2_with fail
      go_ret
      rw [hfin.out] at hL hn
      subst hn
      exact ⟨_, _, rfl, hcap.1, hcap.2, hL, hbr⟩
end Go.Proofs.YthppojbabkljpaaGreatDoor.RoM
