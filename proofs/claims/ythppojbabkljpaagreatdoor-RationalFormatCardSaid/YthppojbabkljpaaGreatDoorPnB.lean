/- The walks of the program's parse and text of limbs. -/
import Derived.Test.YthppojbabkljpaaGreatDoorPnA
namespace Go.Proofs.YthppojbabkljpaaGreatDoor.PnB
open Go.RowKit RnA RnB RnS RnC RnK RnM RnL RnN RnD RnE RnQ RnR RnP RnW RoA RoB RoC RoD RoE RoF RoG RoH RoI RoL PnA
set_option maxHeartbeats 2000000 in
set_option maxRecDepth 100000 in
theorem parse_any (t : ByteArray) (w : World) (htl : t.size ≤ 1000000) :
    Calls Tryz.prog 109 #[.string t] w (LPost (limbs (nv t)) w) := by
  obtain ⟨i0, hi0, hz0, hz1, hz2⟩ := info_parts u32Info
  have p0 : IntKind.i64.wrap ((t.size : Int) + 4 - 1) = (t.size : Int) + 3 := by rw [IntWalk.i64_in _ (by omega)]; omega
  go_enter Tryz.func109, Tryz.ntmps109
  go_wp2_with (first
    | (at_make
       refine wpList_make_full _ rfl (.tmp 9) (.tmp 9) 88 rfl w.heap.size 52 i0 _ 1 Tryz.underlying88 hi0 hz0 hz1 .i64 .i64 _ _ ((t.size + 3) / 4) rfl rfl ?c1 ?c2 ?c3 ?c4 ?c5 ?_
       case c1 => omega
       case c2 => omega
       case c3 => rw [hz2]; omega
       case c4 => unfold maxLen; omega
       case c5 => exact Nat.le_refl _
       intro w2 hown hg))
  rw [made_uv] at hown
  have hb2 : Below w.heap.size w w2 := (Below.refl _ _).grown hg (Nat.le_refl _) (by simp)
  have hgl : w.heap.size < w2.heap.size := (hown.lt _ rfl).2
  clear hg
  go_loopw [13] (fun vi wr => ∃ (i : Nat) (out : List Nat), i ≤ t.size ∧ vi = .int .i64 i ∧ out.length = (t.size + 3) / 4 ∧ Hid (Ok out) ∧ Hid (lval out = bval (t.data.toList.drop (t.size - i))) ∧ wr.ownsRow w.heap.size 52 1 (.slice (some ⟨w.heap.size, 0, none⟩) ((t.size + 3) / 4) ((t.size + 3) / 4)) ((t.size + 3) / 4) (uv out) ∧ Below w.heap.size w wr) (fun vi _ => t.size - (intOf vi).toNat)
  case atStart => exact ⟨0, List.replicate ((t.size + 3) / 4) 0, by omega, rfl, by simp, Ok.replicate _, by show _ = _; rw [lval_replicate, Nat.sub_zero, List.drop_eq_nil_of_le (by simp)]; rfl, hown, hb2⟩
  case round =>
    obtain ⟨i, out, hi, rfl, hol, HO, HV, hown, hbr⟩ := hrel
    by_cases hlt : i < t.size
    · obtain ⟨x, hx⟩ : ∃ x, out[i / 4]? = some x := ⟨_, List.getElem?_eq_getElem (by omega)⟩
      have cx : wr.cell? ⟨w.heap.size, i / 4, none⟩ = some (.int .u32 (x : Int)) := (hown.cellAt (i / 4) (by omega)).trans (uv_get hx)
      have fx := hown.frozenAt (i / 4)
      obtain ⟨c, hc⟩ : ∃ c, t.data.toList[t.size - 1 - i]? = some c := ⟨_, List.getElem?_eq_getElem (by simp; omega)⟩
      have hix := index_at t ((t.size : Int) - 1 - (i : Int)) (t.size - 1 - i) c (by omega) hc
      have HC := hide hc
      clear hc
      have HX := hide hx
      clear hx
      go_wp2_with fail
      go_region
      have hsm : x < 256 ^ (i % 4) := by
        refine limb_small ?_ HX.out
        rw [HV.out]
        refine Nat.lt_of_lt_of_le (bval_lt _) (Nat.pow_le_pow_right (by omega) ?_)
        simp
        omega
      have hcl := c.toNat_lt
      have hor := or_byte hsm hcl (Nat.mod_lt i (by omega))
      obtain ⟨hos, hgs⟩ := hown.stored (i / 4) (.int .u32 ((x + c.toNat * 256 ^ (i % 4) : Nat) : Int))
      rw [uv_set] at hos
      have hbs := hbr.setCell (p := ⟨w.heap.size, i / 4, none⟩) (Nat.le_refl _) (.int .u32 ((x + c.toNat * 256 ^ (i % 4) : Nat) : Int))
      have hval : Hid (lval (out.set (i / 4) (x + c.toNat * 256 ^ (i % 4))) = bval (t.data.toList.drop (t.size - (i + 1)))) := by
        show _ = _
        have h1 : t.size - (i + 1) = t.size - 1 - i := by omega
        rw [h1, lval_put HX.out, HV.out, bval_drop HC.out, show t.size - 1 - i + 1 = t.size - i by omega]
        have h2 : t.data.toList.length - (t.size - i) = i := by simp; omega
        rw [h2]; omega
      have hok : Hid (Ok (out.set (i / 4) (x + c.toNat * 256 ^ (i % 4)))) := HO.out.set _ (byte_fit hsm hcl (Nat.mod_lt i (by omega)))
      have HOR := Lib.hid hor
      clear hix cx fx hor
      rw [HOR.out]
      go_wp2_with fail
      go_roundw
      case rel => exact ⟨i + 1, _, by omega, by go_num, by rw [List.length_set]; exact hol, hok, hval, hos, hbs.drew⟩
      case measure => simp [intOf]; omega
    · have hv : Hid (lval out = nv t) := by
        show _ = _
        rw [HV.out, show t.size - i = 0 by omega, List.drop_zero]; rfl
      have hL := LAt.of_own hown HO.out
      obtain ⟨hL2, hle⟩ := LAt.strip hL
      rw [hv.out] at hL2 hle
      have hcap := own_cap hown
      have H1 := hide hL
      have H2 := hide hL2
      clear hL hL2
      go_wp2_with fail
      refine (trim_any out _ _ _ _ hol H1.out (Nat.le_refl _)).mono ?_
      rintro e w3 ⟨rfl, rfl⟩
      rw [hv.out]
      go_wp2_with fail
      go_ret
      exact ⟨_, _, rfl, by omega, hcap.2, H2.out, hbr⟩
theorem low_step {V L k : Nat} {b : List UInt8} {c : UInt8} (h : bval (b.drop (L - k)) = V % 256 ^ k) (hl : b.length = L) (hk : k < L) (hc : c.toNat = V / 256 ^ k % 256) :
    bval ((b.set (L - 1 - k) c).drop (L - (k + 1))) = V % 256 ^ (k + 1) := by
  have e : L - (k + 1) = L - 1 - k := by omega
  rw [e, RnA.drop_at (x := c) (by rw [List.getElem?_set_self (by omega)]), List.drop_set_of_lt (by omega), bval, show L - 1 - k + 1 = L - k by omega, h, hc, List.length_drop, hl, show L - (L - k) = k by omega, Nat.mod_pow_succ]
  omega
set_option maxHeartbeats 2000000 in
set_option maxRecDepth 100000 in
theorem text_any (l : List Nat) (A : Option Addr) (n c : Nat) (w : World) (h : LAt w w.heap.size A l) (hn : l.length = n) (hl : n ≤ 1000000) :
    Calls Tryz.prog 111 #[.slice A n c] w (SPost (bs (lval l)) w) := by
  obtain ⟨i0, hi0, hz0, hz1, hz2⟩ := info_parts u8Info
  have H := hide h
  have HN := hide hn
  clear h hn
  go_enter Tryz.func111, Tryz.ntmps111
  go_wp2_with (first
    | (at_make
       refine wpList_make_full _ rfl (.tmp 7) (.tmp 7) 57 rfl w.heap.size 5 i0 _ 1 Tryz.underlying57 hi0 hz0 hz1 .i64 .i64 _ _ (n * 4) rfl rfl ?c1 ?c2 ?c3 ?c4 ?c5 ?_
       case c1 => omega
       case c2 => omega
       case c3 => rw [hz2]; omega
       case c4 => unfold maxLen; omega
       case c5 => exact Nat.le_refl _
       intro w2 hown hg))
  rw [made_bv] at hown
  have hb2 : Below w.heap.size w w2 := (Below.refl _ _).grown hg (Nat.le_refl _) (by simp)
  clear hg
  generalize hL : n * 4 = L at hown
  have HLL := hide hL
  have hLm : L ≤ 4000000 := by omega
  have hLn : (n : Int) * 4 = (L : Int) := by omega
  clear hL
  go_loopw [11] (fun vi wr => ∃ (i : Nat) (b : List UInt8), i ≤ L ∧ vi = .int .i64 i ∧ Hid (b.length = L) ∧ Hid (bval (b.drop (L - i)) = lval l % 256 ^ i) ∧ wr.ownsRow w.heap.size 5 1 (.slice (some ⟨w.heap.size, 0, none⟩) L L) L (bv b) ∧ Below w.heap.size w wr) (fun vi _ => L - (intOf vi).toNat)
  case atStart => exact ⟨0, List.replicate L 0, by omega, rfl, by show _ = _; simp, by show _ = _; rw [List.drop_eq_nil_of_le (by simp)]; simp [bval, Nat.mod_one], hown, hb2⟩
  case round =>
    obtain ⟨i, b, hi, rfl, HB, HV, hown, hbr⟩ := hrel
    by_cases hlt : i < L
    · obtain ⟨x, hx⟩ : ∃ x, l[i / 4]? = some x := ⟨_, List.getElem?_eq_getElem (by have := HN.out; have := HLL.out; omega)⟩
      obtain ⟨b1, o1, rfl, hb1, hc1⟩ := (H.out.below hbr).2.2 (by have := HN.out; have := HLL.out; omega)
      have c1 := hc1 _ x hx
      have fz := hown.frozenAt (L - 1 - i)
      obtain ⟨z, hz⟩ : ∃ z, b[L - 1 - i]? = some z := ⟨_, List.getElem?_eq_getElem (by have := HB.out; omega)⟩
      have cz : wr.cell? ⟨w.heap.size, L - 1 - i, none⟩ = some (.int .u8 (z.toNat : Int)) := (hown.cellAt (L - 1 - i) (by omega)).trans (bv_get hz)
      have hbyte := lval_byte H.out.ok hx
      have hin : i / 4 < n := by have := HLL.out; omega
      have hxl := H.out.ok.at_ hx
      have HBY := hide hbyte
      obtain ⟨y, hy⟩ : ∃ y, x / 256 ^ (i % 4) = y := ⟨_, rfl⟩
      have hyl : y < 4294967296 := by rw [← hy]; exact Nat.lt_of_le_of_lt (Nat.div_le_self _ _) hxl
      have p1 : (x : Int) / 2 ^ (8 * (i % 4)) = (y : Int) := by
        rw [← hy, ← pow256]; simp
      rw [hy] at HBY
      have hcy : (UInt8.ofNat (y % 256)).toNat = y % 256 := toNat_ofNat (Nat.mod_lt _ (by omega))
      have hval : Hid (bval ((b.set (L - 1 - i) (UInt8.ofNat (y % 256))).drop (L - (i + 1))) = lval l % 256 ^ (i + 1)) :=
        low_step HV.out HB.out hlt (by rw [hcy, HBY.out])
      obtain ⟨hos, hgs⟩ := hown.stored (L - 1 - i) (.int .u8 (((UInt8.ofNat (y % 256)).toNat : Nat) : Int))
      rw [bv_set] at hos
      have hbs := hbr.setCell (p := ⟨w.heap.size, L - 1 - i, none⟩) (Nat.le_refl _) (.int .u8 (((UInt8.ofNat (y % 256)).toNat : Nat) : Int))
      have e3 : (((UInt8.ofNat (y % 256)).toNat : Nat) : Int) = (y : Int) % 256 := by rw [hcy]; omega
      rw [e3] at hos hbs
      have hlen : Hid ((b.set (L - 1 - i) (UInt8.ofNat (y % 256))).length = L) := by show _ = _; rw [List.length_set]; exact HB.out
      have p3 : ((L : Int) - 1 - (i : Int)).toNat = L - 1 - i := by omega
      have p4 : 0 ≤ (L : Int) - 1 - (i : Int) := by omega
      have p5 : (L : Int) - 1 - (i : Int) < (L : Int) := by omega
      clear hc1 hx hz hbyte hy hcy e3
      go_wp2_with fail
      go_roundw
      case rel => exact ⟨i + 1, _, by omega, by go_num, hlen, hval, hos, hbs⟩
      case measure => simp [intOf]; omega
    · obtain rfl : i = L := by omega
      have hnv : Hid (bs (nv ⟨b.toArray⟩) = bs (lval l)) := by
        show _ = _
        congr 1
        show bval b = lval l
        have h := HV.out
        rw [Nat.sub_self, List.drop_zero] at h
        rw [h, Nat.mod_eq_of_lt]
        have h2 := lval_lt H.out.ok
        rw [HN.out] at h2
        rw [← HLL.out, Nat.mul_comm, pow4]
        exact h2
      have hv0 : ¬ (Value.slice (some ⟨w.heap.size, 0, none⟩) i i = .slice none 0 0) := by simp
      obtain ⟨g2, c2, hv, hcv⟩ := conv_own hown hv0
      injection hv with hv1 hv2 hv3
      injection hv1 with hv1
      injection hv1 with hv1
      subst hv1; subst hv3
      clear hv2
      rw [HB.out] at hcv
      have hsz : (⟨b.toArray⟩ : ByteArray).size ≤ 9223372036854775807 := by
        have := HB.out
        simp [ByteArray.size]; omega
      have HSZ := hide hsz
      clear hv0 hsz
      go_wp2_with fail
      refine (norm_any _ _ HSZ.out).mono ?_
      rintro e w3 ⟨rfl, rfl⟩
      rw [hnv.out]
      go_wp2_with fail
      go_ret
      exact ⟨rfl, hbr⟩
end Go.Proofs.YthppojbabkljpaaGreatDoor.PnB
