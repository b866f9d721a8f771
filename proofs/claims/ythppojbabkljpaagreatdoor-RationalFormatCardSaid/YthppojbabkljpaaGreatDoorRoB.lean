/- The walks of the reference's limbs and text. -/
import Derived.Test.YthppojbabkljpaaGreatDoorRoA
import Derived.BigRegion
namespace Go.Proofs.YthppojbabkljpaaGreatDoor.RoB
open Go.RowKit RnA RnB RnS RnC RnM RnL RnN RnW RoA
theorem u32Info : (Tryz.prog.info? 52).map (fun i => (i.zero, i.size, i.bytes)) = some (some (.int .u32 0), 1, 4) := by kernel_rfl
theorem u8Info : (Tryz.prog.info? 5).map (fun i => (i.zero, i.size, i.bytes)) = some (some (.int .u8 0), 1, 1) := by kernel_rfl
theorem bytes_ge {n : Nat} (h : n ≠ 0) : 256 ^ ((bytesOf n).length - 1) ≤ n := by
  rcases Nat.lt_or_ge n (256 ^ ((bytesOf n).length - 1)) with h1 | h1
  · have h2 := bytesOf_len_le h1
    have h3 : (bytesOf n).length ≠ 0 := fun e => h (bytesOf_nil.1 (List.eq_nil_of_length_eq_zero e))
    omega
  · exact h1
/-- a byte of a string, at an index that is reckoned -/
theorem index_at (t : ByteArray) (n : Int) (j : Nat) (c : UInt8) (hn : n = (j : Int)) (hj : t.data.toList[j]? = some c) (W : World) :
    (Instr.index 9 (.string t) (.int .i64 n)).run Tryz.prog W = .ok (.int .u8 (c.toNat : Int)) W := by
  subst hn
  have hl : j < t.size := by
    have := (List.getElem?_eq_some_iff.1 hj).1
    simpa using this
  have hc : t[j] = c := by
    have h := get_byte hl
    rw [hj] at h
    injection h with h
    exact h.symm
  rw [run_index_string (h := Tryz.underlying9), dif_pos ⟨by omega, by omega⟩]
  simp [hc]
theorem pow256 (m : Nat) : 2 ^ (8 * m) = 256 ^ m := by rw [Nat.pow_mul]
theorem byte_fit {x c m : Nat} (hx : x < 256 ^ m) (hc : c < 256) (hm : m < 4) : x + c * 256 ^ m < 4294967296 := by
  have h1 : c * 256 ^ m ≤ 255 * 256 ^ m := Nat.mul_le_mul_right _ (by omega)
  have h2 : 256 ^ m ≤ 256 ^ 3 := Nat.pow_le_pow_right (by omega) (by omega)
  have h3 : (256 : Nat) ^ 3 = 16777216 := rfl
  omega
theorem or_byte {x c m : Nat} (hx : x < 256 ^ m) (hc : c < 256) (hm : m < 4) : bits BinOp.or IntKind.u32 (x : Int) ((c : Int) % 4294967296 * 2 ^ (8 * m) % 4294967296) = ((x + c * 256 ^ m : Nat) : Int) := by
  have hf := byte_fit hx hc hm
  have e0 : (c : Int) % 4294967296 * 2 ^ (8 * m) % 4294967296 = ((c * 256 ^ m : Nat) : Int) := by
    have h1 : (c : Int) % 4294967296 = (c : Int) := by omega
    rw [h1]
    have h2 : (c : Int) * 2 ^ (8 * m) = ((c * 256 ^ m : Nat) : Int) := by rw [← pow256]; simp
    rw [h2]
    omega
  rw [e0, u32_or_nat _ _ (by omega) (by omega), Nat.mul_comm c, ← pow256, or_low (by rw [pow256]; exact hx)]
/-- four bytes a limb -/
theorem sz_bytesOf (n : Nat) : sz n = ((bytesOf n).length + 3) / 4 := by
  by_cases h0 : n = 0
  · subst h0; rw [bytesOf_zero, sz_zero]; rfl
  · have h1 : sz n ≤ ((bytesOf n).length + 3) / 4 := by
      have := sz_bytes (l := bytesOf n) (k := ((bytesOf n).length + 3) / 4) (by omega)
      rwa [bval_bytesOf] at this
    have h2 := bytes_ge h0
    have h3 : (bytesOf n).length ≠ 0 := fun e => h0 (bytesOf_nil.1 (List.eq_nil_of_length_eq_zero e))
    rcases Nat.lt_or_ge (sz n) (((bytesOf n).length + 3) / 4) with h4 | h4
    · exfalso
      have h5 := sz_lt n
      have h6 : 4294967296 ^ sz n ≤ 256 ^ ((bytesOf n).length - 1) := by
        rw [← pow4]
        exact Nat.pow_le_pow_right (by omega) (by omega)
      omega
    · omega
set_option maxHeartbeats 2000000 in
set_option maxRecDepth 100000 in
theorem rlimbs_any (s : ByteArray) (w : World) (hs : s.size ≤ 1000000) :
    Calls Tryz.prog 79 #[.string s] w (LPost (limbs (nv s)) w) := by
  obtain ⟨i0, hi0, hz0, hz1, hz2⟩ := info_parts u32Info
  obtain ⟨t, ht⟩ : ∃ t, bs (nv s) = t := ⟨_, rfl⟩
  have hT : t.data.toList = bytesOf (nv s) := by rw [← ht]; rfl
  have hts : t.size = (bytesOf (nv s)).length := by rw [← ht]; exact bs_size _
  have htl : t.size ≤ 1000000 := by
    rw [hts]
    have h := bval_lt s.data.toList
    have h2 : (bytesOf (nv s)).length ≤ s.data.toList.length := bytesOf_len_le h
    have h3 : s.data.toList.length = s.size := by simp
    omega
  have HT := hide hT
  have HTS := Lib.hid hts
  have HTE := Lib.hid ht
  clear hT hts ht
  go_enter Tryz.func79, Tryz.ntmps79
  go_wp2_with fail
  refine (normalize_any s _ (by omega)).mono ?_
  rintro e w1 ⟨rfl, rfl⟩
  rw [HTE.out]
  go_wp2_with (first
    | (at_make
       refine wpList_make_full _ rfl (.tmp 10) (.tmp 10) 71 rfl w.heap.size 52 i0 _ 1 Tryz.underlying71 hi0 hz0 hz1 .i64 .i64 _ _ ((t.size + 3) / 4) rfl rfl ?c1 ?c2 ?c3 ?c4 ?c5 ?_
       case c1 => omega
       case c2 => omega
       case c3 => rw [hz2]; omega
       case c4 => unfold maxLen; omega
       case c5 => exact Nat.le_refl _
       intro w2 hown hg))
  rw [made_uv] at hown
  have hb2 : Below w.heap.size w w2 := (Below.refl _ _).grown hg (Nat.le_refl _) (by simp)
  have hgl : w.heap.size < w2.heap.size := (hown.lt _ rfl).2
  clear hg
  go_loopw [4] (fun vi wr => ∃ (i : Nat) (out : List Nat), i ≤ t.size ∧ vi = .int .i64 i ∧ out.length = (t.size + 3) / 4 ∧ Hid (Ok out) ∧ Hid (lval out = bval (t.data.toList.drop (t.size - i))) ∧ wr.ownsRow w.heap.size 52 1 (.slice (some ⟨w.heap.size, 0, none⟩) ((t.size + 3) / 4) ((t.size + 3) / 4)) ((t.size + 3) / 4) (uv out) ∧ Below w.heap.size w wr) (fun vi _ => t.size - (intOf vi).toNat)
  case atStart => exact ⟨0, List.replicate ((t.size + 3) / 4) 0, by omega, rfl, by simp, Ok.replicate _, by show _ = _; rw [lval_replicate, Nat.sub_zero, List.drop_eq_nil_of_le (by simp)]; rfl, hown, hb2⟩
  case round =>
    obtain ⟨i, out, hi, rfl, hol, HO, HV, hown, hbr⟩ := hrel
    by_cases hlt : i < t.size
    · obtain ⟨x, hx⟩ : ∃ x, out[i / 4]? = some x := ⟨_, List.getElem?_eq_getElem (by omega)⟩
      have cx : wr.cell? ⟨w.heap.size, i / 4, none⟩ = some (.int .u32 (x : Int)) := (hown.cellAt (i / 4) (by omega)).trans (uv_get hx)
      have fx := hown.frozenAt (i / 4)
      obtain ⟨c, hc⟩ : ∃ c, t.data.toList[t.size - 1 - i]? = some c := ⟨_, List.getElem?_eq_getElem (by simp; omega)⟩
      have hix := index_at t ((t.size : Int) - 1 - (i : Int)) (t.size - 1 - i) c (by omega) hc
      have HC := hide hc
      clear hc
      have HX := hide hx
      clear hx
      go_wp2_with fail
      go_region
      have hsm : x < 256 ^ (i % 4) := by
        refine limb_small ?_ HX.out
        rw [HV.out]
        refine Nat.lt_of_lt_of_le (bval_lt _) (Nat.pow_le_pow_right (by omega) ?_)
        simp
        omega
      have hcl := c.toNat_lt
      have hor := or_byte hsm hcl (Nat.mod_lt i (by omega))
      obtain ⟨hos, hgs⟩ := hown.stored (i / 4) (.int .u32 ((x + c.toNat * 256 ^ (i % 4) : Nat) : Int))
      rw [uv_set] at hos
      have hbs := hbr.setCell (p := ⟨w.heap.size, i / 4, none⟩) (Nat.le_refl _) (.int .u32 ((x + c.toNat * 256 ^ (i % 4) : Nat) : Int))
      have hval : Hid (lval (out.set (i / 4) (x + c.toNat * 256 ^ (i % 4))) = bval (t.data.toList.drop (t.size - (i + 1)))) := by
        show _ = _
        have h1 : t.size - (i + 1) = t.size - 1 - i := by omega
        rw [h1, lval_put HX.out, HV.out, bval_drop HC.out, show t.size - 1 - i + 1 = t.size - i by omega]
        have h2 : t.data.toList.length - (t.size - i) = i := by simp; omega
        rw [h2]; omega
      have hok : Hid (Ok (out.set (i / 4) (x + c.toNat * 256 ^ (i % 4)))) := HO.out.set _ (byte_fit hsm hcl (Nat.mod_lt i (by omega)))
      have HOR := Lib.hid hor
      clear hix cx fx hor
      rw [HOR.out]
      go_wp2_with fail
      go_roundw
      case rel => exact ⟨i + 1, _, by omega, by go_num, by rw [List.length_set]; exact hol, hok, hval, hos, hbs.drew⟩
      case measure => simp [intOf]; omega
    · have hfin : Hid (out = limbs (nv s)) := by
        show _ = _
        have hv : lval out = nv s := by
          rw [HV.out, show t.size - i = 0 by omega, List.drop_zero, HT.out, bval_bytesOf]
        rw [← hv]
        refine canon_of_len HO.out ?_
        rw [hol, hv, sz_bytesOf, HTS.out]
      have hL := LAt.of_own hown HO.out
      have hcap := own_cap hown
      go_wp2_with fail
      go_ret
      rw [hfin.out] at hL hol
      rw [← hol] at hcap ⊢
      exact ⟨_, _, rfl, Nat.le_refl _, hcap.2, hL, hbr⟩
end Go.Proofs.YthppojbabkljpaaGreatDoor.RoB
