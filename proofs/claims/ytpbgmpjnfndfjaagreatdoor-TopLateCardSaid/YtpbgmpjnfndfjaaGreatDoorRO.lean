/- RoA, RoB, RoC, RoD, RoE, RoF, RoG, RoH, RoI, RoL, RoM, RoN, in one text. -/
import Derived.Test.YtpbgmpjnfndfjaaGreatDoorProg
import Derived.Test.YtpbgmpjnfndfjaaGreatDoorRN
import Derived.WalkKit
import Derived.WalkSpells
import Derived.LoopTactic
import Derived.IntWalk
import Derived.Lib.Hide
import Derived.Lib.IndexBytes
import Derived.Outline
import Derived.Deep.QuietTactic
import Derived.BigQuiet
import Derived.RegionTactic
import Derived.Laws.BitsAllLaws
import Derived.BigRegion
import Derived.Lib.SlBytesRow
import Derived.Deep.DeepCutAuto
import Derived.Deep.CutBlock
namespace Go.Proofs.YtpbgmpjnfndfjaaGreatDoor.RoA
theorem here : True := trivial
open Go.RowKit RnA RnB RnS RnC RnM RnL RnN RnW
set_option maxHeartbeats 1000000000000 in
theorem strip_any (l : List Nat) (A : Option Addr) (c : Nat) (w : World) (h : LAt w w.heap.size A l) (hc : l.length ≤ c) :
    Calls Tryz.prog 200 #[.slice A l.length c] w fun e w' => e = .returned (.slice A (limbs (lval l)).length c) ∧ w = w' := by
  have hlen := h.len
  have H := hide h
  clear h
  go_enter Tryz.func200, Tryz.ntmps200
  go_wp2_with fail
  go_loop [3] (fun vn => ∃ m : Nat, m ≤ l.length ∧ vn = .int .i64 m ∧ Hid (lval (l.drop m) = 0)) (fun vn => (intOf vn).toNat)
  case atStart => exact ⟨l.length, by omega, rfl, by show lval _ = 0; rw [List.drop_length]; rfl⟩
  case round =>
    obtain ⟨m, hm, rfl, hz⟩ := hrel
    rcases Nat.eq_zero_or_pos m with h0 | h0
    · have hfin : Hid ((limbs (lval l)).length = m) := by
        show _ = m
        rw [← strip_take H.out.ok hm hz.out (by omega), take_len hm]
      subst h0
      go_wp2_with fail
      go_ret
      exact ⟨by rw [hfin.out]; rfl, rfl⟩
    · obtain ⟨j, rfl⟩ : ∃ j, m = j + 1 := ⟨m - 1, by omega⟩
      obtain ⟨x, hx⟩ : ∃ x, l[j]? = some x := ⟨_, List.getElem?_eq_getElem (by omega)⟩
      obtain ⟨b, off, rfl, hb, hcl⟩ := H.out.2.2 (by omega)
      have c0 := hcl j x hx
      have HX := hide hx
      clear hcl hx h0
      cases hx0 : ((x : Int) == 0)
      · have hfin : Hid ((limbs (lval l)).length = j + 1) := by
          show _ = j + 1
          rw [← strip_take H.out.ok hm hz.out (fun y _ hy e => by
            rw [Nat.add_sub_cancel, HX.out] at hy
            injection hy with hy
            subst hy; subst e
            simp at hx0), take_len hm]
        go_wp2_with fail
        go_ret
        exact ⟨by rw [hfin.out]; rfl, rfl⟩
      · have hz2 : Hid (lval (l.drop j) = 0) := by
          have : x = 0 := by simpa using hx0
          subst this
          exact lval_zero_at HX.out hz.out
        go_wp2_with fail
        go_round
        case rel => exact ⟨j, by omega, rfl, hz2⟩
        case measure => simp [intOf]
theorem get_byte {s : ByteArray} {k : Nat} (h : k < s.size) : s.data.toList[k]? = some s[k] := by
  rw [List.getElem?_eq_getElem (by simpa using h)]; rfl
theorem ext_bytes {a b : ByteArray} (h : a.data.toList = b.data.toList) : a = b := by
  cases a; cases b
  congr 1
  exact Array.ext' h
theorem drop_bytes (s : ByteArray) (k : Nat) : (s.extract k s.size).data.toList = s.data.toList.drop k := Lib.extract_to_end s k
theorem drop_zeros {s : ByteArray} {k : Nat} (hz : (s.data.toList.take k).all (· == 0) = true) (h : ∀ c, s.data.toList[k]? = some c → c ≠ 0) : s.extract k s.size = bs (nv s) := by
  refine ext_bytes ?_
  rw [drop_bytes]
  unfold bs nv
  show _ = bytesOf _
  rw [← dropZ_eq]
  conv => rhs; rw [← List.take_append_drop k s.data.toList, dropZ_append, if_pos hz]
  rcases hd : s.data.toList.drop k with _ | ⟨c, l⟩
  · rfl
  · have hc : c ≠ 0 := h c (by rw [← List.head?_drop, hd]; rfl)
    simp [hc]
set_option maxHeartbeats 1000000000000 in
theorem normalize_any (s : ByteArray) (w : World) (hs : s.size ≤ 9223372036854775807) :
    Calls Tryz.prog 197 #[.string s] w fun e w' => e = .returned (.string (bs (nv s))) ∧ w = w' := by
  go_enter Tryz.func197, Tryz.ntmps197
  go_wp2_with fail
  go_loop [3] (fun vn => ∃ k : Nat, k ≤ s.size ∧ vn = .int .i64 k ∧ Hid ((s.data.toList.take k).all (· == 0) = true)) (fun vn => s.size - (intOf vn).toNat)
  case atStart => exact ⟨0, by omega, rfl, by show _ = _; simp⟩
  case round =>
    obtain ⟨k, hk, rfl, hz⟩ := hrel
    by_cases hlt : k < s.size
    · have HB := hide (get_byte hlt)
      cases h0 : (((s[k]).toNat : Int) == 0)
      · have hfin : Hid (s.extract k s.size = bs (nv s)) := by
          refine drop_zeros hz.out (fun c hc e => ?_)
          rw [HB.out] at hc
          injection hc with hc
          subst hc
          rw [e] at h0
          simp at h0
        go_wp2_with fail
        go_ret
        exact ⟨by rw [← hfin.out]; rfl, rfl⟩
      · have hz2 : Hid ((s.data.toList.take (k + 1)).all (· == 0) = true) := by
          show _ = _
          have : s[k] = 0 := UInt8.toNat_inj.1 (by simpa using h0)
          rw [List.take_add_one, HB.out, List.all_append, hz.out, this]; rfl
        go_wp2_with fail
        go_round
        case rel => exact ⟨k + 1, by omega, by go_num, hz2⟩
        case measure => simp [intOf]; omega
    · have hfin : Hid (s.extract k s.size = bs (nv s)) := by
        refine drop_zeros hz.out (fun c hc => ?_)
        rw [List.getElem?_eq_none (by simp; omega)] at hc
        cases hc
      go_wp2_with fail
      go_ret
      exact ⟨by rw [← hfin.out]; rfl, rfl⟩
end Go.Proofs.YtpbgmpjnfndfjaaGreatDoor.RoA
namespace Go.Proofs.YtpbgmpjnfndfjaaGreatDoor.RoB
theorem here : True := trivial
open Go.RowKit RnA RnB RnS RnC RnM RnL RnN RnW RoA
theorem u32Info : (Tryz.prog.info? 219).map (fun i => (i.zero, i.size, i.bytes)) = some (some (.int .u32 0), 1, 4) := by kernel_rfl
theorem u8Info : (Tryz.prog.info? 5).map (fun i => (i.zero, i.size, i.bytes)) = some (some (.int .u8 0), 1, 1) := by kernel_rfl
theorem bytes_ge {n : Nat} (h : n ≠ 0) : 256 ^ ((bytesOf n).length - 1) ≤ n := by
  rcases Nat.lt_or_ge n (256 ^ ((bytesOf n).length - 1)) with h1 | h1
  · have h2 := bytesOf_len_le h1
    have h3 : (bytesOf n).length ≠ 0 := fun e => h (bytesOf_nil.1 (List.eq_nil_of_length_eq_zero e))
    omega
  · exact h1
/-- a byte of a string, at an index that is reckoned -/
theorem index_at (t : ByteArray) (n : Int) (j : Nat) (c : UInt8) (hn : n = (j : Int)) (hj : t.data.toList[j]? = some c) (W : World) :
    (Instr.index 9 (.string t) (.int .i64 n)).run Tryz.prog W = .ok (.int .u8 (c.toNat : Int)) W := by
  subst hn
  have hl : j < t.size := by
    have := (List.getElem?_eq_some_iff.1 hj).1
    simpa using this
  have hc : t[j] = c := by
    have h := get_byte hl
    rw [hj] at h
    injection h with h
    exact h.symm
  rw [run_index_string (h := Tryz.underlying9), dif_pos ⟨by omega, by omega⟩]
  simp [hc]
theorem pow256 (m : Nat) : 2 ^ (8 * m) = 256 ^ m := by rw [Nat.pow_mul]
theorem byte_fit {x c m : Nat} (hx : x < 256 ^ m) (hc : c < 256) (hm : m < 4) : x + c * 256 ^ m < 4294967296 := by
  have h1 : c * 256 ^ m ≤ 255 * 256 ^ m := Nat.mul_le_mul_right _ (by omega)
  have h2 : 256 ^ m ≤ 256 ^ 3 := Nat.pow_le_pow_right (by omega) (by omega)
  have h3 : (256 : Nat) ^ 3 = 16777216 := rfl
  omega
theorem or_byte {x c m : Nat} (hx : x < 256 ^ m) (hc : c < 256) (hm : m < 4) : bits BinOp.or IntKind.u32 (x : Int) ((c : Int) % 4294967296 * 2 ^ (8 * m) % 4294967296) = ((x + c * 256 ^ m : Nat) : Int) := by
  have hf := byte_fit hx hc hm
  have e0 : (c : Int) % 4294967296 * 2 ^ (8 * m) % 4294967296 = ((c * 256 ^ m : Nat) : Int) := by
    have h1 : (c : Int) % 4294967296 = (c : Int) := by omega
    rw [h1]
    have h2 : (c : Int) * 2 ^ (8 * m) = ((c * 256 ^ m : Nat) : Int) := by rw [← pow256]; simp
    rw [h2]
    omega
  rw [e0, u32_or_nat _ _ (by omega) (by omega), Nat.mul_comm c, ← pow256, or_low (by rw [pow256]; exact hx)]
/-- four bytes a limb -/
theorem sz_bytesOf (n : Nat) : sz n = ((bytesOf n).length + 3) / 4 := by
  by_cases h0 : n = 0
  · subst h0; rw [bytesOf_zero, sz_zero]; rfl
  · have h1 : sz n ≤ ((bytesOf n).length + 3) / 4 := by
      have := sz_bytes (l := bytesOf n) (k := ((bytesOf n).length + 3) / 4) (by omega)
      rwa [bval_bytesOf] at this
    have h2 := bytes_ge h0
    have h3 : (bytesOf n).length ≠ 0 := fun e => h0 (bytesOf_nil.1 (List.eq_nil_of_length_eq_zero e))
    rcases Nat.lt_or_ge (sz n) (((bytesOf n).length + 3) / 4) with h4 | h4
    · exfalso
      have h5 := sz_lt n
      have h6 : 4294967296 ^ sz n ≤ 256 ^ ((bytesOf n).length - 1) := by
        rw [← pow4]
        exact Nat.pow_le_pow_right (by omega) (by omega)
      omega
    · omega
set_option maxHeartbeats 2000000000000 in
set_option maxRecDepth 100000000000 in
theorem rlimbs_any (s : ByteArray) (w : World) (hs : s.size ≤ 1000000000000) :
    Calls Tryz.prog 155 #[.string s] w (LPost (limbs (nv s)) w) := by
  obtain ⟨i0, hi0, hz0, hz1, hz2⟩ := info_parts u32Info
  obtain ⟨t, ht⟩ : ∃ t, bs (nv s) = t := ⟨_, rfl⟩
  have hT : t.data.toList = bytesOf (nv s) := by rw [← ht]; rfl
  have hts : t.size = (bytesOf (nv s)).length := by rw [← ht]; exact bs_size _
  have htl : t.size ≤ 1000000000000 := by
    rw [hts]
    have h := bval_lt s.data.toList
    have h2 : (bytesOf (nv s)).length ≤ s.data.toList.length := bytesOf_len_le h
    have h3 : s.data.toList.length = s.size := by simp
    omega
  have HT := hide hT
  have HTS := Lib.hid hts
  have HTE := Lib.hid ht
  clear hT hts ht
  go_enter Tryz.func155, Tryz.ntmps155
  go_wp2_with fail
  refine (normalize_any s _ (by omega)).mono ?_
  rintro e w1 ⟨rfl, rfl⟩
  rw [HTE.out]
  go_wp2_with (first
    | (at_make
       refine wpList_make_full _ rfl (.tmp 10) (.tmp 10) 216 rfl w.heap.size 219 i0 _ 1 Tryz.underlying216 hi0 hz0 hz1 .i64 .i64 _ _ ((t.size + 3) / 4) rfl rfl ?c1 ?c2 ?c3 ?c4 ?c5 ?_
       case c1 => omega
       case c2 => omega
       case c3 => rw [hz2]; omega
       case c4 => unfold maxLen; omega
       case c5 => exact Nat.le_refl _
       intro w2 hown hg))
  rw [made_uv] at hown
  have hb2 : Below w.heap.size w w2 := (Below.refl _ _).grown hg (Nat.le_refl _) (by simp)
  have hgl : w.heap.size < w2.heap.size := (hown.lt _ rfl).2
  clear hg
  go_loopw [4] (fun vi wr => ∃ (i : Nat) (out : List Nat), i ≤ t.size ∧ vi = .int .i64 i ∧ out.length = (t.size + 3) / 4 ∧ Hid (Ok out) ∧ Hid (lval out = bval (t.data.toList.drop (t.size - i))) ∧ wr.ownsRow w.heap.size 219 1 (.slice (some ⟨w.heap.size, 0, none⟩) ((t.size + 3) / 4) ((t.size + 3) / 4)) ((t.size + 3) / 4) (uv out) ∧ Below w.heap.size w wr) (fun vi _ => t.size - (intOf vi).toNat)
  case atStart => exact ⟨0, List.replicate ((t.size + 3) / 4) 0, by omega, rfl, by simp, Ok.replicate _, by show _ = _; rw [lval_replicate, Nat.sub_zero, List.drop_eq_nil_of_le (by simp)]; rfl, hown, hb2⟩
  case round =>
    obtain ⟨i, out, hi, rfl, hol, HO, HV, hown, hbr⟩ := hrel
    by_cases hlt : i < t.size
    · obtain ⟨x, hx⟩ : ∃ x, out[i / 4]? = some x := ⟨_, List.getElem?_eq_getElem (by omega)⟩
      have cx : wr.cell? ⟨w.heap.size, i / 4, none⟩ = some (.int .u32 (x : Int)) := (hown.cellAt (i / 4) (by omega)).trans (uv_get hx)
      have fx := hown.frozenAt (i / 4)
      obtain ⟨c, hc⟩ : ∃ c, t.data.toList[t.size - 1 - i]? = some c := ⟨_, List.getElem?_eq_getElem (by simp; omega)⟩
      have hix := index_at t ((t.size : Int) - 1 - (i : Int)) (t.size - 1 - i) c (by omega) hc
      have HC := hide hc
      clear hc
      have HX := hide hx
      clear hx
      go_wp2_with fail
      go_region
      have hsm : x < 256 ^ (i % 4) := by
        refine limb_small ?_ HX.out
        rw [HV.out]
        refine Nat.lt_of_lt_of_le (bval_lt _) (Nat.pow_le_pow_right (by omega) ?_)
        simp
        omega
      have hcl := c.toNat_lt
      have hor := or_byte hsm hcl (Nat.mod_lt i (by omega))
      obtain ⟨hos, hgs⟩ := hown.stored (i / 4) (.int .u32 ((x + c.toNat * 256 ^ (i % 4) : Nat) : Int))
      rw [uv_set] at hos
      have hbs := hbr.setCell (p := ⟨w.heap.size, i / 4, none⟩) (Nat.le_refl _) (.int .u32 ((x + c.toNat * 256 ^ (i % 4) : Nat) : Int))
      have hval : Hid (lval (out.set (i / 4) (x + c.toNat * 256 ^ (i % 4))) = bval (t.data.toList.drop (t.size - (i + 1)))) := by
        show _ = _
        have h1 : t.size - (i + 1) = t.size - 1 - i := by omega
        rw [h1, lval_put HX.out, HV.out, bval_drop HC.out, show t.size - 1 - i + 1 = t.size - i by omega]
        have h2 : t.data.toList.length - (t.size - i) = i := by simp; omega
        rw [h2]; omega
      have hok : Hid (Ok (out.set (i / 4) (x + c.toNat * 256 ^ (i % 4)))) := HO.out.set _ (byte_fit hsm hcl (Nat.mod_lt i (by omega)))
      have HOR := Lib.hid hor
      clear hix cx fx hor
      rw [HOR.out]
      go_wp2_with fail
      go_roundw
      case rel => exact ⟨i + 1, _, by omega, by go_num, by rw [List.length_set]; exact hol, hok, hval, hos, hbs.drew⟩
      case measure => simp [intOf]; omega
    · have hfin : Hid (out = limbs (nv s)) := by
        show _ = _
        have hv : lval out = nv s := by
          rw [HV.out, show t.size - i = 0 by omega, List.drop_zero, HT.out, bval_bytesOf]
        rw [← hv]
        refine canon_of_len HO.out ?_
        rw [hol, hv, sz_bytesOf, HTS.out]
      have hL := LAt.of_own hown HO.out
      have hcap := own_cap hown
      go_wp2_with fail
      go_ret
      rw [hfin.out] at hL hol
      rw [← hol] at hcap ⊢
      exact ⟨_, _, rfl, Nat.le_refl _, hcap.2, hL, hbr⟩
end Go.Proofs.YtpbgmpjnfndfjaaGreatDoor.RoB
namespace Go.Proofs.YtpbgmpjnfndfjaaGreatDoor.RoC
theorem here : True := trivial
open Go.RowKit RnA RnB RnS RnC RnM RnL RnN RnW RoA RoB
theorem cells_new (w : World) (l : List Value) (t : TypeId) : ∀ j u, l[j]? = some u → (w.alloc (.cells l.toArray t)).cell? ((⟨w.heap.size, 0, none⟩ : Addr).add j) = some u := by
  intro j u h
  have e : (⟨w.heap.size, 0, none⟩ : Addr).add j = ⟨w.heap.size, j, none⟩ := by
    unfold Addr.add
    by_cases hj : j = 0 <;> simp [hj]
  rw [e]
  simp [h]
theorem bytes_of_own {w : World} {B g n c : Nat} {l : List UInt8} (h : w.ownsRow B 5 1 (.slice (some ⟨g, 0, none⟩) n c) n (bv l)) : Lib.Bytes w g 0 ⟨l.toArray⟩ := by
  have hn : n = l.length := by have := h.1; rw [bv_length] at this; omega
  subst hn
  intro k hk
  have hkl : k < l.length := by simpa [ByteArray.size] using hk
  rw [Nat.zero_add, h.cellAt k (by omega), bv_get (List.getElem?_eq_getElem hkl)]
  rfl
/-- a row of bytes of the call's own, turned into a string -/
theorem conv_own {w : World} {B n : Nat} {v : Value} {l : List UInt8} (h : w.ownsRow B 5 1 v n (bv l)) (hne : v ≠ .slice none 0 0) :
    ∃ g c, v = .slice (some ⟨g, 0, none⟩) l.length c ∧ (convert 261 9 (.slice (some ⟨g, 0, none⟩) l.length c)).run Tryz.prog w = .ok (.string ⟨l.toArray⟩) w := by
  have hn : n = l.length := by have := h.1; rw [bv_length] at this; omega
  subst hn
  rcases h.2 with ⟨h0, _⟩ | ⟨g, cap, cur, rfl, _⟩
  · exact absurd h0 hne
  · refine ⟨g, cap, rfl, ?_⟩
    have hcv := Lib.run_convert_whole (P := Tryz.prog) w 261 5 9 Tryz.underlying261 Tryz.underlying5 Tryz.underlying9 g 0 ⟨l.toArray⟩ (bytes_of_own h) cap
    have hcs : (⟨l.toArray⟩ : ByteArray).size = l.length := by simp [ByteArray.size]
    rw [hcs] at hcv
    exact hcv
theorem take_sz {l : List Nat} (h : Ok l) : l.take (sz (lval l)) = limbs (lval l) ∧ sz (lval l) ≤ l.length := by
  have hk : sz (lval l) ≤ l.length := sz_le (lval_lt h)
  refine ⟨?_, hk⟩
  have e := lval_split l (sz (lval l)) hk
  have hlt := sz_lt (lval l)
  have hz : lval (l.drop (sz (lval l))) = 0 := by
    rcases Nat.eq_zero_or_pos (lval (l.drop (sz (lval l)))) with h0 | h0
    · exact h0
    · have : 4294967296 ^ sz (lval l) * 1 ≤ 4294967296 ^ sz (lval l) * lval (l.drop (sz (lval l))) := Nat.mul_le_mul_left _ h0
      omega
  rw [hz] at e
  have e2 : lval (l.take (sz (lval l))) = lval l := by omega
  have := canon_of_len (h.take (sz (lval l))) (by rw [take_len hk, e2])
  rw [this, e2]
/-- the four bytes of a limb -/
def four (x : Nat) : List UInt8 := [UInt8.ofNat (x / 16777216), UInt8.ofNat (x / 65536 % 256), UInt8.ofNat (x / 256 % 256), UInt8.ofNat (x % 256)]
theorem bval_four {x : Nat} (h : x < 4294967296) : bval (four x) = x := by
  unfold four
  simp only [bval, List.length_cons, List.length_nil]
  rw [toNat_ofNat (by omega), toNat_ofNat (Nat.mod_lt _ (by omega)), toNat_ofNat (Nat.mod_lt _ (by omega)), toNat_ofNat (Nat.mod_lt _ (by omega))]
  omega
theorem bv_four {x : Nat} (h : x < 4294967296) : [Value.int .u8 ((x : Int) / 16777216), .int .u8 ((x : Int) / 65536 % 256), .int .u8 ((x : Int) / 256 % 256), .int .u8 ((x : Int) % 256)] = bv (four x) := by
  unfold four bv
  simp only [List.map_cons, List.map_nil]
  rw [toNat_ofNat (by omega), toNat_ofNat (Nat.mod_lt _ (by omega)), toNat_ofNat (Nat.mod_lt _ (by omega)), toNat_ofNat (Nat.mod_lt _ (by omega))]
  simp
theorem bval_four_app (l : List UInt8) {x : Nat} (h : x < 4294967296) : bval (l ++ four x) = x + 4294967296 * bval l := by
  rw [bval_append, bval_four h]
  have : (four x).length = 4 := rfl
  rw [this]
  omega
set_option maxHeartbeats 2000000000000 in
set_option maxRecDepth 100000000000 in
theorem rtext_any (l : List Nat) (A : Option Addr) (c : Nat) (w : World) (h : LAt w w.heap.size A l) (hc : l.length ≤ c) (hl : l.length ≤ 1000000000000) :
    Calls Tryz.prog 157 #[.slice A l.length c] w (SPost (bs (lval l)) w) := by
  obtain ⟨i0, hi0, hz0, hz1, hz2⟩ := info_parts u8Info
  have H := hide h
  obtain ⟨ht, hk⟩ := take_sz h.ok
  have hL := h.take (sz (lval l))
  rw [ht] at hL
  have HL := hide hL
  have hlen : (limbs (lval l)).length ≤ 1000000000000 := by have : (limbs (lval l)).length = sz (lval l) := rfl; omega
  clear h ht hL hk
  go_enter Tryz.func157, Tryz.ntmps157
  go_wp2_with fail
  refine (strip_any l A c _ H.out hc).mono ?_
  rintro e w1 ⟨rfl, rfl⟩
  have hlv := lval_limbs (lval l)
  have HLV := Lib.hid hlv
  clear hlv
  generalize limbs (lval l) = m at hlen HL HLV ⊢
  go_wp2_with (first
    | (at_make
       refine wpList_make_own _ rfl (.const (.int .i64 0)) (.tmp 10) 261 rfl w.heap.size 5 i0 _ 1 Tryz.underlying261 hi0 hz0 hz1 .i64 .i64 _ (4 * m.length) rfl rfl ?c1 ?c2 ?c3 ?c4 ?_
       case c1 => omega
       case c2 => rw [hz2]; omega
       case c3 => unfold maxLen; omega
       case c4 => exact Nat.le_refl _
       intro w2 hown hg))
  have hb2 : Below w.heap.size w w2 := (Below.refl _ _).grown hg (Nat.le_refl _) (by simp)
  clear hg
  go_loopw [3, 4] (fun vb vi wr => ∃ (k : Nat) (out : List UInt8), k ≤ m.length ∧ vi = .int .i64 ((k : Int) - 1) ∧ out.length + 4 * k = 4 * m.length ∧ Hid (bval out = lval (m.drop k)) ∧ wr.ownsRow w.heap.size 5 1 vb out.length (bv out) ∧ vb ≠ .slice none 0 0 ∧ Below w.heap.size w wr) (fun _ vi _ => (intOf vi + 1).toNat)
  case atStart => exact ⟨m.length, [], Nat.le_refl _, rfl, by simp, by show _ = _; rw [List.drop_length]; rfl, hown, by simp, hb2⟩
  case round =>
    obtain ⟨k, out, hk, rfl, hol, HV, hown, hne, hbr⟩ := hrel
    obtain ⟨B, cp, rfl⟩ := own_slice hown
    rcases Nat.eq_zero_or_pos k with h0 | h0
    · subst h0
      obtain ⟨g, c1, hv, hcv⟩ := conv_own hown hne
      injection hv with hv1 _ hv3
      subst hv1; subst hv3
      have hnv : Hid (bs (nv ⟨out.toArray⟩) = bs (lval l)) := by
        show _ = _
        congr 1
        show bval out = lval l
        rw [HV.out, List.drop_zero, HLV.out]
      have hsz : (⟨out.toArray⟩ : ByteArray).size ≤ 9223372036854775807 := by simp [ByteArray.size]; omega
      go_wp2_with fail
      refine (normalize_any _ _ hsz).mono ?_
      rintro e w3 ⟨rfl, rfl⟩
      rw [hnv.out]
      go_wp2_with fail
      go_ret
      exact ⟨rfl, hbr⟩
    · obtain ⟨j, rfl⟩ : ∃ j, k = j + 1 := ⟨k - 1, by omega⟩
      obtain ⟨x, hx⟩ : ∃ x, m[j]? = some x := ⟨_, List.getElem?_eq_getElem (by omega)⟩
      obtain ⟨b, off, rfl, hb, hcl⟩ := (HL.out.below hbr).2.2 (by omega)
      have c0 := hcl j x hx
      have hxl : x < 4294967296 := HL.out.ok.at_ hx
      have HX := hide hx
      have e1 : (((j + 1 : Nat) : Int) - 1) = j := by omega
      rw [e1]
      clear hcl hx
      go_wp2_with (first
        | (at_builtin
           refine wpList_append_own _ rfl (.tmp 23) (.tmp 35) 261 rfl w.heap.size 5 i0 _ 1 1 Tryz.underlying261 hi0 hz0 hz1 hz2 rfl (by decide) _ _ _ rfl (hown.alloc _) ⟨wr.heap.size, 0, none⟩ 4 4 [.int .u8 ((x : Int) / 16777216), .int .u8 ((x : Int) / 65536 % 256), .int .u8 ((x : Int) / 256 % 256), .int .u8 ((x : Int) % 256)] rfl rfl ?c1 ?c2 ?c3 ?c4 ?c5 ?_
           case c1 => exact cells_new _ [.int .u8 ((x : Int) / 16777216), .int .u8 ((x : Int) / 65536 % 256), .int .u8 ((x : Int) / 256 % 256), .int .u8 ((x : Int) % 256)] _
           case c2 => simp [Value.oneCell']
           case c3 => unfold maxLen; omega
           case c4 => omega
           case c5 => have := hbr.size; simp; omega
           intro v1 w1 hown1 hg1 hnil))
      rw [bv_four hxl, ← bv_append] at hown1
      have hlen4 : (out ++ four x).length = out.length + 4 := by rw [List.length_append]; rfl
      go_roundw
      case rel =>
        refine ⟨j, out ++ four x, by omega, by go_num, by rw [hlen4]; omega, ?_, by rw [hlen4]; exact hown1, ?_, ?_⟩
        · show _ = _
          rw [bval_four_app _ hxl, HV.out, ← lval_drop_at HX.out]
        · intro e
          have := hnil.1 e
          omega
        · refine (hbr.alloc hbr.size _).grown hg1 (by have := hbr.size; simp; omega) ?_
          intro g hg
          exact (hown.lt g hg).1
      case measure => simp [intOf] <;> omega
end Go.Proofs.YtpbgmpjnfndfjaaGreatDoor.RoC
namespace Go.Proofs.YtpbgmpjnfndfjaaGreatDoor.RoD
theorem here : True := trivial
open Go.RowKit RnA RnB RnS RnC RnM RnL RnN RnW RoA RoB RoC
theorem lat_two (w : World) (x y : Nat) (t : TypeId) (hx : x < 4294967296) (hy : y < 4294967296) : LAt (w.alloc (.cells #[.int .u32 (x : Int), .int .u32 (y : Int)] t)) (w.alloc (.cells #[.int .u32 (x : Int), .int .u32 (y : Int)] t)).heap.size (some ⟨w.heap.size, 0, none⟩) [x, y] := by
  refine ⟨Ok.cons hx (Ok.cons hy Ok.nil), by simp [maxLen], fun _ => ⟨_, _, rfl, by simp, fun k z hk => ?_⟩⟩
  rcases k with _ | _ | k
  · simp at hk; subst hk; simp
  · simp at hk; subst hk; simp
  · simp at hk
set_option maxHeartbeats 1000000000000 in
theorem rfrom_any (u : Nat) (w : World) (hu : u < 18446744073709551616) :
    Calls Tryz.prog 112 #[.int .u64 (u : Int)] w (SPost (bs u) w) := by
  have hv : lval [u % 4294967296, u / 4294967296] = u := by simp [lval]; omega
  have HV := Lib.hid hv
  have h1 : u % 4294967296 < 4294967296 := Nat.mod_lt _ (by omega)
  have h2 : u / 4294967296 < 4294967296 := by omega
  have HL := fun w => lat_two w (u % 4294967296) (u / 4294967296) 219 h1 h2
  have e1 : ((u % 4294967296 : Nat) : Int) = (u : Int) % 4294967296 := by omega
  have e2 : ((u / 4294967296 : Nat) : Int) = (u : Int) / 4294967296 := by omega
  rw [e1, e2] at HL
  have HL2 := Lib.hid HL
  clear hv HL h1 h2 e1 e2
  go_enter Tryz.func112, Tryz.ntmps112
  go_wp2_with fail
  refine (rtext_any [u % 4294967296, u / 4294967296] _ 2 _ (HL2.out _) (by simp) (by simp)).mono ?_
  rintro e w1 ⟨rfl, hb1⟩
  rw [HV.out]
  go_wp2_with fail
  go_ret
  exact ⟨rfl, ((Below.refl _ _).alloc (Nat.le_refl _) _).trans (hb1.mono (by simp))⟩
/-- a number below 2^64, or no number -/
def uintOf (n : Nat) : Nat × Bool := if n < 18446744073709551616 then (n, true) else (0, false)
theorem uintOf_len (n : Nat) : uintOf n = if 8 < (bytesOf n).length then (0, false) else (n, true) := by
  unfold uintOf
  have h8 : (256 : Nat) ^ 8 = 18446744073709551616 := rfl
  by_cases h : n < 18446744073709551616
  · have := bytesOf_len_le (n := n) (k := 8) (by rw [h8]; exact h)
    rw [if_pos h, if_neg (by omega)]
  · rw [if_neg h]
    have : 8 < (bytesOf n).length := by
      rcases Nat.lt_or_ge 8 (bytesOf n).length with h1 | h1
      · exact h1
      · have h2 := bval_lt (bytesOf n)
        rw [bval_bytesOf] at h2
        have h3 := Nat.pow_le_pow_right (n := 256) (by omega) h1
        omega
    rw [if_pos this]
def UPost (p : Nat × Bool) (w : World) (e : Ending) (w' : World) : Prop := e = .returned (.tuple #[.int .u64 (p.1 : Int), .bool p.2]) ∧ Below w.heap.size w w'
/-- how two numbers compare -/
def cmpN (x y : Nat) : Int := if x < y then -1 else if x = y then 0 else 1
theorem cmpN_lt {x y : Nat} (h : x < y) : (-1 : Int) = cmpN x y := by unfold cmpN; rw [if_pos h]
theorem cmpN_gt {x y : Nat} (h : y < x) : (1 : Int) = cmpN x y := by unfold cmpN; rw [if_neg (by omega), if_neg (by omega)]
theorem cmpN_eq {x y : Nat} (h : x = y) : (0 : Int) = cmpN x y := by unfold cmpN; rw [if_neg (by omega), if_pos h]
set_option maxHeartbeats 2000000000000 in
theorem rorder_any (x y : Nat) (A B : Option Addr) (c c' : Nat) (w : World) (ha : LAt w w.heap.size A (limbs x)) (hb : LAt w w.heap.size B (limbs y)) :
    Calls Tryz.prog 233 #[.slice A (limbs x).length c, .slice B (limbs y).length c'] w fun e w' => e = .returned (.int .i64 (cmpN x y)) ∧ Below w.heap.size w w' := by
  have hla := ha.len
  have hlb := hb.len
  have hlt1 : (limbs x).length < (limbs y).length → x < y := limbs_len_lt
  have hlt2 : (limbs y).length < (limbs x).length → y < x := limbs_len_lt
  have HLT1 := Lib.hid hlt1
  have HLT2 := Lib.hid hlt2
  have HVA := hide (lval_limbs x)
  have HVB := hide (lval_limbs y)
  have HA := hide ha
  have HB := hide hb
  clear ha hb hlt1 hlt2
  generalize limbs x = a at *
  generalize limbs y = b at *
  rcases (by omega : a.length < b.length ∨ b.length < a.length ∨ a.length = b.length) with h | h | h
  · have hr := hide (cmpN_lt (HLT1.out h))
    have hne : ((a.length : Int) != (b.length : Int)) = true := by simp; omega
    go_enter Tryz.func233, Tryz.ntmps233
    go_wp2_with fail
    go_ret
    exact ⟨ret_int hr.out, Below.refl _ _⟩
  · have hr := hide (cmpN_gt (HLT2.out h))
    have hne : ((a.length : Int) != (b.length : Int)) = true := by simp; omega
    go_enter Tryz.func233, Tryz.ntmps233
    go_wp2_with fail
    go_ret
    exact ⟨ret_int hr.out, Below.refl _ _⟩
  · have HLEN := hide h
    have hne : ((a.length : Int) != (b.length : Int)) = false := by simp; omega
    clear h
    go_enter Tryz.func233, Tryz.ntmps233
    go_wp2_with fail
    go_loopw [5] (fun vi wr => ∃ k : Nat, k ≤ a.length ∧ vi = .int .i64 ((k : Int) - 1) ∧ Hid (a.drop k = b.drop k) ∧ Below w.heap.size w wr) (fun vi _ => (intOf vi + 1).toNat)
    case atStart => exact ⟨a.length, Nat.le_refl _, rfl, by show _ = _; rw [List.drop_length, List.drop_eq_nil_of_le (by rw [HLEN.out]; exact Nat.le_refl _)], Below.refl _ _⟩
    case round =>
      obtain ⟨k, hk, rfl, HD, hbr⟩ := hrel
      rcases Nat.eq_zero_or_pos k with h0 | h0
      · subst h0
        have hr : Hid ((0 : Int) = cmpN x y) := by
          refine cmpN_eq ?_
          have := HD.out
          rw [List.drop_zero, List.drop_zero] at this
          rw [← HVA.out, ← HVB.out, this]
        go_wp2_with fail
        go_ret
        exact ⟨ret_int hr.out, hbr⟩
      · obtain ⟨j, rfl⟩ : ∃ j, k = j + 1 := ⟨k - 1, by omega⟩
        obtain ⟨p, hp⟩ : ∃ p, a[j]? = some p := ⟨_, List.getElem?_eq_getElem (by omega)⟩
        obtain ⟨q, hq⟩ : ∃ q, b[j]? = some q := ⟨_, List.getElem?_eq_getElem (by have := HLEN.out; omega)⟩
        obtain ⟨b1, o1, rfl, hb1, hc1⟩ := (HA.out.below hbr).2.2 (by omega)
        obtain ⟨b2, o2, rfl, hb2, hc2⟩ := (HB.out.below hbr).2.2 (by have := HLEN.out; omega)
        have c1 := hc1 j p hp
        have c2 := hc2 j q hq
        have hjb : j < b.length := by have := HLEN.out; omega
        have HP := hide hp
        have HQ := hide hq
        have e1 : (((j + 1 : Nat) : Int) - 1) = j := by omega
        rw [e1]
        clear hc1 hc2 hp hq h0
        rcases (by omega : p < q ∨ q < p ∨ p = q) with h | h | h
        · have hr := hide (cmpN_lt (x := x) (y := y) (by rw [← HVA.out, ← HVB.out]; exact lval_cmp HA.out.ok HLEN.out HD.out HP.out HQ.out h))
          have t1 : ((p : Int) != (q : Int)) = true := by simp; omega
          go_wp2_with fail
          go_quiet (fail)
          go_wp2_with fail
          go_quiet (fail)
          go_wp2_with fail
          go_ret
          exact ⟨ret_int hr.out, below_drewN (below_drewN hbr _) _⟩
        · have hr := hide (cmpN_gt (x := x) (y := y) (by rw [← HVA.out, ← HVB.out]; exact lval_cmp HB.out.ok HLEN.out.symm HD.out.symm HQ.out HP.out h))
          have t1 : ((p : Int) != (q : Int)) = true := by simp; omega
          go_wp2_with fail
          go_quiet (fail)
          go_wp2_with fail
          go_quiet (fail)
          go_wp2_with fail
          go_ret
          exact ⟨ret_int hr.out, below_drewN (below_drewN hbr _) _⟩
        · have hd : Hid (a.drop j = b.drop j) := by
            show _ = _
            rw [drop_at HP.out, drop_at HQ.out, h, HD.out]
          have t1 : ((p : Int) != (q : Int)) = false := by simp; omega
          clear h
          go_wp2_with fail
          go_quiet (fail)
          go_wp2_with fail
          go_roundw
          case rel => exact ⟨j, by omega, rfl, hd, below_drewN hbr _⟩
          case measure => simp [intOf] <;> omega
end Go.Proofs.YtpbgmpjnfndfjaaGreatDoor.RoD
namespace Go.Proofs.YtpbgmpjnfndfjaaGreatDoor.RoE
theorem here : True := trivial
open Go.RowKit RnA RnB RnS RnC RnM RnL RnN RnW RoA RoB RoC RoD
theorem lval_take_ge {n i : Nat} (h : i < (limbs n).length) : 4294967296 ^ i ≤ n := by
  have hn : n ≠ 0 := fun e => by subst e; rw [limbs_zero] at h; simp at h
  have h1 := limbs_ge hn
  have h2 : 4294967296 ^ i ≤ 4294967296 ^ (sz n - 1) := Nat.pow_le_pow_right (by omega) (by have : sz n = (limbs n).length := rfl; omega)
  omega
theorem lval_take_le (l : List Nat) (k : Nat) : lval (l.take k) ≤ lval l := by
  rcases Nat.lt_or_ge l.length k with h | h
  · rw [lval_take_all (by omega)]; exact Nat.le_refl _
  · rw [lval_split l k h]; exact Nat.le_add_right _ _
end Go.Proofs.YtpbgmpjnfndfjaaGreatDoor.RoE
namespace Go.Proofs.YtpbgmpjnfndfjaaGreatDoor.RoF
theorem here : True := trivial
open Go.RowKit RnA RnB RnS RnC RnM RnL RnN RnW RoA RoB RoC RoD RoE
/-- a list without its zeros at the end reads where it stood -/
theorem LAt.strip {w : World} {B : Nat} {A : Option Addr} {l : List Nat} (h : LAt w B A l) : LAt w B A (limbs (lval l)) ∧ (limbs (lval l)).length ≤ l.length := by
  obtain ⟨h1, h2⟩ := take_sz h.ok
  have h3 := RnW.LAt.take h (sz (lval l))
  rw [h1] at h3
  exact ⟨h3, h2⟩
theorem strip_n (l : List Nat) (A : Option Addr) (n c : Nat) (w : World) (hn : l.length = n) (h : LAt w w.heap.size A l) (hc : n ≤ c) :
    Calls Tryz.prog 200 #[.slice A n c] w fun e w' => e = .returned (.slice A (limbs (lval l)).length c) ∧ w = w' := by
  subst hn; exact strip_any l A c w h hc
end Go.Proofs.YtpbgmpjnfndfjaaGreatDoor.RoF
namespace Go.Proofs.YtpbgmpjnfndfjaaGreatDoor.RoG
theorem here : True := trivial
open Go.RowKit RnA RnB RnS RnC RnM RnL RnN RnW RoA RoB RoC RoD RoE RoF
/-- what a division by one limb answers -/
def DPost (q r : Nat) (w : World) (e : Ending) (w' : World) : Prop :=
  ∃ A c, e = .returned (.tuple #[.slice A (limbs q).length c, .int .u32 (r : Int)]) ∧ (limbs q).length ≤ c ∧ c ≤ maxLen ∧ LAt w' w'.heap.size A (limbs q) ∧ Below w.heap.size w w' ∧ (∀ a, A = some a → w.heap.size ≤ a.block)
/-- a list of limbs reads as before where another block was written -/
theorem LAt.grown {w w' : World} {B : Nat} {A : Option Addr} {l : List Nat} {row : Option Nat} (h : LAt w B A l) (hB : B ≤ w.heap.size) (hg : w.grownBy w' row) (hne : ∀ a, A = some a → some a.block ≠ row) : LAt w' w'.heap.size A l :=
  ⟨h.1, h.2.1, fun hp => by
    obtain ⟨b, off, e, hlt, hc⟩ := h.2.2 hp
    refine ⟨b, off, e, by have := hg.size; omega, fun k x hk => ?_⟩
    exact (World.cell?_of_block (a := ⟨b, off + k, none⟩) (hg.block b (by omega) (hne _ e))).trans (hc k x hk)⟩
theorem drop_set_self {l : List Nat} {j q : Nat} (h : j < l.length) : (l.set j q).drop j = q :: l.drop (j + 1) := by
  rw [drop_at (x := q) (by rw [List.getElem?_set_self h]), drop_set_succ]
theorem or_hi {r x : Nat} (hr : r < 4294967296) (hx : x < 4294967296) : bits BinOp.or IntKind.u64 ((r : Int) * 4294967296) (x : Int) = ((r * 4294967296 + x : Nat) : Int) := by
  have e : (r : Int) * 4294967296 = ((r * 4294967296 : Nat) : Int) := by omega
  rw [e, u64_or_nat _ _ (by omega) (by omega), Nat.or_comm, Nat.mul_comm r, show (4294967296 : Nat) = 2 ^ 32 from rfl, or_low hx, Nat.add_comm]
theorem quo_eq {T d : Nat} (h : T / d < 4294967296) : IntKind.u64.wrap ((T : Int) / (d : Int)) % 4294967296 = ((T / d : Nat) : Int) := by
  rw [← Int.natCast_ediv]
  generalize T / d = q at h ⊢
  rw [IntWalk.u64_in _ (by omega)]
  omega
set_option maxHeartbeats 4000000000000 in
set_option maxRecDepth 100000000000 in
theorem rshort_any (x d : Nat) (A : Option Addr) (c : Nat) (w : World) (ha : LAt w w.heap.size A (limbs x)) (hx : sz x ≤ 1000000000000) (hd0 : 0 < d) (hd : d < 4294967296) :
    Calls Tryz.prog 234 #[.slice A (limbs x).length c, .int .u32 (d : Int)] w (DPost (x / d) (x % d) w) := by
  obtain ⟨i0, hi0, hz0, hz1, hz2⟩ := info_parts u32Info
  have hla : (limbs x).length ≤ 1000000000000 := hx
  have HVA := hide (lval_limbs x)
  have HA := hide ha
  clear ha hx
  generalize limbs x = a at *
  go_enter Tryz.func234, Tryz.ntmps234
  go_wp2_with (first
    | (at_make
       refine wpList_make_full _ rfl (.tmp 10) (.tmp 10) 216 rfl w.heap.size 219 i0 _ 1 Tryz.underlying216 hi0 hz0 hz1 .i64 .i64 _ _ a.length rfl rfl ?c1 ?c2 ?c3 ?c4 ?c5 ?_
       case c1 => rfl
       case c2 => rfl
       case c3 => rw [hz2]; omega
       case c4 => unfold maxLen; omega
       case c5 => exact Nat.le_refl _
       intro w2 hown hg))
  rw [made_uv] at hown
  have hb2 : Below w.heap.size w w2 := (Below.refl _ _).grown hg (Nat.le_refl _) (by simp)
  clear hg
  generalize hn : a.length = n at hown
  go_loopw [7, 8] (fun vr vi wr => ∃ (k r : Nat) (O : List Nat), k ≤ n ∧ r < d ∧ vi = .int .i64 ((k : Int) - 1) ∧ vr = .int .u64 r ∧ Hid (O.length = n) ∧ Hid (Ok O) ∧ Hid (lval (a.drop k) = d * lval (O.drop k) + r) ∧ wr.ownsRow w.heap.size 219 1 (.slice (some ⟨w.heap.size, 0, none⟩) n n) n (uv O) ∧ Below w.heap.size w wr) (fun _ vi _ => (intOf vi + 1).toNat)
  case atStart => exact ⟨n, 0, List.replicate n 0, by omega, hd0, rfl, rfl, by show _ = _; simp, Ok.replicate _, by show _ = _; rw [List.drop_eq_nil_of_le (by omega), List.drop_eq_nil_of_le (by simp)]; rfl, hown, hb2⟩
  case round =>
    obtain ⟨k, r, O, hk, hr, rfl, rfl, HOL, HO, HV, hown, hbr⟩ := hrel
    rcases Nat.eq_zero_or_pos k with h0 | h0
    · subst h0
      have hfin : Hid (lval O = x / d ∧ r = x % d) := by
        have h1 := HV.out
        rw [List.drop_zero, List.drop_zero, HVA.out] at h1
        constructor
        · rw [h1, Nat.mul_add_div hd0, Nat.div_eq_of_lt hr, Nat.add_zero]
        · rw [h1, Nat.mul_add_mod, Nat.mod_eq_of_lt hr]
      have hL := LAt.of_own hown HO.out
      obtain ⟨hL2, hle⟩ := LAt.strip hL
      have hcap := own_cap hown
      rw [hfin.out.1] at hL2 hle
      rw [HOL.out] at hle
      have HL := hide hL
      have HL2 := hide hL2
      clear hL hL2
      go_wp2_with fail
      refine (strip_n O _ _ _ _ HOL.out HL.out (Nat.le_refl _)).mono ?_
      rintro e w3 ⟨rfl, rfl⟩
      rw [hfin.out.1]
      go_wp2_with fail
      go_ret2
      rw [← hfin.out.2]
      exact ⟨_, _, rfl, hle, hcap.2, HL2.out, hbr, fun a ha => by cases ha; exact Nat.le_refl _⟩
    · obtain ⟨j, rfl⟩ : ∃ j, k = j + 1 := ⟨k - 1, by omega⟩
      obtain ⟨p, hp⟩ : ∃ p, a[j]? = some p := ⟨_, List.getElem?_eq_getElem (by omega)⟩
      obtain ⟨z, hz⟩ : ∃ z, O[j]? = some z := ⟨_, List.getElem?_eq_getElem (by have := HOL.out; omega)⟩
      obtain ⟨b1, o1, rfl, hb1, hc1⟩ := (HA.out.below hbr).2.2 (by omega)
      have c1 := hc1 j p hp
      have hpl : p < 4294967296 := HA.out.ok.at_ hp
      have cz : wr.cell? ⟨w.heap.size, j, none⟩ = some (.int .u32 (z : Int)) := (hown.cellAt j (by omega)).trans (uv_get hz)
      have fz := hown.frozenAt j
      have hor := or_hi (r := r) (x := p) (by omega) hpl
      obtain ⟨hd1, hd2, hd3⟩ := div_lt (d := d) hpl hr hd
      have hstep := div_round HV.out hp
      have e1 : (((j + 1 : Nat) : Int) - 1) = j := by omega
      obtain ⟨T, hT⟩ : ∃ T, r * 4294967296 + p = T := ⟨_, rfl⟩
      rw [hT] at hor hd1 hd2 hd3 hstep
      have HSTEP := hide hstep
      have hjn : j < n := by omega
      obtain ⟨hos, hgs⟩ := hown.stored j (.int .u32 ((T / d : Nat) : Int))
      rw [uv_set] at hos
      have hbs := hbr.setCell (p := ⟨w.heap.size, j, none⟩) (Nat.le_refl _) (.int .u32 ((T / d : Nat) : Int))
      have hok : Hid (Ok (O.set j (T / d))) := HO.out.set _ hd2
      have hval : Hid (lval (a.drop j) = d * lval ((O.set j (T / d)).drop j) + T % d) := by
        show _ = _
        rw [HSTEP.out, drop_set_self (by have := HOL.out; omega)]
      rw [e1]
      clear hc1 hp hz hT hstep h0 e1
      go_wp2_with fail
      rw [quo_eq hd2]
      go_roundw
      case rel => exact ⟨j, T % d, O.set j (T / d), by omega, hd3, rfl, by congr 1, by show _ = _; rw [List.length_set]; exact HOL.out, hok, hval, hos, hbs⟩
      case measure => simp [intOf] <;> omega
end Go.Proofs.YtpbgmpjnfndfjaaGreatDoor.RoG
namespace Go.Proofs.YtpbgmpjnfndfjaaGreatDoor.RoH
theorem here : True := trivial
open Go.RowKit RnA RnB RnS RnC RnM RnL RnN RnW RoA RoB RoC RoD RoE RoF RoG
/-- what a function that makes a row of limbs of the call's own answers -/
def OPost (n v : Nat) (w : World) (e : Ending) (w' : World) : Prop :=
  ∃ g O, e = .returned (.slice (some ⟨g, 0, none⟩) n n) ∧ O.length = n ∧ Ok O ∧ lval O = v ∧ w'.ownsRow w.heap.size 219 1 (.slice (some ⟨g, 0, none⟩) n n) n (uv O) ∧ Below w.heap.size w w'
set_option maxHeartbeats 4000000000000 in
set_option maxRecDepth 100000000000 in
theorem rshifted_any (x s : Nat) (A : Option Addr) (c : Nat) (w : World) (ha : LAt w w.heap.size A (limbs x)) (hx : sz x ≤ 1000000000000) (hs : s ≤ 31) :
    Calls Tryz.prog 245 #[.slice A (limbs x).length c, .int .u64 (s : Int)] w (OPost ((limbs x).length + 1) (x * 2 ^ s) w) := by
  obtain ⟨i0, hi0, hz0, hz1, hz2⟩ := info_parts u32Info
  have hla : (limbs x).length ≤ 1000000000000 := hx
  have HVA := hide (lval_limbs x)
  have HA := hide ha
  clear ha hx
  generalize limbs x = a at *
  go_enter Tryz.func245, Tryz.ntmps245
  go_wp2_with (first
    | (at_make
       refine wpList_make_full _ rfl (.tmp 10) (.tmp 10) 216 rfl w.heap.size 219 i0 _ 1 Tryz.underlying216 hi0 hz0 hz1 .i64 .i64 _ _ (a.length + 1) rfl rfl ?c1 ?c2 ?c3 ?c4 ?c5 ?_
       case c1 => omega
       case c2 => omega
       case c3 => rw [hz2]; omega
       case c4 => unfold maxLen; omega
       case c5 => exact Nat.le_refl _
       intro w2 hown hg))
  rw [made_uv] at hown
  have hb2 : Below w.heap.size w w2 := (Below.refl _ _).grown hg (Nat.le_refl _) (by simp)
  clear hg
  generalize hn : a.length + 1 = n at hown ⊢
  go_loopw [6] (fun vi wr => ∃ (i : Nat) (O : List Nat), i ≤ a.length ∧ vi = .int .i64 i ∧ Hid (O.length = n) ∧ Hid (Ok O) ∧ Hid (lval O = lval (a.take i) * 2 ^ s) ∧ wr.ownsRow w.heap.size 219 1 (.slice (some ⟨w.heap.size, 0, none⟩) n n) n (uv O) ∧ Below w.heap.size w wr) (fun vi _ => a.length - (intOf vi).toNat)
  case atStart => exact ⟨0, List.replicate n 0, by omega, rfl, by show _ = _; simp, Ok.replicate _, by show _ = _; simp [lval, lval_replicate], hown, hb2⟩
  case round =>
    obtain ⟨i, O, hi, rfl, HOL, HO, HV, hown, hbr⟩ := hrel
    by_cases hlt : i < a.length
    · obtain ⟨p, hp⟩ : ∃ p, a[i]? = some p := ⟨_, List.getElem?_eq_getElem hlt⟩
      obtain ⟨z, hz⟩ : ∃ z, O[i]? = some z := ⟨_, List.getElem?_eq_getElem (by have := HOL.out; omega)⟩
      obtain ⟨b1, o1, rfl, hb1, hc1⟩ := (HA.out.below hbr).2.2 (by omega)
      have c1 := hc1 i p hp
      have hpl : p < 4294967296 := HA.out.ok.at_ hp
      have hsmall := shl_small (s := s) HA.out.ok hi
      rw [← HV.out] at hsmall
      have hzl : z < 2 ^ s := limb_lt hsmall hz
      obtain ⟨hs1, hs2, hs3⟩ := shl_bounds hs hzl hpl
      have hy0 : O[i + 1]? = some 0 := by
        obtain ⟨y, hy⟩ : ∃ y, O[i + 1]? = some y := ⟨_, List.getElem?_eq_getElem (by have := HOL.out; omega)⟩
        rw [hy]
        congr 1
        refine zero_above ?_ hy
        have h1 : 4294967296 ^ i * 2 ^ s ≤ 4294967296 ^ i * 4294967296 := Nat.mul_le_mul_left _ (Nat.pow_le_pow_right (n := 2) (by omega) (by omega : s ≤ 32))
        rw [Nat.pow_succ]
        omega
      have hround := shl_round HV.out hp hz hy0
      have hor := or_shift (s := s) (a := p) (by omega) hzl
      have cz : wr.cell? ⟨w.heap.size, i, none⟩ = some (.int .u32 (z : Int)) := (hown.cellAt i (by omega)).trans (uv_get hz)
      have cy : wr.cell? ⟨w.heap.size, i + 1, none⟩ = some (.int .u32 (0 : Nat)) := (hown.cellAt (i + 1) (by omega)).trans (uv_get hy0)
      have fz := hown.frozenAt i
      have fy := hown.frozenAt (i + 1)
      have HR := hide hround
      have HOR := hide hor
      have HP := hide hp
      obtain ⟨t, ht⟩ : ∃ t, p * 2 ^ s = t := ⟨_, rfl⟩
      rw [ht] at hs1 hs2 hs3 HR HOR
      have hw1 : IntKind.u64.wrap ((p : Int) * 2 ^ s) = (t : Int) := by
        rw [← ht]
        have e : (p : Int) * 2 ^ s = ((p * 2 ^ s : Nat) : Int) := by simp
        rw [e]
        exact IntWalk.u64_in _ (by rw [ht]; omega)
      have HT := hide ht
      have HZL := hide hzl
      clear hc1 hp hz hy0 hround hor hsmall ht hzl hs2
      go_wp2_with fail
      have e1 : bits BinOp.or IntKind.u32 (z : Int) ((t : Int) % 4294967296) = ((z + t % 4294967296 : Nat) : Int) := by
        have e : (t : Int) % 4294967296 = ((t % 4294967296 : Nat) : Int) := by omega
        rw [e, u32_or_nat _ _ (by omega) (by omega), HOR.out]
      have e2 : (t : Int) / 4294967296 = ((t / 4294967296 : Nat) : Int) := by omega
      rw [e1, e2]
      obtain ⟨hos, hgs⟩ := hown.stored i (.int .u32 ((z + t % 4294967296 : Nat) : Int))
      rw [uv_set] at hos
      obtain ⟨hos2, hgs2⟩ := hos.stored (i + 1) (.int .u32 ((t / 4294967296 : Nat) : Int))
      rw [uv_set] at hos2
      have hbs := (hbr.setCell (p := ⟨w.heap.size, i, none⟩) (Nat.le_refl _) (.int .u32 ((z + t % 4294967296 : Nat) : Int))).setCell (p := ⟨w.heap.size, i + 1, none⟩) (Nat.le_refl _) (.int .u32 ((t / 4294967296 : Nat) : Int))
      have hok : Hid (Ok ((O.set i (z + t % 4294967296)).set (i + 1) (t / 4294967296))) := (HO.out.set _ hs1).set _ (by omega)
      go_roundw
      case rel => exact ⟨i + 1, _, by omega, by go_num, by show _ = _; rw [List.length_set, List.length_set]; exact HOL.out, hok, HR.out, hos2, hbs⟩
      case measure => simp [intOf]; omega
    · have hfin : Hid (lval O = x * 2 ^ s) := by
        show _ = _
        rw [HV.out, lval_take_all (by omega), HVA.out]
      go_wp2_with fail
      go_ret
      subst hn
      exact ⟨_, O, rfl, HOL.out, HO.out, hfin.out, hown, hbr⟩
end Go.Proofs.YtpbgmpjnfndfjaaGreatDoor.RoH
namespace Go.Proofs.YtpbgmpjnfndfjaaGreatDoor.RoI
theorem here : True := trivial
open Go.RowKit RnA RnB RnS RnC RnK RnM RnL RnN RnW RoA RoB RoC RoD RoE RoF RoG RoH
/-- the greatest limb, shifted to its place -/
theorem norm_facts {y n s top : Nat} (hn : (limbs y).length = n + 1) (ht : (limbs y)[n]? = some top) (h1 : top * 2 ^ s < 4294967296) (h2 : 2147483648 ≤ top * 2 ^ s) (hs : s ≤ 32) :
    y * 2 ^ s < 4294967296 ^ (n + 1) ∧ 2147483648 * 4294967296 ^ n ≤ y * 2 ^ s := by
  have e := lval_split (limbs y) n (by omega)
  rw [lval_limbs, lval_drop_at ht, List.drop_eq_nil_of_le (by omega), lval, Nat.mul_zero, Nat.add_zero] at e
  have hl := lval_lt ((limbs_ok y).take n)
  rw [take_len (by omega)] at hl
  have hd : (top + 1) * 2 ^ s ≤ 4294967296 := by
    rw [pow32 s hs] at h1 ⊢
    have h3 : top < 2 ^ (32 - s) := by
      rw [Nat.mul_comm] at h1
      exact Nat.lt_of_mul_lt_mul_left h1
    rw [Nat.mul_comm]
    exact Nat.mul_le_mul_left _ h3
  generalize lval ((limbs y).take n) = lo at *
  rw [Nat.pow_succ]
  have hp := pow_pos n
  generalize 4294967296 ^ n = P at *
  have hs0 : 0 < 2 ^ s := Nat.pow_pos (by omega)
  constructor
  · have h3 : y < P * (top + 1) := by rw [e, Nat.mul_succ]; omega
    have h4 : y * 2 ^ s < P * (top + 1) * 2 ^ s := Nat.mul_lt_mul_of_pos_right h3 hs0
    have h5 : P * (top + 1) * 2 ^ s ≤ P * 4294967296 := by rw [Nat.mul_assoc]; exact Nat.mul_le_mul_left _ hd
    omega
  · have h3 : P * top ≤ y := by rw [e]; simp
    have h4 : P * top * 2 ^ s ≤ y * 2 ^ s := Nat.mul_le_mul_right _ h3
    have h5 : P * 2147483648 ≤ P * (top * 2 ^ s) := Nat.mul_le_mul_left _ h2
    rw [Nat.mul_assoc] at h4
    omega
/-- the greatest limb of a normalized divisor -/
theorem top_big {d : List Nat} {n v1 : Nat} (hd : Ok d) (hn : d.length = n + 1) (hv : d[n]? = some v1) (h : 2147483648 * 4294967296 ^ n ≤ lval d) : 2147483648 ≤ v1 := by
  have e := lval_split d n (by omega)
  rw [lval_drop_at hv, List.drop_eq_nil_of_le (by omega), lval, Nat.mul_zero, Nat.add_zero] at e
  have hl := lval_lt (hd.take n)
  rw [take_len (by omega)] at hl
  rcases Nat.lt_or_ge v1 2147483648 with h1 | h1
  · exfalso
    have h2 : 4294967296 ^ n * (v1 + 1) ≤ 4294967296 ^ n * 2147483648 := Nat.mul_le_mul_left _ h1
    rw [Nat.mul_succ] at h2
    generalize 4294967296 ^ n = P at *
    omega
  · exact h1
/-- a list of limbs cut where its value ends -/
theorem take_val {l : List Nat} {k : Nat} (hk : k ≤ l.length) (h : lval l < 4294967296 ^ k) : lval (l.take k) = lval l := by
  have e := lval_split l k hk
  rcases Nat.eq_zero_or_pos (lval (l.drop k)) with h0 | h0
  · rw [h0] at e; omega
  · have : 4294967296 ^ k * 1 ≤ 4294967296 ^ k * lval (l.drop k) := Nat.mul_le_mul_left _ h0
    omega
theorem window_split (us : List Nat) (j n : Nat) : us = us.take j ++ (us.drop j).take (n + 1) ++ us.drop (j + n + 1) := by
  rw [List.append_assoc, show j + n + 1 = j + (n + 1) by omega, ← List.drop_drop, List.take_append_drop, List.take_append_drop]
/-- what a division answers -/
def QPost (q r : Nat) (w : World) (e : Ending) (w' : World) : Prop :=
  ∃ A c A' c', e = .returned (.tuple #[.slice A (limbs q).length c, .slice A' (limbs r).length c']) ∧ (limbs q).length ≤ c ∧ c ≤ maxLen ∧ (limbs r).length ≤ c' ∧ c' ≤ maxLen ∧
    LAt w' w'.heap.size A (limbs q) ∧ LAt w' w'.heap.size A' (limbs r) ∧ Below w.heap.size w w'
/-- rows of the call's own, told apart -/
theorem own_set {w : World} {base size n k : Nat} {e : TypeId} {v : Value} {xs : List Value} (h : w.ownsRow base e size v n xs) (hne : v.ownBlock ≠ some k) (o : Nat) (u : Value) : (w.setCell ⟨k, o, none⟩ u).ownsRow base e size v n xs :=
  h.kept (row := some k) ⟨rfl, rfl, rfl, by simp [World.setCell], fun i _ hn => Below.heap_setCell w ⟨k, o, none⟩ u i (fun e => hn (by rw [e]))⟩ (.inr hne)
/-- a block reads as a list of limbs from its head on -/
def DAt (w : World) (g : Nat) (d : List Nat) : Prop := ∀ (k v : Nat), d[k]? = some v → w.cell? ⟨g, k, none⟩ = some (.int .u32 (v : Int))
theorem DAt.setCell {w : World} {g h : Nat} {d : List Nat} (hd : DAt w g d) (hne : g ≠ h) (o : Nat) (u : Value) : DAt (w.setCell ⟨h, o, none⟩ u) g d := fun k v hk =>
  (World.cell?_setCell_other w ⟨h, o, none⟩ ⟨g, k, none⟩ u (by intro e; injection e with e1; exact hne e1.symm)).trans (hd k v hk)
theorem DAt.drewN {w : World} {g : Nat} {d : List Nat} (hd : DAt w g d) (n : Nat) : DAt (w.drewN n) g d := hd
theorem DAt.kept {w w' : World} {g : Nat} {d : List Nat} (hd : DAt w g d) {B : Nat} (hb : Below B w w') (hg : g < B) : DAt w' g d := fun k v hk => (hb.cell (p := ⟨g, k, none⟩) hg).trans (hd k v hk)
theorem DAt.of_own {w : World} {B T n c g : Nat} {l : List Nat} (h : w.ownsRow B T 1 (.slice (some ⟨g, 0, none⟩) n c) n (uv l)) : DAt w g l := fun k v hk => by
  have hn : n = l.length := by have := h.1; rw [uv_length] at this; omega
  have hkl : k < l.length := (List.getElem?_eq_some_iff.1 hk).1
  exact (h.cellAt k (by omega)).trans (uv_get hk)
theorem DAt.take {w : World} {g : Nat} {d : List Nat} (hd : DAt w g d) (n : Nat) : DAt w g (d.take n) := fun k v hk => by
  rw [List.getElem?_take] at hk
  split at hk
  · exact hd k v hk
  · cases hk
/-- a limb of a window -/
theorem window_at {us : List Nat} {j n k v : Nat} (h : us[j + k]? = some v) (hk : k < n + 1) : ((us.drop j).take (n + 1))[k]? = some v := by
  rw [List.getElem?_take, if_pos hk, List.getElem?_drop]; exact h
theorem quo64 {T d : Nat} (h : T / d ≤ 18446744073709551615) : IntKind.u64.wrap ((T : Int) / (d : Int)) = ((T / d : Nat) : Int) := by
  rw [← Int.natCast_ediv]
  generalize T / d = q at h ⊢
  exact IntWalk.u64_in _ (by omega)
/-- the test of the loop that lowers a guess -/
def tooGreat (g r u v : Nat) : Bool := decide (4294967296 ≤ g) || decide (r * 4294967296 + u < g * v)
theorem guess_prod {g v : Nat} (hg : g ≤ 4294967297) (hv : v < 4294967296) : g * v ≤ 18446744073709551615 := by
  have := Nat.mul_le_mul hg (by omega : v ≤ 4294967295)
  omega
/-- the three rows of a long division: the dividend, the quotient, the divisor -/
def St (w wr : World) (gu gv gq m L : Nat) (us Q ds : List Nat) : Prop :=
  wr.ownsRow w.heap.size 219 1 (.slice (some ⟨gu, 0, none⟩) m m) m (uv us) ∧ wr.ownsRow w.heap.size 219 1 (.slice (some ⟨gq, 0, none⟩) L L) L (uv Q) ∧ DAt wr gv ds ∧ Below w.heap.size w wr ∧
  gu ≠ gv ∧ gu ≠ gq ∧ gv ≠ gq ∧ w.heap.size ≤ gu ∧ w.heap.size ≤ gq
section
variable {w wr : World} {gu gv gq m L : Nat} {us Q ds : List Nat}
theorem St.drewN (h : St w wr gu gv gq m L us Q ds) (n : Nat) : St w (wr.drewN n) gu gv gq m L us Q ds := by
  obtain ⟨h1, h2, h3, h4, h5⟩ := h
  exact ⟨h1, h2, h3.drewN n, below_drewN h4 n, h5⟩
theorem St.len (h : St w wr gu gv gq m L us Q ds) : us.length = m := by have := h.1.1; rw [uv_length] at this; omega
theorem St.cu (h : St w wr gu gv gq m L us Q ds) {k v : Nat} (hk : us[k]? = some v) : wr.cell? ⟨gu, k, none⟩ = some (.int .u32 (v : Int)) := DAt.of_own h.1 k v hk
theorem St.cq (h : St w wr gu gv gq m L us Q ds) {k v : Nat} (hk : Q[k]? = some v) : wr.cell? ⟨gq, k, none⟩ = some (.int .u32 (v : Int)) := DAt.of_own h.2.1 k v hk
theorem St.cd (h : St w wr gu gv gq m L us Q ds) {k v : Nat} (hk : ds[k]? = some v) : wr.cell? ⟨gv, k, none⟩ = some (.int .u32 (v : Int)) := h.2.2.1 k v hk
theorem St.fu (h : St w wr gu gv gq m L us Q ds) (k : Nat) : wr.frozen? ⟨gu, k, none⟩ = false := h.1.frozenAt k
theorem St.fq (h : St w wr gu gv gq m L us Q ds) (k : Nat) : wr.frozen? ⟨gq, k, none⟩ = false := h.2.1.frozenAt k
theorem St.setU (h : St w wr gu gv gq m L us Q ds) (k v : Nat) : St w (wr.setCell ⟨gu, k, none⟩ (.int .u32 (v : Int))) gu gv gq m L (us.set k v) Q ds := by
  obtain ⟨h1, h2, h3, h4, h5, h6, h7, h8, h9⟩ := h
  refine ⟨?_, own_set h2 (by simp [Value.ownBlock]; omega) _ _, h3.setCell (fun e => h5 e.symm) _ _, h4.setCell h8 _, h5, h6, h7, h8, h9⟩
  have := (h1.stored k (.int .u32 (v : Int))).1
  rwa [uv_set] at this
theorem St.setQ (h : St w wr gu gv gq m L us Q ds) (k v : Nat) : St w (wr.setCell ⟨gq, k, none⟩ (.int .u32 (v : Int))) gu gv gq m L us (Q.set k v) ds := by
  obtain ⟨h1, h2, h3, h4, h5, h6, h7, h8, h9⟩ := h
  refine ⟨own_set h1 (by simp [Value.ownBlock]; omega) _ _, ?_, h3.setCell h7 _ _, h4.setCell h9 _, h5, h6, h7, h8, h9⟩
  have := (h2.stored k (.int .u32 (v : Int))).1
  rwa [uv_set] at this
end
end Go.Proofs.YtpbgmpjnfndfjaaGreatDoor.RoI
namespace Go.Proofs.YtpbgmpjnfndfjaaGreatDoor.RoL
theorem here : True := trivial
open Go.RowKit RnA RnB RnS RnC RnK RnM RnL RnN RnD RnE RnQ RnR RnP RnW RoA RoB RoC RoD RoE RoF RoG RoH RoI
/-- the value of a slice of limbs, read in a world -/
def sval (w : World) : Value → Nat
  | .slice (some a) n _ => lval ((List.range n).map fun k => match w.cell? ⟨a.block, a.off + k, none⟩ with | some (.int .u32 x) => x.toNat | _ => 0)
  | _ => 0
theorem sval_at {w : World} {B : Nat} {A : Option Addr} {l : List Nat} (h : LAt w B A l) (c : Nat) : sval w (.slice A l.length c) = lval l := by
  rcases Nat.eq_zero_or_pos l.length with h0 | h0
  · have : l = [] := List.eq_nil_of_length_eq_zero h0
    subst this
    cases A <;> rfl
  · obtain ⟨b, off, rfl, _, hc⟩ := h.2.2 h0
    show lval _ = _
    congr 1
    refine List.ext_getElem? fun k => ?_
    by_cases hk : k < l.length
    · rw [List.getElem?_map, List.getElem?_range hk]
      have e := List.getElem?_eq_getElem hk
      have := hc k _ e
      simp only [Option.map_some, this, e, Int.toNat_natCast]
    · rw [List.getElem?_eq_none (by simp; omega), List.getElem?_eq_none (by omega)]
theorem str_ne {s : ByteArray} (h : 0 < s.size) : (s.toList = []) = False ∧ s.toList.isEmpty = false := by
  have e : s.toList = s.data.toList := Lib.toList_data s
  have h2 : s.toList ≠ [] := by
    intro h1
    rw [e] at h1
    have : s.data.toList.length = s.size := by simp
    rw [h1] at this
    simp at this
    omega
  exact ⟨eq_false h2, by simpa using h2⟩
theorem str_em {s : ByteArray} (h : s.size = 0) : s.toList = [] ∧ s.toList.isEmpty = true := by
  have e : s.toList = s.data.toList := Lib.toList_data s
  have h2 : s.toList = [] := by rw [e]; exact List.eq_nil_of_length_eq_zero (by simpa using h)
  exact ⟨h2, by rw [h2]; rfl⟩
theorem digs_snoc' {s : ByteArray} {k : Nat} (h : k < s.size) (hd : digs (s.data.toList.take k) = true) : digs (s.data.toList.take (k + 1)) = isDig s[k] := by
  rw [List.take_add_one, get_byte h]
  unfold digs at hd ⊢
  rw [List.all_append, hd]
  simp
theorem digs_bad {s : ByteArray} {k : Nat} (h : k < s.size) (hb : isDig s[k] = false) : digs s.data.toList = false := by
  unfold digs
  rw [List.all_eq_false]
  exact ⟨s[k], List.mem_of_getElem? (get_byte h), by simp [hb]⟩
theorem isDig_lo {c : UInt8} (h : (c.toNat : Int) < 48) : isDig c = false := by unfold isDig; simp; omega
theorem isDig_hi {c : UInt8} (h : (57 : Int) < (c.toNat : Int)) : isDig c = false := by unfold isDig; simp; omega
theorem isDig_in {c : UInt8} (h : ¬ (c.toNat : Int) < 48) (h2 : ¬ (57 : Int) < (c.toNat : Int)) : isDig c = true := by unfold isDig; simp; omega
theorem isInt_bad {l : List UInt8} (h : digs l = false) : isInt l = false := by unfold isInt; rw [h]; rfl
theorem isInt_tail {s : ByteArray} (h : digs s.data.toList = true) (h0 : 0 < s.size) : isInt s.data.toList = (decide (s.size = 1) || !((s[0].toNat : Int) == 48)) := by
  have hl : s.data.toList.length = s.size := by simp
  unfold isInt
  rw [h]
  have hg := get_byte h0
  rcases hd : s.data.toList with _ | ⟨c, l⟩
  · rw [hd] at hl; simp at hl; omega
  · rw [hd] at hg hl
    have hc : c = s[0] := by simpa using hg
    rw [← hc]
    rcases l with _ | ⟨c2, l⟩
    · have : s.size = 1 := by simp at hl; omega
      rw [this]
      by_cases h1 : c = 48
      · subst h1; rfl
      · simp [h1]
    · have : s.size ≠ 1 := by simp at hl; omega
      simp only [this, decide_false, Bool.false_or]
      by_cases h1 : c = 48
      · subst h1; rfl
      · have h2 : ¬ ((c.toNat : Int) = 48) := fun e => h1 (UInt8.toNat_inj.1 (by show c.toNat = 48; omega))
        simp [h1]
        intro e
        exact h1 (UInt8.toNat_inj.1 (by show c.toNat = 48; omega))
/-- at least one digit -/
def someB (l : List UInt8) : Bool := digs l && decide (l ≠ [])
def st (l : List UInt8) : ByteArray := ⟨l.toArray⟩
theorem st_data (l : List UInt8) : (st l).data.toList = l := rfl
theorem st_size (l : List UInt8) : (st l).size = l.length := by simp [st, ByteArray.size]
theorem st_self (s : ByteArray) : st s.data.toList = s := ext_bytes rfl
/-- the two parts of a text at the first byte c -/
def cutL (c : UInt8) (l : List UInt8) : List UInt8 × List UInt8 × Bool := if c ∈ l then (upTo c l, behind c l, true) else (l, [], false)
def CutPost (x : List UInt8 × List UInt8 × Bool) (w : World) (e : Ending) (w' : World) : Prop :=
  e = .returned (.tuple #[.string (st x.1), .string (st x.2.1), .bool x.2.2]) ∧ Below w.heap.size w w'
theorem cut_at {s : ByteArray} {k : Nat} {c : UInt8} (h : k < s.size) (hn : c ∉ s.data.toList.take k) (hc : s[k] = c) :
    st (cutL c s.data.toList).1 = s.extract 0 k ∧ st (cutL c s.data.toList).2.1 = s.extract (k + 1) s.size ∧ (cutL c s.data.toList).2.2 = true := by
  have e : s.data.toList = s.data.toList.take k ++ c :: s.data.toList.drop (k + 1) := by
    conv => lhs; rw [← List.take_append_drop k s.data.toList]
    rw [RnA.drop_at (get_byte h), hc]
  have hm : c ∈ s.data.toList := by rw [e]; simp
  obtain ⟨h1, h2⟩ := upTo_app (b := s.data.toList.drop (k + 1)) hn
  rw [← e] at h1 h2
  unfold cutL
  rw [if_pos hm]
  refine ⟨?_, ?_, rfl⟩
  · refine ext_bytes ?_
    rw [st_data, h1]
    simp [ByteArray.data_extract]
  · refine ext_bytes ?_
    rw [st_data, h2, drop_bytes]
theorem cut_none {s : ByteArray} {c : UInt8} (hn : c ∉ s.data.toList) : cutL c s.data.toList = (s.data.toList, [], false) := by unfold cutL; rw [if_neg hn]
end Go.Proofs.YtpbgmpjnfndfjaaGreatDoor.RoL
namespace Go.Proofs.YtpbgmpjnfndfjaaGreatDoor.RoM
theorem here : True := trivial
open Go.RowKit RnA RnB RnS RnC RnK RnM RnL RnN RnD RnE RnQ RnR RnP RnW RoA RoB RoC RoD RoE RoF RoG RoH RoI RoL
theorem digs_at {s : ByteArray} {i : Nat} {c : UInt8} (h : digs s.data.toList = true) (hc : s.data.toList[i]? = some c) : 48 ≤ c.toNat ∧ c.toNat ≤ 57 := digs_mem h (List.mem_of_getElem? hc)
theorem dec_take {s : ByteArray} {i : Nat} {c : UInt8} (hc : s.data.toList[i]? = some c) : dec (s.data.toList.take (i + 1)) = 10 * dec (s.data.toList.take i) + (c.toNat - 48) := by
  rw [List.take_add_one, hc]
  exact dec_snoc _ _
end Go.Proofs.YtpbgmpjnfndfjaaGreatDoor.RoM
namespace Go.Proofs.YtpbgmpjnfndfjaaGreatDoor.RoN
theorem here : True := trivial
open Go.RowKit RnA RnB RnS RnC RnK RnM RnL RnN RnD RnE RnQ RnR RnP RnW RoA RoB RoC RoD RoE RoF RoG RoH RoI RoL RoM
/-- the number of digits is bounded by the number of limbs -/
theorem pow_bound {N V n k : Nat} (h : 10 ^ n * V ≤ N) (hV : V ≠ 0) (hk : sz N ≤ k) : n < 10 * k + 1 := by
  have h1 : 10 ^ n * 1 ≤ 10 ^ n * V := Nat.mul_le_mul_left _ (by omega)
  have h2 : N < 10 ^ (10 * k) := by
    refine Nat.lt_of_lt_of_le (sz_lt N) ?_
    refine Nat.le_trans (Nat.pow_le_pow_right (by omega) hk) ?_
    rw [Nat.pow_mul]
    exact Nat.pow_le_pow_left (by decide) k
  rcases Nat.lt_or_ge n (10 * k + 1) with h3 | h3
  · exact h3
  · have : 10 ^ (10 * k) ≤ 10 ^ n := Nat.pow_le_pow_right (by omega) (by omega)
    omega
theorem pow_next {N V n : Nat} (h : 10 ^ n * V ≤ N) : 10 ^ (n + 1) * (V / 10) ≤ N := by
  rw [Nat.pow_succ, Nat.mul_assoc]
  exact Nat.le_trans (Nat.mul_le_mul_left _ (Nat.mul_div_le V 10)) h
/-- the digits found so far -/
def Coll (N : Nat) (D : List UInt8) (V : Nat) : Prop := if N = 0 then D = [] ∧ V = 0 else Wr N D V ∧ (V = 0 → D ≠ [])
theorem Coll.start (N : Nat) : Coll N [] N := by
  unfold Coll
  by_cases h : N = 0
  · rw [if_pos h]; exact ⟨rfl, h⟩
  · rw [if_neg h]; exact ⟨Wr.start h, fun e => absurd e h⟩
theorem Coll.step {N V : Nat} {D : List UInt8} (h : Coll N D V) (hV : V ≠ 0) : Coll N (D ++ [UInt8.ofNat (48 + V % 10)]) (V / 10) := by
  unfold Coll at *
  by_cases h0 : N = 0
  · rw [if_pos h0] at h; exact absurd h.2 hV
  · rw [if_neg h0] at h ⊢
    exact ⟨h.1.step hV, fun _ => by simp⟩
theorem Coll.zero {N : Nat} {D : List UInt8} (h : Coll N D 0) (hD : D = []) : N = 0 := by
  unfold Coll at h
  by_cases h0 : N = 0
  · exact h0
  · rw [if_neg h0] at h; exact absurd hD (h.2 rfl)
theorem Coll.fin {N : Nat} {D : List UInt8} (h : Coll N D 0) (hD : D ≠ []) : decOf N = D.reverse := by
  unfold Coll at h
  by_cases h0 : N = 0
  · rw [if_pos h0] at h; exact absurd h.1 hD
  · rw [if_neg h0] at h
    have := h.1
    unfold Wr at this
    rwa [if_pos rfl] at this
end Go.Proofs.YtpbgmpjnfndfjaaGreatDoor.RoN
