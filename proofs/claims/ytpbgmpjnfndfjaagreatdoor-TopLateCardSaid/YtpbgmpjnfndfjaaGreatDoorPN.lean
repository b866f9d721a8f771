/- PnA, PnB, PnC, PnD, PnE, PnF, PnK, in one text. -/
import Derived.Shelf.Strings.SlTrimAscii
import Derived.Shelf.Strings.Cut
import Derived.Shelf.Strings.Prefix
import Derived.Test.YtpbgmpjnfndfjaaGreatDoorRO
import Derived.Test.YtpbgmpjnfndfjaaGreatDoorShelf
namespace Go.Proofs.YtpbgmpjnfndfjaaGreatDoor.PnA
theorem here : True := trivial
open Go.RowKit RnA RnB RnS RnC RnK RnM RnL RnN RnD RnE RnQ RnR RnP RnW RoA RoB RoC RoD RoE RoF RoG RoH RoI RoL
set_option maxHeartbeats 1000000000000 in
theorem trim_any (l : List Nat) (A : Option Addr) (n c : Nat) (w : World) (hn : l.length = n) (h : LAt w w.heap.size A l) (hc : n ≤ c) :
    Calls Tryz.prog 160 #[.slice A n c] w fun e w' => e = .returned (.slice A (limbs (lval l)).length c) ∧ w = w' := by
  subst hn
  have hlen := h.len
  have H := hide h
  clear h
  go_enter Tryz.func160, Tryz.ntmps160
  go_wp2_with fail
  go_loop [3] (fun vn => ∃ m : Nat, m ≤ l.length ∧ vn = .int .i64 m ∧ Hid (lval (l.drop m) = 0)) (fun vn => (intOf vn).toNat)
  case atStart => exact ⟨l.length, by omega, rfl, by show lval _ = 0; rw [List.drop_length]; rfl⟩
  case round =>
    obtain ⟨m, hm, rfl, hz⟩ := hrel
    rcases Nat.eq_zero_or_pos m with h0 | h0
    · have hfin : Hid ((limbs (lval l)).length = m) := by
        show _ = m
        rw [← strip_take H.out.ok hm hz.out (by omega), take_len hm]
      subst h0
      go_wp2_with fail
      go_ret
      exact ⟨by rw [hfin.out]; rfl, rfl⟩
    · obtain ⟨j, rfl⟩ : ∃ j, m = j + 1 := ⟨m - 1, by omega⟩
      obtain ⟨x, hx⟩ : ∃ x, l[j]? = some x := ⟨_, List.getElem?_eq_getElem (by omega)⟩
      obtain ⟨b, off, rfl, hb, hcl⟩ := H.out.2.2 (by omega)
      have c0 := hcl j x hx
      have HX := hide hx
      clear hcl hx h0
      cases hx0 : ((x : Int) == 0)
      · have hfin : Hid ((limbs (lval l)).length = j + 1) := by
          show _ = j + 1
          rw [← strip_take H.out.ok hm hz.out (fun y _ hy e => by
            rw [Nat.add_sub_cancel, HX.out] at hy
            injection hy with hy
            subst hy; subst e
            simp at hx0), take_len hm]
        go_wp2_with fail
        go_ret
        exact ⟨by rw [hfin.out]; rfl, rfl⟩
      · have hz2 : Hid (lval (l.drop j) = 0) := by
          have : x = 0 := by simpa using hx0
          subst this
          exact lval_zero_at HX.out hz.out
        go_wp2_with fail
        go_round
        case rel => exact ⟨j, by omega, rfl, hz2⟩
        case measure => simp [intOf]
theorem len0 {s : ByteArray} (h : s.size = 0) : s.data.toList = [] := List.eq_nil_of_length_eq_zero (by simpa using h)
/-- a text without the bytes c at its head -/
def dropC (c : UInt8) (l : List UInt8) : List UInt8 := l.dropWhile (· == c)
def szOf : Value → Nat
  | .string t => t.size
  | _ => 0
theorem byte0 {t : ByteArray} (h : 0 < t.size) : t.data.toList = t[0] :: t.data.toList.drop 1 := by
  have := RnA.drop_at (get_byte h)
  simpa using this
set_option maxHeartbeats 1000000000000 in
theorem trimByte_any (s : ByteArray) (c : UInt8) (w : World) (hs : s.size ≤ 9223372036854775807) :
    Calls Tryz.prog 201 #[.string s, .int .u8 (c.toNat : Int)] w fun e w' => e = .returned (.string (st (dropC c s.data.toList))) ∧ w = w' := by
  go_enter Tryz.func201, Tryz.ntmps201
  go_wp2_with fail
  go_loop [0] (fun v => ∃ t : ByteArray, v = .string t ∧ t.size ≤ 9223372036854775807 ∧ Hid (dropC c t.data.toList = dropC c s.data.toList)) (fun v => szOf v)
  case atStart => exact ⟨s, rfl, hs, rfl⟩
  case round =>
    obtain ⟨t, rfl, ht, HT⟩ := hrel
    by_cases h0 : 0 < t.size
    · have hb := hide (byte0 h0)
      cases hc : ((t[0].toNat : Int) == (c.toNat : Int))
      · have hne : ¬ t[0] = c := fun e => by rw [e] at hc; simp at hc
        have hfin : Hid (st (dropC c s.data.toList) = t) := by
          show _ = _
          have : dropC c t.data.toList = t.data.toList := by
            unfold dropC
            rw [hb.out, List.dropWhile_cons, if_neg (by simpa using hne)]
          rw [← HT.out, this, st_self]
        clear hne
        go_wp2_with fail
        go_ret
        exact ⟨ret_str hfin.out.symm, rfl⟩
      · have hcc : t[0] = c := UInt8.toNat_inj.1 (Int.ofNat_inj.1 (by simpa using hc))
        have hnx : Hid (dropC c (t.extract 1 t.size).data.toList = dropC c s.data.toList) := by
          show _ = _
          rw [← HT.out, drop_bytes]
          unfold dropC
          conv => rhs; rw [hb.out]
          rw [List.dropWhile_cons, if_pos (by simpa using hcc)]
        clear hcc
        go_wp2_with fail
        go_round
        case rel => exact ⟨t.extract 1 t.size, rfl, by simp; omega, hnx⟩
        case measure => simp [szOf]; omega
    · have hfin : Hid (st (dropC c s.data.toList) = t) := by
        show _ = _
        have e : t.data.toList = [] := len0 (by omega)
        rw [← HT.out, e]
        refine ext_bytes ?_
        rw [e]; rfl
      go_wp2_with fail
      go_ret
      exact ⟨ret_str hfin.out.symm, rfl⟩
set_option maxHeartbeats 1000000000000 in
set_option maxRecDepth 100000000000 in
theorem trimLeft_any (s : ByteArray) (c : UInt8) (w : World) (hs : s.size ≤ 9223372036854775807) (hc : c.toNat < 128) :
    Calls Tryz.prog 158 #[.string s, .string ⟨#[c]⟩] w fun e w' => e = .returned (.string (st (dropC c s.data.toList))) ∧ w = w' := by
  by_cases h0 : 0 < s.size
  · obtain ⟨h1, h2⟩ := str_ne h0
    have hci : (((⟨#[c]⟩ : ByteArray)[0]'(Nat.zero_lt_one)).toNat : Int) < 128 := by show (c.toNat : Int) < 128; omega
    clear hc
    go_enter Tryz.func158, Tryz.ntmps158
    go_wp2_with fail
    refine (trimByte_any s c _ hs).mono ?_
    rintro e w1 ⟨rfl, rfl⟩
    go_wp2_with fail
    go_ret
    exact ⟨rfl, rfl⟩
  · obtain ⟨h1, h2⟩ := str_em (s := s) (by omega)
    have hfin : Hid (st (dropC c s.data.toList) = s) := by
      show _ = _
      have e : s.data.toList = [] := len0 (by omega)
      refine ext_bytes ?_
      rw [e]; rfl
    go_enter Tryz.func158, Tryz.ntmps158
    go_wp2_with fail
    go_ret
    exact ⟨ret_str hfin.out.symm, rfl⟩
theorem dropC_zero (s : ByteArray) : st (dropC 0 s.data.toList) = bs (nv s) := by
  refine ext_bytes ?_
  show dropC 0 s.data.toList = bytesOf _
  unfold dropC nv
  rw [dropZ_eq]
set_option maxHeartbeats 1000000000000 in
theorem norm_any (s : ByteArray) (w : World) (hs : s.size ≤ 9223372036854775807) :
    Calls Tryz.prog 114 #[.string s] w fun e w' => e = .returned (.string (bs (nv s))) ∧ w = w' := by
  have hz := Lib.hid (dropC_zero s)
  go_enter Tryz.func114, Tryz.ntmps114
  go_wp2_with fail
  refine (trimLeft_any s 0 _ hs (by decide)).mono ?_
  rintro e w1 ⟨rfl, rfl⟩
  rw [hz.out]
  go_wp2_with fail
  go_ret
  exact ⟨rfl, rfl⟩
end Go.Proofs.YtpbgmpjnfndfjaaGreatDoor.PnA
namespace Go.Proofs.YtpbgmpjnfndfjaaGreatDoor.PnB
theorem here : True := trivial
open Go.RowKit RnA RnB RnS RnC RnK RnM RnL RnN RnD RnE RnQ RnR RnP RnW RoA RoB RoC RoD RoE RoF RoG RoH RoI RoL PnA
set_option maxHeartbeats 2000000000000 in
set_option maxRecDepth 100000000000 in
theorem parse_any (t : ByteArray) (w : World) (htl : t.size ≤ 1000000000000) :
    Calls Tryz.prog 118 #[.string t] w (LPost (limbs (nv t)) w) := by
  obtain ⟨i0, hi0, hz0, hz1, hz2⟩ := info_parts u32Info
  have p0 : IntKind.i64.wrap ((t.size : Int) + 4 - 1) = (t.size : Int) + 3 := by rw [IntWalk.i64_in _ (by omega)]; omega
  go_enter Tryz.func118, Tryz.ntmps118
  go_wp2_with (first
    | (at_make
       refine wpList_make_full _ rfl (.tmp 9) (.tmp 9) 217 rfl w.heap.size 219 i0 _ 1 Tryz.underlying217 hi0 hz0 hz1 .i64 .i64 _ _ ((t.size + 3) / 4) rfl rfl ?c1 ?c2 ?c3 ?c4 ?c5 ?_
       case c1 => omega
       case c2 => omega
       case c3 => rw [hz2]; omega
       case c4 => unfold maxLen; omega
       case c5 => exact Nat.le_refl _
       intro w2 hown hg))
  rw [made_uv] at hown
  have hb2 : Below w.heap.size w w2 := (Below.refl _ _).grown hg (Nat.le_refl _) (by simp)
  have hgl : w.heap.size < w2.heap.size := (hown.lt _ rfl).2
  clear hg
  go_loopw [13] (fun vi wr => ∃ (i : Nat) (out : List Nat), i ≤ t.size ∧ vi = .int .i64 i ∧ out.length = (t.size + 3) / 4 ∧ Hid (Ok out) ∧ Hid (lval out = bval (t.data.toList.drop (t.size - i))) ∧ wr.ownsRow w.heap.size 219 1 (.slice (some ⟨w.heap.size, 0, none⟩) ((t.size + 3) / 4) ((t.size + 3) / 4)) ((t.size + 3) / 4) (uv out) ∧ Below w.heap.size w wr) (fun vi _ => t.size - (intOf vi).toNat)
  case atStart => exact ⟨0, List.replicate ((t.size + 3) / 4) 0, by omega, rfl, by simp, Ok.replicate _, by show _ = _; rw [lval_replicate, Nat.sub_zero, List.drop_eq_nil_of_le (by simp)]; rfl, hown, hb2⟩
  case round =>
    obtain ⟨i, out, hi, rfl, hol, HO, HV, hown, hbr⟩ := hrel
    by_cases hlt : i < t.size
    · obtain ⟨x, hx⟩ : ∃ x, out[i / 4]? = some x := ⟨_, List.getElem?_eq_getElem (by omega)⟩
      have cx : wr.cell? ⟨w.heap.size, i / 4, none⟩ = some (.int .u32 (x : Int)) := (hown.cellAt (i / 4) (by omega)).trans (uv_get hx)
      have fx := hown.frozenAt (i / 4)
      obtain ⟨c, hc⟩ : ∃ c, t.data.toList[t.size - 1 - i]? = some c := ⟨_, List.getElem?_eq_getElem (by simp; omega)⟩
      have hix := index_at t ((t.size : Int) - 1 - (i : Int)) (t.size - 1 - i) c (by omega) hc
      have HC := hide hc
      clear hc
      have HX := hide hx
      clear hx
      go_wp2_with fail
      go_region
      have hsm : x < 256 ^ (i % 4) := by
        refine limb_small ?_ HX.out
        rw [HV.out]
        refine Nat.lt_of_lt_of_le (bval_lt _) (Nat.pow_le_pow_right (by omega) ?_)
        simp
        omega
      have hcl := c.toNat_lt
      have hor := or_byte hsm hcl (Nat.mod_lt i (by omega))
      obtain ⟨hos, hgs⟩ := hown.stored (i / 4) (.int .u32 ((x + c.toNat * 256 ^ (i % 4) : Nat) : Int))
      rw [uv_set] at hos
      have hbs := hbr.setCell (p := ⟨w.heap.size, i / 4, none⟩) (Nat.le_refl _) (.int .u32 ((x + c.toNat * 256 ^ (i % 4) : Nat) : Int))
      have hval : Hid (lval (out.set (i / 4) (x + c.toNat * 256 ^ (i % 4))) = bval (t.data.toList.drop (t.size - (i + 1)))) := by
        show _ = _
        have h1 : t.size - (i + 1) = t.size - 1 - i := by omega
        rw [h1, lval_put HX.out, HV.out, bval_drop HC.out, show t.size - 1 - i + 1 = t.size - i by omega]
        have h2 : t.data.toList.length - (t.size - i) = i := by simp; omega
        rw [h2]; omega
      have hok : Hid (Ok (out.set (i / 4) (x + c.toNat * 256 ^ (i % 4)))) := HO.out.set _ (byte_fit hsm hcl (Nat.mod_lt i (by omega)))
      have HOR := Lib.hid hor
      clear hix cx fx hor
      rw [HOR.out]
      go_wp2_with fail
      go_roundw
      case rel => exact ⟨i + 1, _, by omega, by go_num, by rw [List.length_set]; exact hol, hok, hval, hos, hbs.drew⟩
      case measure => simp [intOf]; omega
    · have hv : Hid (lval out = nv t) := by
        show _ = _
        rw [HV.out, show t.size - i = 0 by omega, List.drop_zero]; rfl
      have hL := LAt.of_own hown HO.out
      obtain ⟨hL2, hle⟩ := LAt.strip hL
      rw [hv.out] at hL2 hle
      have hcap := own_cap hown
      have H1 := hide hL
      have H2 := hide hL2
      clear hL hL2
      go_wp2_with fail
      refine (trim_any out _ _ _ _ hol H1.out (Nat.le_refl _)).mono ?_
      rintro e w3 ⟨rfl, rfl⟩
      rw [hv.out]
      go_wp2_with fail
      go_ret
      exact ⟨_, _, rfl, by omega, hcap.2, H2.out, hbr⟩
theorem low_step {V L k : Nat} {b : List UInt8} {c : UInt8} (h : bval (b.drop (L - k)) = V % 256 ^ k) (hl : b.length = L) (hk : k < L) (hc : c.toNat = V / 256 ^ k % 256) :
    bval ((b.set (L - 1 - k) c).drop (L - (k + 1))) = V % 256 ^ (k + 1) := by
  have e : L - (k + 1) = L - 1 - k := by omega
  rw [e, RnA.drop_at (x := c) (by rw [List.getElem?_set_self (by omega)]), List.drop_set_of_lt (by omega), bval, show L - 1 - k + 1 = L - k by omega, h, hc, List.length_drop, hl, show L - (L - k) = k by omega, Nat.mod_pow_succ]
  omega
set_option maxHeartbeats 2000000000000 in
set_option maxRecDepth 100000000000 in
theorem text_any (l : List Nat) (A : Option Addr) (n c : Nat) (w : World) (h : LAt w w.heap.size A l) (hn : l.length = n) (hl : n ≤ 1000000000000) :
    Calls Tryz.prog 119 #[.slice A n c] w (SPost (bs (lval l)) w) := by
  obtain ⟨i0, hi0, hz0, hz1, hz2⟩ := info_parts u8Info
  have H := hide h
  have HN := hide hn
  clear h hn
  go_enter Tryz.func119, Tryz.ntmps119
  go_wp2_with (first
    | (at_make
       refine wpList_make_full _ rfl (.tmp 7) (.tmp 7) 261 rfl w.heap.size 5 i0 _ 1 Tryz.underlying261 hi0 hz0 hz1 .i64 .i64 _ _ (n * 4) rfl rfl ?c1 ?c2 ?c3 ?c4 ?c5 ?_
       case c1 => omega
       case c2 => omega
       case c3 => rw [hz2]; omega
       case c4 => unfold maxLen; omega
       case c5 => exact Nat.le_refl _
       intro w2 hown hg))
  rw [made_bv] at hown
  have hb2 : Below w.heap.size w w2 := (Below.refl _ _).grown hg (Nat.le_refl _) (by simp)
  clear hg
  generalize hL : n * 4 = L at hown
  have HLL := hide hL
  have hLm : L ≤ 4000000000000 := by omega
  have hLn : (n : Int) * 4 = (L : Int) := by omega
  clear hL
  go_loopw [11] (fun vi wr => ∃ (i : Nat) (b : List UInt8), i ≤ L ∧ vi = .int .i64 i ∧ Hid (b.length = L) ∧ Hid (bval (b.drop (L - i)) = lval l % 256 ^ i) ∧ wr.ownsRow w.heap.size 5 1 (.slice (some ⟨w.heap.size, 0, none⟩) L L) L (bv b) ∧ Below w.heap.size w wr) (fun vi _ => L - (intOf vi).toNat)
  case atStart => exact ⟨0, List.replicate L 0, by omega, rfl, by show _ = _; simp, by show _ = _; rw [List.drop_eq_nil_of_le (by simp)]; simp [bval, Nat.mod_one], hown, hb2⟩
  case round =>
    obtain ⟨i, b, hi, rfl, HB, HV, hown, hbr⟩ := hrel
    by_cases hlt : i < L
    · obtain ⟨x, hx⟩ : ∃ x, l[i / 4]? = some x := ⟨_, List.getElem?_eq_getElem (by have := HN.out; have := HLL.out; omega)⟩
      obtain ⟨b1, o1, rfl, hb1, hc1⟩ := (H.out.below hbr).2.2 (by have := HN.out; have := HLL.out; omega)
      have c1 := hc1 _ x hx
      have fz := hown.frozenAt (L - 1 - i)
      obtain ⟨z, hz⟩ : ∃ z, b[L - 1 - i]? = some z := ⟨_, List.getElem?_eq_getElem (by have := HB.out; omega)⟩
      have cz : wr.cell? ⟨w.heap.size, L - 1 - i, none⟩ = some (.int .u8 (z.toNat : Int)) := (hown.cellAt (L - 1 - i) (by omega)).trans (bv_get hz)
      have hbyte := lval_byte H.out.ok hx
      have hin : i / 4 < n := by have := HLL.out; omega
      have hxl := H.out.ok.at_ hx
      have HBY := hide hbyte
      obtain ⟨y, hy⟩ : ∃ y, x / 256 ^ (i % 4) = y := ⟨_, rfl⟩
      have hyl : y < 4294967296 := by rw [← hy]; exact Nat.lt_of_le_of_lt (Nat.div_le_self _ _) hxl
      have p1 : (x : Int) / 2 ^ (8 * (i % 4)) = (y : Int) := by
        rw [← hy, ← pow256]; simp
      rw [hy] at HBY
      have hcy : (UInt8.ofNat (y % 256)).toNat = y % 256 := toNat_ofNat (Nat.mod_lt _ (by omega))
      have hval : Hid (bval ((b.set (L - 1 - i) (UInt8.ofNat (y % 256))).drop (L - (i + 1))) = lval l % 256 ^ (i + 1)) :=
        low_step HV.out HB.out hlt (by rw [hcy, HBY.out])
      obtain ⟨hos, hgs⟩ := hown.stored (L - 1 - i) (.int .u8 (((UInt8.ofNat (y % 256)).toNat : Nat) : Int))
      rw [bv_set] at hos
      have hbs := hbr.setCell (p := ⟨w.heap.size, L - 1 - i, none⟩) (Nat.le_refl _) (.int .u8 (((UInt8.ofNat (y % 256)).toNat : Nat) : Int))
      have e3 : (((UInt8.ofNat (y % 256)).toNat : Nat) : Int) = (y : Int) % 256 := by rw [hcy]; omega
      rw [e3] at hos hbs
      have hlen : Hid ((b.set (L - 1 - i) (UInt8.ofNat (y % 256))).length = L) := by show _ = _; rw [List.length_set]; exact HB.out
      have p3 : ((L : Int) - 1 - (i : Int)).toNat = L - 1 - i := by omega
      have p4 : 0 ≤ (L : Int) - 1 - (i : Int) := by omega
      have p5 : (L : Int) - 1 - (i : Int) < (L : Int) := by omega
      clear hc1 hx hz hbyte hy hcy e3
      go_wp2_with fail
      go_roundw
      case rel => exact ⟨i + 1, _, by omega, by go_num, hlen, hval, hos, hbs⟩
      case measure => simp [intOf]; omega
    · obtain rfl : i = L := by omega
      have hnv : Hid (bs (nv ⟨b.toArray⟩) = bs (lval l)) := by
        show _ = _
        congr 1
        show bval b = lval l
        have h := HV.out
        rw [Nat.sub_self, List.drop_zero] at h
        rw [h, Nat.mod_eq_of_lt]
        have h2 := lval_lt H.out.ok
        rw [HN.out] at h2
        rw [← HLL.out, Nat.mul_comm, pow4]
        exact h2
      have hv0 : ¬ (Value.slice (some ⟨w.heap.size, 0, none⟩) i i = .slice none 0 0) := by simp
      obtain ⟨g2, c2, hv, hcv⟩ := conv_own hown hv0
      injection hv with hv1 hv2 hv3
      injection hv1 with hv1
      injection hv1 with hv1
      subst hv1; subst hv3
      clear hv2
      rw [HB.out] at hcv
      have hsz : (⟨b.toArray⟩ : ByteArray).size ≤ 9223372036854775807 := by
        have := HB.out
        simp [ByteArray.size]; omega
      have HSZ := hide hsz
      clear hv0 hsz
      go_wp2_with fail
      refine (norm_any _ _ HSZ.out).mono ?_
      rintro e w3 ⟨rfl, rfl⟩
      rw [hnv.out]
      go_wp2_with fail
      go_ret
      exact ⟨rfl, hbr⟩
end Go.Proofs.YtpbgmpjnfndfjaaGreatDoor.PnB
namespace Go.Proofs.YtpbgmpjnfndfjaaGreatDoor.PnC
theorem here : True := trivial
open Go.RowKit RnA RnB RnS RnC RnK RnM RnL RnN RnD RnE RnQ RnR RnP RnW RoA RoB RoC RoD RoE RoF RoG RoH RoI RoL PnA PnB
def sgnI (n : Int) : Int := if n < 0 then -1 else if 0 < n then 1 else 0
theorem sgnI_lt {n : Int} (h : n < 0) : sgnI n = -1 := by unfold sgnI; rw [if_pos h]
theorem sgnI_gt {n : Int} (h : 0 < n) : sgnI n = 1 := by unfold sgnI; rw [if_neg (by omega), if_pos h]
theorem sgnI_eq {n : Int} (h : n = 0) : sgnI n = 0 := by unfold sgnI; rw [if_neg (by omega), if_neg (by omega)]
set_option maxHeartbeats 1000000000000 in
theorem sign_any (n : Int) (w : World) :
    Calls Tryz.prog 146 #[.int .i64 n] w fun e w' => e = .returned (.int .i64 (sgnI n)) ∧ w = w' := by
  rcases (by omega : n < 0 ∨ 0 < n ∨ n = 0) with h | h | h
  · have hr := hide (sgnI_lt h)
    go_enter Tryz.func146, Tryz.ntmps146
    go_wp2_with fail
    go_ret
    exact ⟨ret_int hr.out.symm, rfl⟩
  · have hr := hide (sgnI_gt h)
    go_enter Tryz.func146, Tryz.ntmps146
    go_wp2_with fail
    go_ret
    exact ⟨ret_int hr.out.symm, rfl⟩
  · have hr := hide (sgnI_eq h)
    subst h
    go_enter Tryz.func146, Tryz.ntmps146
    go_wp2_with fail
    go_ret
    exact ⟨ret_int hr.out.symm, rfl⟩
set_option maxHeartbeats 2000000000000 in
theorem cmp_any (x y : Nat) (A B : Option Addr) (c c' : Nat) (w : World) (ha : LAt w w.heap.size A (limbs x)) (hb : LAt w w.heap.size B (limbs y)) :
    Calls Tryz.prog 121 #[.slice A (limbs x).length c, .slice B (limbs y).length c'] w fun e w' => e = .returned (.int .i64 (cmpN x y)) ∧ Below w.heap.size w w' := by
  have hla := ha.len
  have hlb := hb.len
  have hlt1 : (limbs x).length < (limbs y).length → x < y := limbs_len_lt
  have hlt2 : (limbs y).length < (limbs x).length → y < x := limbs_len_lt
  have HLT1 := Lib.hid hlt1
  have HLT2 := Lib.hid hlt2
  have HVA := hide (lval_limbs x)
  have HVB := hide (lval_limbs y)
  have HA := hide ha
  have HB := hide hb
  clear ha hb hlt1 hlt2
  generalize limbs x = a at *
  generalize limbs y = b at *
  by_cases hle : a.length = b.length
  · have HLEN := hide hle
    have hne : ((a.length : Int) != (b.length : Int)) = false := by simp; omega
    clear hle
    go_enter Tryz.func121, Tryz.ntmps121
    go_wp2_with fail
    go_loopw [5] (fun vi wr => ∃ k : Nat, k ≤ a.length ∧ vi = .int .i64 ((k : Int) - 1) ∧ Hid (a.drop k = b.drop k) ∧ Below w.heap.size w wr) (fun vi _ => (intOf vi + 1).toNat)
    case atStart => exact ⟨a.length, Nat.le_refl _, rfl, by show _ = _; rw [List.drop_length, List.drop_eq_nil_of_le (by rw [HLEN.out]; exact Nat.le_refl _)], Below.refl _ _⟩
    case round =>
      obtain ⟨k, hk, rfl, HD, hbr⟩ := hrel
      rcases Nat.eq_zero_or_pos k with h0 | h0
      · subst h0
        have hr : Hid ((0 : Int) = cmpN x y) := by
          refine cmpN_eq ?_
          have := HD.out
          rw [List.drop_zero, List.drop_zero] at this
          rw [← HVA.out, ← HVB.out, this]
        go_wp2_with fail
        go_ret
        exact ⟨ret_int hr.out, hbr⟩
      · obtain ⟨j, rfl⟩ : ∃ j, k = j + 1 := ⟨k - 1, by omega⟩
        obtain ⟨p, hp⟩ : ∃ p, a[j]? = some p := ⟨_, List.getElem?_eq_getElem (by omega)⟩
        obtain ⟨q, hq⟩ : ∃ q, b[j]? = some q := ⟨_, List.getElem?_eq_getElem (by have := HLEN.out; omega)⟩
        obtain ⟨b1, o1, rfl, hb1, hc1⟩ := (HA.out.below hbr).2.2 (by omega)
        obtain ⟨b2, o2, rfl, hb2, hc2⟩ := (HB.out.below hbr).2.2 (by have := HLEN.out; omega)
        have c1 := hc1 j p hp
        have c2 := hc2 j q hq
        have hjb : j < b.length := by have := HLEN.out; omega
        have HP := hide hp
        have HQ := hide hq
        have e1 : (((j + 1 : Nat) : Int) - 1) = j := by omega
        rw [e1]
        clear hc1 hc2 hp hq h0
        rcases (by omega : p < q ∨ q < p ∨ p = q) with h | h | h
        · have hr := hide (cmpN_lt (x := x) (y := y) (by rw [← HVA.out, ← HVB.out]; exact lval_cmp HA.out.ok HLEN.out HD.out HP.out HQ.out h))
          have t1 : ((p : Int) != (q : Int)) = true := by simp; omega
          go_wp2_with fail
          go_quiet (fail)
          go_wp2_with fail
          go_quiet (fail)
          go_wp2_with fail
          go_ret
          exact ⟨ret_int hr.out, below_drewN (below_drewN hbr _) _⟩
        · have hr := hide (cmpN_gt (x := x) (y := y) (by rw [← HVA.out, ← HVB.out]; exact lval_cmp HB.out.ok HLEN.out.symm HD.out.symm HQ.out HP.out h))
          have t1 : ((p : Int) != (q : Int)) = true := by simp; omega
          go_wp2_with fail
          go_quiet (fail)
          go_wp2_with fail
          go_quiet (fail)
          go_wp2_with fail
          go_ret
          exact ⟨ret_int hr.out, below_drewN (below_drewN hbr _) _⟩
        · have hd : Hid (a.drop j = b.drop j) := by
            show _ = _
            rw [drop_at HP.out, drop_at HQ.out, h, HD.out]
          have t1 : ((p : Int) != (q : Int)) = false := by simp; omega
          clear h
          go_wp2_with fail
          go_quiet (fail)
          go_wp2_with fail
          go_roundw
          case rel => exact ⟨j, by omega, rfl, hd, below_drewN hbr _⟩
          case measure => simp [intOf] <;> omega
  · have hne : ((a.length : Int) != (b.length : Int)) = true := by simp; omega
    have hr : Hid (sgnI ((a.length : Int) - (b.length : Int)) = cmpN x y) := by
      show _ = _
      rcases (by omega : a.length < b.length ∨ b.length < a.length) with h | h
      · rw [sgnI_lt (by omega), cmpN_lt (HLT1.out h)]
      · rw [sgnI_gt (by omega), cmpN_gt (HLT2.out h)]
    have hw : IntKind.i64.wrap ((a.length : Int) - (b.length : Int)) = (a.length : Int) - (b.length : Int) := IntWalk.i64_in _ (by omega)
    clear hle
    go_enter Tryz.func121, Tryz.ntmps121
    go_wp2_with fail
    refine (sign_any _ _).mono ?_
    rintro e w1 ⟨rfl, rfl⟩
    rw [hr.out]
    go_wp2_with fail
    go_ret
    exact ⟨rfl, Below.refl _ _⟩
set_option maxHeartbeats 1000000000000 in
theorem from_any (u : Nat) (w : World) (hu : u < 18446744073709551616) :
    Calls Tryz.prog 117 #[.int .u64 (u : Int)] w (SPost (bs u) w) := by
  have hv : lval [u % 4294967296, u / 4294967296] = u := by simp [lval]; omega
  have HV := Lib.hid hv
  have h1 : u % 4294967296 < 4294967296 := Nat.mod_lt _ (by omega)
  have h2 : u / 4294967296 < 4294967296 := by omega
  have HL := fun w => lat_two w (u % 4294967296) (u / 4294967296) 219 h1 h2
  have e1 : ((u % 4294967296 : Nat) : Int) = (u : Int) % 4294967296 := by omega
  have e2 : ((u / 4294967296 : Nat) : Int) = (u : Int) / 4294967296 := by omega
  rw [e1, e2] at HL
  have HL2 := Lib.hid HL
  clear hv HL h1 h2 e1 e2
  go_enter Tryz.func117, Tryz.ntmps117
  go_wp2_with fail
  refine (text_any [u % 4294967296, u / 4294967296] _ 2 2 _ (HL2.out _) rfl (by omega)).mono ?_
  rintro e w1 ⟨rfl, hb1⟩
  rw [HV.out]
  go_wp2_with fail
  go_ret
  exact ⟨rfl, ((Below.refl _ _).alloc (Nat.le_refl _) _).trans (hb1.mono (by simp))⟩
/-- texts of one length compare as their numbers -/
theorem cmpB_eq : ∀ a b : List UInt8, a.length = b.length → Lib.compareBytes a b = cmpN (bval a) (bval b)
  | [], [], _ => by simp [Lib.compareBytes, bval, cmpN]
  | [], _ :: _, h => by simp at h
  | _ :: _, [], h => by simp at h
  | x :: a, y :: b, h => by
    have hl : a.length = b.length := by simpa using h
    have ih := cmpB_eq a b hl
    have ha := bval_lt a
    have hb := bval_lt b
    rw [Lib.compareBytes, ih]
    simp only [bval]
    rw [hl] at ha ⊢
    generalize 256 ^ b.length = P at *
    generalize bval a = u at *
    generalize bval b = v at *
    rcases (by omega : x.toNat < y.toNat ∨ y.toNat < x.toNat ∨ x.toNat = y.toNat) with h2 | h2 | h2
    · have h3 : P * (x.toNat + 1) ≤ P * y.toNat := Nat.mul_le_mul_left _ h2
      rw [Nat.mul_succ] at h3
      rw [if_pos (UInt8.lt_iff_toNat_lt.2 h2)]
      exact cmpN_lt (by omega)
    · have h3 : P * (y.toNat + 1) ≤ P * x.toNat := Nat.mul_le_mul_left _ h2
      rw [Nat.mul_succ] at h3
      have h1 : ¬ x < y := fun h => by have := UInt8.lt_iff_toNat_lt.1 h; omega
      rw [if_neg h1, if_pos (UInt8.lt_iff_toNat_lt.2 h2)]
      exact cmpN_gt (by omega)
    · have h1 : ¬ x < y := fun h => by have := UInt8.lt_iff_toNat_lt.1 h; omega
      have h1' : ¬ y < x := fun h => by have := UInt8.lt_iff_toNat_lt.1 h; omega
      rw [if_neg h1, if_neg h1', h2]
      rcases (by omega : u < v ∨ v < u ∨ u = v) with h4 | h4 | h4
      · rw [← cmpN_lt h4, ← cmpN_lt (by omega)]
      · rw [← cmpN_gt h4, ← cmpN_gt (by omega)]
      · rw [← cmpN_eq h4, ← cmpN_eq (by omega)]
theorem bytes_len_lt {x y : Nat} (h : (bytesOf x).length < (bytesOf y).length) : x < y := by
  rcases Nat.lt_or_ge x y with h1 | h1
  · exact h1
  · have h2 := bval_lt (bytesOf x)
    rw [bval_bytesOf] at h2
    have := bytesOf_len_le (Nat.lt_of_le_of_lt h1 h2)
    omega
set_option maxHeartbeats 1000000000000 in
theorem compare_any (s t : ByteArray) (w : World) (hs : s.size ≤ 1000000000000) (ht : t.size ≤ 1000000000000) :
    Calls Tryz.prog 96 #[.string s, .string t] w fun e w' => e = .returned (.int .i64 (cmpN (nv s) (nv t))) ∧ Below w.heap.size w w' := by
  go_enter Tryz.func96, Tryz.ntmps96
  go_wp2_with fail
  refine (norm_any s _ (by omega)).mono ?_
  rintro e w1 ⟨rfl, rfl⟩
  go_wp2_with fail
  refine (norm_any t _ (by omega)).mono ?_
  rintro e w1 ⟨rfl, rfl⟩
  obtain ⟨a, ha⟩ : ∃ a, bs (nv s) = a := ⟨_, rfl⟩
  obtain ⟨b, hb⟩ : ∃ b, bs (nv t) = b := ⟨_, rfl⟩
  have hal : a.size = (bytesOf (nv s)).length := by rw [← ha]; exact bs_size _
  have hbl : b.size = (bytesOf (nv t)).length := by rw [← hb]; exact bs_size _
  have hs2 : (bytesOf (nv s)).length ≤ 1000000000000 := by
    have h := bytesOf_len_le (bval_lt s.data.toList)
    have h3 : s.data.toList.length = s.size := by simp
    unfold nv; omega
  have ht2 : (bytesOf (nv t)).length ≤ 1000000000000 := by
    have h := bytesOf_len_le (bval_lt t.data.toList)
    have h3 : t.data.toList.length = t.size := by simp
    unfold nv; omega
  have hab : a.size ≤ 1000000000000 := by omega
  have hbb : b.size ≤ 1000000000000 := by omega
  have HA : Hid (a.data.toList = bytesOf (nv s)) := by show _ = _; rw [← ha]; rfl
  have HB : Hid (b.data.toList = bytesOf (nv t)) := by show _ = _; rw [← hb]; rfl
  have HAL := hide hal
  have HBL := hide hbl
  rw [ha, hb]
  clear hal hbl hs2 ht2 ha hb
  by_cases hle : a.size = b.size
  · have hne : ((a.size : Int) != (b.size : Int)) = false := by simp; omega
    have hr : Hid (Lib.compareBytes a.data.toList b.data.toList = cmpN (nv s) (nv t)) := by
      show _ = _
      rw [cmpB_eq _ _ (by simpa using hle), HA.out, HB.out, bval_bytesOf, bval_bytesOf]
    clear hle
    go_wp2_with fail
    refine (Tryz.strings_Compare a b _).mono ?_
    rintro e w1 ⟨rfl, rfl⟩
    rw [hr.out]
    go_wp2_with fail
    go_ret
    exact ⟨rfl, Below.refl _ _⟩
  · have hne : ((a.size : Int) != (b.size : Int)) = true := by simp; omega
    have hr : Hid (sgnI ((a.size : Int) - (b.size : Int)) = cmpN (nv s) (nv t)) := by
      show _ = _
      rcases (by omega : a.size < b.size ∨ b.size < a.size) with h | h
      · rw [sgnI_lt (by omega), cmpN_lt (x := nv s) (y := nv t) (bytes_len_lt (by rw [← HAL.out, ← HBL.out]; exact h))]
      · rw [sgnI_gt (by omega), cmpN_gt (x := nv s) (y := nv t) (bytes_len_lt (by rw [← HAL.out, ← HBL.out]; exact h))]
    clear hle
    go_wp2_with fail
    refine (sign_any _ _).mono ?_
    rintro e w1 ⟨rfl, rfl⟩
    rw [hr.out]
    go_wp2_with fail
    go_ret
    exact ⟨rfl, Below.refl _ _⟩
end Go.Proofs.YtpbgmpjnfndfjaaGreatDoor.PnC
namespace Go.Proofs.YtpbgmpjnfndfjaaGreatDoor.PnD
theorem here : True := trivial
open Go.RowKit RnA RnB RnS RnC RnK RnM RnL RnN RnD RnE RnQ RnR RnP RnW RnX RoA RoB RoC RoD RoE RoF RoG RoH RoI RoL PnA PnB PnC
set_option maxHeartbeats 1000000000000 in
set_option maxRecDepth 100000000000 in
theorem add32_any (x y c T : Nat) (w : World) (hx : x < 4294967296) (hy : y < 4294967296) (hc : c ≤ 1) (hT : x + y + c = T) :
    Calls Tryz.prog 120 #[.int .u32 (x : Int), .int .u32 (y : Int), .int .u32 (c : Int)] w fun e w' => e = .returned (.tuple #[.int .u32 ((T % 4294967296 : Nat) : Int), .int .u32 ((T / 4294967296 : Nat) : Int)]) ∧ w = w' := by
  have p1 : (x : Int) + (y : Int) + (c : Int) = (T : Int) := by omega
  have hTl : T < 8589934592 := by omega
  have e1 : ((T % 4294967296 : Nat) : Int) = (T : Int) % 4294967296 := by omega
  have e2 : ((T / 4294967296 : Nat) : Int) = (T : Int) / 4294967296 := by omega
  rw [e1, e2]
  clear e1 e2 hT
  go_enter Tryz.func120, Tryz.ntmps120
  go_wp2_with fail
  go_ret2
  exact ⟨rfl, rfl⟩
theorem not_xor {x : Nat} (h : x < 4294967296) : 4294967295 ^^^ x = 4294967295 - x := by
  refine Nat.eq_of_testBit_eq fun i => ?_
  rw [Nat.testBit_xor, show 4294967295 - x = 2 ^ 32 - (x + 1) by omega, Nat.testBit_two_pow_sub_succ h, show 4294967295 = 2 ^ 32 - 1 from rfl, Nat.testBit_two_pow_sub_one]
  by_cases hi : i < 32
  · simp [hi]
  · have : x.testBit i = false := Nat.testBit_lt_two_pow (Nat.lt_of_lt_of_le h (Nat.pow_le_pow_right (n := 2) (by omega) (by omega : 32 ≤ i)))
    simp [hi, this]
theorem xor_max {x : Nat} (h : x < 4294967296) : bits BinOp.xor IntKind.u32 IntKind.u32.max (x : Int) = ((4294967295 - x : Nat) : Int) := by
  have := u32_xor_nat 4294967295 x (by omega) h
  rw [not_xor h] at this
  exact this
set_option maxHeartbeats 1000000000000 in
set_option maxRecDepth 100000000000 in
theorem sub32_any (x y b d bo : Nat) (w : World) (hx : x < 4294967296) (hy : y < 4294967296) (hb : b ≤ 1) (hd : d = (x + 8589934592 - y - b) % 4294967296) (hbo : (if x < y + b then 1 else 0) = bo) :
    Calls Tryz.prog 161 #[.int .u32 (x : Int), .int .u32 (y : Int), .int .u32 (b : Int)] w fun e w' => e = .returned (.tuple #[.int .u32 (d : Int), .int .u32 (bo : Int)]) ∧ w = w' := by
  have hbb := borrow_bits hx hy hb hd
  have hdl : d < 4294967296 := by omega
  have q1 : (((x : Int) - (y : Int)) % 4294967296 - (b : Int)) % 4294967296 = (d : Int) := by omega
  have q2 := xor_max hx
  have hxy := xor_lt hx hy
  have q3 := u32_xor_nat x y hx hy
  have q4 := xor_max hxy
  have q5 := u32_and_nat (4294967295 - x) y (by omega) hy
  have q6 := u32_and_nat (4294967295 - (x ^^^ y)) d (by omega) hdl
  have q7 := u32_or_nat ((4294967295 - x) &&& y) ((4294967295 - (x ^^^ y)) &&& d) (and_lt hy) (and_lt hdl)
  rw [hbo] at hbb
  have hsg : IntKind.u32.signed = false := rfl
  generalize ((4294967295 - x) &&& y) ||| ((4294967295 - (x ^^^ y)) &&& d) = C at q7 hbb
  generalize (4294967295 - x) &&& y = A at q5 q7
  generalize (4294967295 - (x ^^^ y)) &&& d = B at q6 q7
  generalize 4294967295 - (x ^^^ y) = NX at q4 q6
  generalize x ^^^ y = X at q3 q4
  generalize 4294967295 - x = NN at q2 q5
  have q8 : (C : Int) / 2147483648 = (bo : Int) := by omega
  clear hbb hd hbo hxy
  go_enter Tryz.func161, Tryz.ntmps161
  go_wp2_with fail
  go_ret2
  have e : Ending.returned (.tuple #[.int .u32 ((((x : Int) - (y : Int)) % 4294967296 - (b : Int)) % 4294967296), .int .u32 (bo : Int)]) = Ending.returned (.tuple #[.int .u32 (d : Int), .int .u32 (bo : Int)]) := by rw [q1]
  exact ⟨e, rfl⟩
theorem nv_le {s : ByteArray} {k : Nat} (h : s.size ≤ 4 * k) : sz (nv s) ≤ k := by
  unfold nv
  exact sz_bytes (by simpa using h)
set_option maxHeartbeats 4000000000000 in
set_option maxRecDepth 100000000000 in
theorem add_any (s t : ByteArray) (w : World) (hs : s.size ≤ 100000000000) (ht : t.size ≤ 100000000000) :
    Calls Tryz.prog 75 #[.string s, .string t] w (SPost (bs (nv s + nv t)) w) := by
  obtain ⟨i0, hi0, hz0, hz1, hz2⟩ := info_parts u32Info
  have hx := nv_le (s := s) (k := 25000000000) (by omega)
  have hy := nv_le (s := t) (k := 25000000000) (by omega)
  obtain ⟨x, hX⟩ : ∃ x, nv s = x := ⟨_, rfl⟩
  obtain ⟨y, hY⟩ : ∃ y, nv t = y := ⟨_, rfl⟩
  have P1 := Lib.hid (fun w => parse_any s w (by omega))
  have P2 := Lib.hid (fun w => parse_any t w (by omega))
  rw [hX] at hx P1 ⊢
  rw [hY] at hy P2 ⊢
  clear hX hY hs ht
  go_enter Tryz.func75, Tryz.ntmps75
  go_wp2_with fail
  refine (P1.out _).mono ?_
  rintro e w1 ⟨A, c, rfl, hA1, hA2, hA3, hb1⟩
  have HA := hide hA3
  clear hA1 hA2 hA3
  go_wp2_with fail
  refine (P2.out _).mono ?_
  rintro e w2 ⟨B, c', rfl, hB1, hB2, hB3, hb2⟩
  have HB := hide hB3
  have HA2 := hide (HA.out.next hb2)
  have hb3 := below_next hb1 hb2
  clear hB1 hB2 hB3 HA hb1 hb2
  generalize hm : (limbs x).length = m
  generalize hn : (limbs y).length = n
  have hml : m ≤ 25000000000 := by have : (limbs x).length ≤ 25000000000 := hx; omega
  have hnl : n ≤ 25000000000 := by have : (limbs y).length ≤ 25000000000 := hy; omega
  have HM := hide hm
  have HN := hide hn
  clear hm hn
  go_upto_if 19 with fail
  go_cut [5, 6] (fun va vb wx => ∃ (p q : Nat) (a b : List Nat) (A B : Option Addr) (c c' : Nat), va = .slice A p c ∧ vb = .slice B q c' ∧ q ≤ p ∧ p ≤ 25000000000 ∧ Hid (a.length = p) ∧ Hid (b.length = q) ∧ Hid (LAt w2 w2.heap.size A a) ∧ Hid (LAt w2 w2.heap.size B b) ∧ Hid (lval a + lval b = x + y) ∧ w2 = wx)
  case first =>
    by_cases hlt : m < n
    · go_wp2_with fail
      go_meet
      case rel => exact ⟨n, m, limbs y, limbs x, B, A, c', c, rfl, rfl, by omega, hnl, HN, HM, HB, HA2, by show _ = _; rw [lval_limbs, lval_limbs, Nat.add_comm], rfl⟩
    · go_wp2_with fail
      go_meet
      case rel => exact ⟨m, n, limbs x, limbs y, A, B, c, c', rfl, rfl, by omega, hml, HM, HN, HA2, HB, by show _ = _; rw [lval_limbs, lval_limbs], rfl⟩
  case rest =>
    clear HA2 HB HM HN hml hnl
    obtain ⟨p, q, a, b, A, B, c, c', rfl, rfl, hqp, hpl, HP, HQ, HA, HB, HS, rfl⟩ := hcut
    go_wp2_with (first
      | (at_make
         refine wpList_make_full _ rfl (.tmp 24) (.tmp 24) 217 rfl w2.heap.size 219 i0 _ 1 Tryz.underlying217 hi0 hz0 hz1 .i64 .i64 _ _ (p + 1) rfl rfl ?c1 ?c2 ?c3 ?c4 ?c5 ?_
         case c1 => omega
         case c2 => omega
         case c3 => rw [hz2]; omega
         case c4 => unfold maxLen; omega
         case c5 => exact Nat.le_refl _
         intro w4 hown hg))
    rw [made_uv] at hown
    have hb4 : Below w2.heap.size w2 w4 := (Below.refl _ _).grown hg (Nat.le_refl _) (by simp)
    clear hg
    generalize hL : p + 1 = L at hown
    have HL := hide hL
    have hpL : p < L := by omega
    have hLl : L ≤ 30000000000 := by omega
    clear hL
    go_loopw [8, 28] (fun vc vi wr => ∃ (i k : Nat) (O : List Nat), i ≤ p ∧ k ≤ 1 ∧ vi = .int .i64 i ∧ vc = .int .u32 k ∧ Hid (O.length = L) ∧ Hid (Ok O) ∧ Hid (lval (O.take i) + k * 4294967296 ^ i = lval (a.take i) + lval (b.take i)) ∧ wr.ownsRow w2.heap.size 219 1 (.slice (some ⟨w2.heap.size, 0, none⟩) L L) L (uv O) ∧ Below w2.heap.size w2 wr) (fun _ vi _ => p - (intOf vi).toNat)
    case atStart => exact ⟨0, 0, List.replicate L 0, by omega, by omega, rfl, rfl, by show _ = _; simp, Ok.replicate _, by show _ = _; simp [lval], hown, hb4⟩
    case round =>
      obtain ⟨i, k, O, hi, hk, rfl, rfl, HOL, HO, HV, hown, hbr⟩ := hrel
      by_cases hlt : i < p
      · obtain ⟨u, hu⟩ : ∃ u, a[i]? = some u := ⟨_, List.getElem?_eq_getElem (by have := HP.out; omega)⟩
        obtain ⟨z, hz⟩ : ∃ z, O[i]? = some z := ⟨_, List.getElem?_eq_getElem (by have := HOL.out; omega)⟩
        obtain ⟨b1, o1, rfl, hb1, hc1⟩ := (HA.out.below hbr).2.2 (by have := HP.out; omega)
        have c1 := hc1 i u hu
        have hul : u < 4294967296 := HA.out.ok.at_ hu
        have hvl := dig_lt HB.out.ok i
        obtain ⟨v, hv⟩ : ∃ v, dig b i = v := ⟨_, rfl⟩
        rw [hv] at hvl
        have cz : wr.cell? ⟨w2.heap.size, i, none⟩ = some (.int .u32 (z : Int)) := (hown.cellAt i (by omega)).trans (uv_get hz)
        have fz := hown.frozenAt i
        have HU := hide hu
        have HVV := hide hv
        have hiL : i < L := by omega
        clear hc1 hu hv hz
        go_upto_if 34 with fail
        go_cut [10] (fun vv wx => vv = .int .u32 (v : Int) ∧ wr = wx)
        case first =>
          by_cases h1 : i < q
          · obtain ⟨b2, o2, rfl, hb2, hc2⟩ := (HB.out.below hbr).2.2 (by have := HQ.out; omega)
            have c2 : wr.cell? ⟨b2, o2 + i, none⟩ = some (.int .u32 (v : Int)) := hc2 i v (by rw [← HVV.out, dig_at (List.getElem?_eq_getElem (by rw [HQ.out]; exact h1))]; exact List.getElem?_eq_getElem (by rw [HQ.out]; exact h1))
            clear hc2
            go_wp2_with fail
            go_meet
            case rel => exact ⟨rfl, rfl⟩
          · have hv0 : v = 0 := by rw [← HVV.out]; exact dig_out (by rw [HQ.out]; omega)
            subst hv0
            go_wp2_with fail
            go_meet
            case rel => exact ⟨rfl, rfl⟩
        case rest =>
          obtain ⟨rfl, rfl⟩ := hcut
          obtain ⟨T, hT⟩ : ∃ T, u + v + k = T := ⟨_, rfl⟩
          have hround := add_round (a := a) (b := b) (out := O.take i) (i := i) (c := k) HV.out (take_len (by rw [HOL.out]; omega))
          rw [dig_at HU.out, HVV.out, hT] at hround
          have HR := hide hround
          have hTl : T ≤ 8589934591 := by omega
          have HAD := Lib.hid (fun w => add32_any u v k T w hul hvl hk hT)
          obtain ⟨D, hD⟩ : ∃ D, T % 4294967296 = D := ⟨_, rfl⟩
          obtain ⟨K, hK⟩ : ∃ K, T / 4294967296 = K := ⟨_, rfl⟩
          rw [hD, hK] at HR HAD
          have hDl : D < 4294967296 := by omega
          have hKl : K ≤ 1 := by omega
          have hsum : Hid (lval ((O.set i D).take (i + 1)) + K * 4294967296 ^ (i + 1) = lval (a.take (i + 1)) + lval (b.take (i + 1))) := by
            show _ = _
            rw [take_set_succ (by rw [HOL.out]; omega)]
            exact HR.out
          have hok : Hid (Ok (O.set i D)) := HO.out.set _ hDl
          have hlen : Hid ((O.set i D).length = L) := by show _ = _; rw [List.length_set]; exact HOL.out
          obtain ⟨hos, hgs⟩ := hown.stored i (.int .u32 (D : Int))
          rw [uv_set] at hos
          have hbs := hbr.setCell (p := ⟨w2.heap.size, i, none⟩) (Nat.le_refl _) (.int .u32 (D : Int))
          clear hround hT hD hK
          go_wp2_with fail
          refine (HAD.out _).mono ?_
          rintro e w5 ⟨rfl, rfl⟩
          go_wp2_with fail
          go_roundw
          case rel => exact ⟨i + 1, K, _, by omega, hKl, by go_num, rfl, hlen, hok, hsum, hos, hbs⟩
          case measure => simp [intOf]; omega
      · obtain rfl : i = p := by omega
        obtain ⟨z, hz⟩ : ∃ z, O[i]? = some z := ⟨_, List.getElem?_eq_getElem (by have := HOL.out; omega)⟩
        have cz : wr.cell? ⟨w2.heap.size, i, none⟩ = some (.int .u32 (z : Int)) := (hown.cellAt i (by omega)).trans (uv_get hz)
        have fz := hown.frozenAt i
        have hfin : Hid (lval (O.set i k) = x + y) := by
          show _ = _
          have h1 := take_set_succ (l := O) (k := i) (y := k) (by rw [HOL.out]; omega)
          rw [List.take_of_length_le (by rw [List.length_set, HOL.out, ← HL.out]; exact Nat.le_refl _)] at h1
          have h2 := HV.out
          rw [lval_take_all (l := a) (by rw [HP.out]; exact Nat.le_refl _), lval_take_all (l := b) (by rw [HQ.out]; exact hqp), HS.out] at h2
          rw [h1, lval_snoc, take_len (by rw [HOL.out]; omega), Nat.mul_comm]
          exact h2
        have hok : Ok (O.set i k) := HO.out.set _ (by omega)
        have hlen : Hid ((O.set i k).length = L) := by show _ = _; rw [List.length_set]; exact HOL.out
        obtain ⟨hos, hgs⟩ := hown.stored i (.int .u32 (k : Int))
        rw [uv_set] at hos
        have hbs := hbr.setCell (p := ⟨w2.heap.size, i, none⟩) (Nat.le_refl _) (.int .u32 (k : Int))
        have HLL := hide (LAt.of_own hos hok)
        have hbf := hb3.trans (hbs.mono hb3.size)
        clear hz hos hgs hbs hok
        go_wp2_with fail
        refine (text_any (O.set i k) _ _ _ _ HLL.out hlen.out (by omega)).mono ?_
        rintro e w5 ⟨rfl, hb5⟩
        rw [hfin.out]
        go_wp2_with fail
        go_ret
        exact ⟨rfl, below_next hbf hb5⟩
end Go.Proofs.YtpbgmpjnfndfjaaGreatDoor.PnD
namespace Go.Proofs.YtpbgmpjnfndfjaaGreatDoor.PnE
theorem here : True := trivial
open Go.RowKit RnA RnB RnS RnC RnK RnM RnL RnN RnD RnE RnQ RnR RnP RnW RnX RoA RoB RoC RoD RoE RoF RoG RoH RoI RoL PnA PnB PnC PnD
theorem sub_lt {x y b : Nat} (hx : x < 4294967296) (hy : y < 4294967296) (hb : b ≤ 1) : (if x < y + b then 1 else 0) ≤ 1 ∧ (x + 8589934592 - y - b) % 4294967296 + y + b = x + (if x < y + b then 1 else 0) * 4294967296 := by
  refine ⟨by split <;> omega, ?_⟩
  exact borrow_sum hx hy hb rfl
set_option maxHeartbeats 4000000000000 in
set_option maxRecDepth 100000000000 in
theorem sub_any (x y m n : Nat) (A B : Option Addr) (c c' : Nat) (w : World) (ha : LAt w w.heap.size A (limbs x)) (hb : LAt w w.heap.size B (limbs y)) (hm : (limbs x).length = m) (hn : (limbs y).length = n) (hx : m ≤ 1000000000000) (hyx : y ≤ x) :
    Calls Tryz.prog 122 #[.slice A m c, .slice B n c'] w (LPost (limbs (x - y)) w) := by
  obtain ⟨i0, hi0, hz0, hz1, hz2⟩ := info_parts u32Info
  have hnm : n ≤ m := by
    have h : (limbs y).length ≤ (limbs x).length := sz_mono hyx
    omega
  have HYX := hide hyx
  have HVA := hide (lval_limbs x)
  have HVB := hide (lval_limbs y)
  have HA := hide ha
  have HB := hide hb
  have HM := hide hm
  have HN := hide hn
  clear ha hb hyx hm hn
  generalize limbs x = a at HVA HA HM
  generalize limbs y = b at HVB HB HN
  go_enter Tryz.func122, Tryz.ntmps122
  go_wp2_with (first
    | (at_make
       refine wpList_make_full _ rfl (.tmp 10) (.tmp 10) 217 rfl w.heap.size 219 i0 _ 1 Tryz.underlying217 hi0 hz0 hz1 .i64 .i64 _ _ m rfl rfl ?c1 ?c2 ?c3 ?c4 ?c5 ?_
       case c1 => rfl
       case c2 => rfl
       case c3 => rw [hz2]; omega
       case c4 => unfold maxLen; omega
       case c5 => exact Nat.le_refl _
       intro w2 hown hg))
  rw [made_uv] at hown
  have hb2 : Below w.heap.size w w2 := (Below.refl _ _).grown hg (Nat.le_refl _) (by simp)
  clear hg
  go_loopw [6, 14] (fun vc vi wr => ∃ (i k : Nat) (O : List Nat), i ≤ m ∧ k ≤ 1 ∧ vi = .int .i64 i ∧ vc = .int .u32 k ∧ Hid (O.length = m) ∧ Hid (Ok O) ∧ Hid (lval (O.take i) + lval (b.take i) = lval (a.take i) + k * 4294967296 ^ i) ∧ wr.ownsRow w.heap.size 219 1 (.slice (some ⟨w.heap.size, 0, none⟩) m m) m (uv O) ∧ Below w.heap.size w wr) (fun _ vi _ => m - (intOf vi).toNat)
  case atStart => exact ⟨0, 0, List.replicate m 0, by omega, by omega, rfl, rfl, by show _ = _; simp, Ok.replicate _, by show _ = _; simp [lval], hown, hb2⟩
  case round =>
    obtain ⟨i, k, O, hi, hk, rfl, rfl, HOL, HO, HV, hown, hbr⟩ := hrel
    by_cases hlt : i < m
    · obtain ⟨u, hu⟩ : ∃ u, a[i]? = some u := ⟨_, List.getElem?_eq_getElem (by have := HM.out; omega)⟩
      obtain ⟨z, hz⟩ : ∃ z, O[i]? = some z := ⟨_, List.getElem?_eq_getElem (by have := HOL.out; omega)⟩
      obtain ⟨b1, o1, rfl, hb1, hc1⟩ := (HA.out.below hbr).2.2 (by have := HM.out; omega)
      have c1 := hc1 i u hu
      have hul : u < 4294967296 := HA.out.ok.at_ hu
      have hvl := dig_lt HB.out.ok i
      obtain ⟨v, hv⟩ : ∃ v, dig b i = v := ⟨_, rfl⟩
      rw [hv] at hvl
      have cz : wr.cell? ⟨w.heap.size, i, none⟩ = some (.int .u32 (z : Int)) := (hown.cellAt i (by omega)).trans (uv_get hz)
      have fz := hown.frozenAt i
      have HU := hide hu
      have HVV := hide hv
      clear hc1 hu hv hz
      go_upto_if 20 with fail
      go_cut [8] (fun vv wx => vv = .int .u32 (v : Int) ∧ wr = wx)
      case first =>
        by_cases h1 : i < n
        · obtain ⟨b2, o2, rfl, hb2, hc2⟩ := (HB.out.below hbr).2.2 (by have := HN.out; omega)
          have c2 : wr.cell? ⟨b2, o2 + i, none⟩ = some (.int .u32 (v : Int)) := hc2 i v (by rw [← HVV.out, dig_at (List.getElem?_eq_getElem (by rw [HN.out]; exact h1))]; exact List.getElem?_eq_getElem (by rw [HN.out]; exact h1))
          clear hc2
          go_wp2_with fail
          go_meet
          case rel => exact ⟨rfl, rfl⟩
        · have hv0 : v = 0 := by rw [← HVV.out]; exact dig_out (by rw [HN.out]; omega)
          subst hv0
          go_wp2_with fail
          go_meet
          case rel => exact ⟨rfl, rfl⟩
      case rest =>
        obtain ⟨rfl, rfl⟩ := hcut
        obtain ⟨hbo1, hbo2⟩ := sub_lt hul hvl hk
        obtain ⟨bo, hbo⟩ : ∃ bo, (if u < v + k then 1 else 0) = bo := ⟨_, rfl⟩
        obtain ⟨D, hD⟩ : ∃ D, (u + 8589934592 - v - k) % 4294967296 = D := ⟨_, rfl⟩
        have HSB := Lib.hid (fun w => sub32_any u v k D bo w hul hvl hk hD.symm hbo)
        rw [hbo] at hbo1 hbo2
        rw [hD] at hbo2
        have hDl : D < 4294967296 := by omega
        have hsum : Hid (lval ((O.set i D).take (i + 1)) + lval (b.take (i + 1)) = lval (a.take (i + 1)) + bo * 4294967296 ^ (i + 1)) := by
          show _ = _
          rw [take_set_succ (by rw [HOL.out]; omega)]
          exact sub_round HV.out (take_len (by rw [HOL.out]; omega)) (by rw [HVV.out, dig_at HU.out]; exact hbo2)
        have hok : Hid (Ok (O.set i D)) := HO.out.set _ hDl
        have hlen : Hid ((O.set i D).length = m) := by show _ = _; rw [List.length_set]; exact HOL.out
        obtain ⟨hos, hgs⟩ := hown.stored i (.int .u32 (D : Int))
        rw [uv_set] at hos
        have hbs := hbr.setCell (p := ⟨w.heap.size, i, none⟩) (Nat.le_refl _) (.int .u32 (D : Int))
        clear hbo hD hbo2
        go_wp2_with fail
        refine (HSB.out _).mono ?_
        rintro e w5 ⟨rfl, rfl⟩
        go_wp2_with fail
        go_roundw
        case rel => exact ⟨i + 1, bo, _, by omega, hbo1, by go_num, rfl, hlen, hok, hsum, hos, hbs⟩
        case measure => simp [intOf]; omega
    · obtain rfl : i = m := by omega
      have hfin : Hid (lval O = x - y) := by
        show _ = _
        have h2 := HV.out
        rw [lval_take_all (l := O) (by rw [HOL.out]; exact Nat.le_refl _), lval_take_all (l := a) (by rw [HM.out]; exact Nat.le_refl _), lval_take_all (l := b) (by rw [HN.out]; exact hnm), HVA.out, HVB.out] at h2
        have h3 := lval_lt HO.out
        rw [HOL.out] at h3
        have h4 := HYX.out
        rcases (by omega : k = 0 ∨ k = 1) with h5 | h5
        · subst h5; omega
        · subst h5; omega
      have hL := LAt.of_own hown HO.out
      obtain ⟨hL2, hle⟩ := LAt.strip hL
      have hcap := own_cap hown
      rw [hfin.out] at hL2 hle
      rw [HOL.out] at hle
      have HL := hide hL
      have HL2 := hide hL2
      clear hL hL2
      go_wp2_with fail
      refine (trim_any O _ _ _ _ HOL.out HL.out (Nat.le_refl _)).mono ?_
      rintro e w3 ⟨rfl, rfl⟩
      rw [hfin.out]
      go_wp2_with fail
      go_ret
      exact ⟨_, _, rfl, hle, hcap.2, HL2.out, hbr⟩
/-- a difference, if there is one -/
def subN (x y : Nat) : Nat × Bool := if x < y then (0, false) else (x - y, true)
def SBPost (p : Nat × Bool) (w : World) (e : Ending) (w' : World) : Prop := e = .returned (.tuple #[.string (bs p.1), .bool p.2]) ∧ Below w.heap.size w w'
theorem bs_zero : bs 0 = ⟨#[]⟩ := by unfold bs; rw [bytesOf_zero]
set_option maxHeartbeats 4000000000000 in
set_option maxRecDepth 100000000000 in
theorem subtract_any (s t : ByteArray) (w : World) (hs : s.size ≤ 100000000000) (ht : t.size ≤ 100000000000) :
    Calls Tryz.prog 76 #[.string s, .string t] w (SBPost (subN (nv s) (nv t)) w) := by
  have hx := nv_le (s := s) (k := 25000000000) (by omega)
  obtain ⟨x, hX⟩ : ∃ x, nv s = x := ⟨_, rfl⟩
  obtain ⟨y, hY⟩ : ∃ y, nv t = y := ⟨_, rfl⟩
  have P1 := Lib.hid (fun w => parse_any s w (by omega))
  have P2 := Lib.hid (fun w => parse_any t w (by omega))
  rw [hX] at hx P1 ⊢
  rw [hY] at P2 ⊢
  have hxl : (limbs x).length ≤ 25000000000 := hx
  clear hX hY hs ht hx
  go_enter Tryz.func76, Tryz.ntmps76
  go_wp2_with fail
  refine (P1.out _).mono ?_
  rintro e w1 ⟨A, c, rfl, hA1, hA2, hA3, hb1⟩
  have HA := hide hA3
  clear hA1 hA2 hA3
  go_wp2_with fail
  refine (P2.out _).mono ?_
  rintro e w2 ⟨B, c', rfl, hB1, hB2, hB3, hb2⟩
  have HB := hide hB3
  have HA2 := hide (HA.out.next hb2)
  have hb3 := below_next hb1 hb2
  clear hB1 hB2 hB3 HA hb1 hb2
  go_wp2_with fail
  refine (cmp_any x y A B c c' _ HA2.out HB.out).mono ?_
  rintro e w3 ⟨rfl, hb4⟩
  have HA3 := hide (HA2.out.next hb4)
  have HB3 := hide (HB.out.next hb4)
  have hb5 := below_next hb3 hb4
  clear HA2 HB hb3 hb4
  by_cases hlt : x < y
  · have hc : cmpN x y = -1 := (cmpN_lt hlt).symm
    have hr : Hid (subN x y = (0, false)) := by show _ = _; unfold subN; rw [if_pos hlt]
    rw [hc]
    clear hlt
    go_wp2_with fail
    go_ret2
    rw [hr.out]
    exact ⟨by rw [bs_zero]; rfl, hb5⟩
  · have hc : ¬ cmpN x y < 0 := by
      unfold cmpN
      rw [if_neg hlt]
      split <;> omega
    have hr : Hid (subN x y = (x - y, true)) := by show _ = _; unfold subN; rw [if_neg hlt]
    have HSUB := hide (sub_any x y _ _ A B c c' _ HA3.out HB3.out rfl rfl (by omega) (by omega))
    have hl2 : (limbs (x - y)).length ≤ 1000000000000 := by
      have h1 : (limbs (x - y)).length ≤ (limbs x).length := sz_sub x y
      omega
    generalize cmpN x y = cv at hc ⊢
    clear hlt
    go_wp2_with fail
    refine HSUB.out.mono ?_
    rintro e w4 ⟨C, c2, rfl, h1, h2, h3, h4⟩
    have H3 := hide h3
    have hb6 := below_next hb5 h4
    have hlv := hide (lval_limbs (x - y))
    clear h3 h4 hb5
    go_wp2_with fail
    refine (text_any (limbs (x - y)) _ _ _ _ H3.out rfl hl2).mono ?_
    rintro e w5 ⟨rfl, hb7⟩
    rw [hlv.out]
    go_wp2_with fail
    go_ret2
    rw [hr.out]
    exact ⟨rfl, below_next hb6 hb7⟩
end Go.Proofs.YtpbgmpjnfndfjaaGreatDoor.PnE
namespace Go.Proofs.YtpbgmpjnfndfjaaGreatDoor.PnF
theorem here : True := trivial
open Go.RowKit RnA RnB RnS RnC RnK RnM RnL RnN RnD RnE RnQ RnR RnP RnW RnX RoA RoB RoC RoD RoE RoF RoG RoH RoI RoL PnA PnB PnC PnD PnE
set_option maxHeartbeats 4000000000000 in
set_option maxRecDepth 100000000000 in
theorem mul_any (s t : ByteArray) (w0 : World) (hs : s.size ≤ 100000000000) (ht : t.size ≤ 100000000000) :
    Calls Tryz.prog 73 #[.string s, .string t] w0 (SPost (bs (nv s * nv t)) w0) := by
  obtain ⟨i0, hi0, hz0, hz1, hz2⟩ := info_parts u32Info
  have hx := nv_le (s := s) (k := 25000000000) (by omega)
  have hy := nv_le (s := t) (k := 25000000000) (by omega)
  obtain ⟨x, hX⟩ : ∃ x, nv s = x := ⟨_, rfl⟩
  obtain ⟨y, hY⟩ : ∃ y, nv t = y := ⟨_, rfl⟩
  have P1 := Lib.hid (fun w => parse_any s w (by omega))
  have P2 := Lib.hid (fun w => parse_any t w (by omega))
  rw [hX] at hx P1 ⊢
  rw [hY] at hy P2 ⊢
  have hla : (limbs x).length ≤ 25000000000 := hx
  have hlb : (limbs y).length ≤ 25000000000 := hy
  clear hX hY hs ht hx hy
  go_enter Tryz.func73, Tryz.ntmps73
  go_wp2_with fail
  refine (P1.out _).mono ?_
  rintro e w1 ⟨A, c, rfl, hA1, hA2, hA3, hb1⟩
  have HA1 := hide hA3
  clear hA1 hA2 hA3
  go_wp2_with fail
  refine (P2.out _).mono ?_
  rintro e w ⟨B, c', rfl, hB1, hB2, hB3, hb2⟩
  have HB := hide hB3
  have HA := hide (HA1.out.next hb2)
  have HB0 := hide (below_next hb1 hb2)
  clear hB1 hB2 hB3 HA1 hb1 hb2
  have HVA := hide (lval_limbs x)
  have HVB := hide (lval_limbs y)
  generalize limbs x = a at *
  generalize limbs y = b at *
  have hw0 : IntKind.i64.wrap ((a.length : Int) + (b.length : Int)) = ((a.length + b.length : Nat) : Int) := by
    rw [IntWalk.i64_in _ (by omega)]; omega
  go_wp2_with (first
    | (at_make
       refine wpList_make_full _ rfl (.tmp 22) (.tmp 22) 217 rfl w.heap.size 219 i0 _ 1 Tryz.underlying217 hi0 hz0 hz1 .i64 .i64 _ _ (a.length + b.length) rfl rfl ?c1 ?c2 ?c3 ?c4 ?c5 ?_
       case c1 => omega
       case c2 => omega
       case c3 => rw [hz2]; omega
       case c4 => unfold maxLen; omega
       case c5 => exact Nat.le_refl _
       intro w2 hown hg))
  rw [made_uv] at hown
  have hb2 : Below w.heap.size w w2 := (Below.refl _ _).grown hg (Nat.le_refl _) (by simp)
  clear hg hw0
  generalize hn : a.length + b.length = n at hown
  go_loopw [26] (fun vi wr => ∃ (i : Nat) (O : List Nat), i ≤ a.length ∧ vi = .int .i64 i ∧ Hid (O.length = n) ∧ Hid (Ok O) ∧ Hid (lval O = lval (a.take i) * y) ∧ wr.ownsRow w.heap.size 219 1 (.slice (some ⟨w.heap.size, 0, none⟩) n n) n (uv O) ∧ Below w.heap.size w wr) (fun vi _ => a.length - (intOf vi).toNat)
  case atStart => exact ⟨0, List.replicate n 0, by omega, rfl, by show _ = _; simp, Ok.replicate _, by show _ = _; simp [lval, lval_replicate], hown, hb2⟩
  case round =>
    obtain ⟨i, O, hi, rfl, HOL, HO, HV, hown, hbr⟩ := hrel
    by_cases hlt : i < a.length
    · obtain ⟨u, hu⟩ : ∃ u, a[i]? = some u := ⟨_, List.getElem?_eq_getElem hlt⟩
      have hul : u < 4294967296 := HA.out.ok.at_ hu
      have hzero : Hid (O[i + b.length]? = some 0) := by
        show _ = _
        obtain ⟨z, hz⟩ : ∃ z, O[i + b.length]? = some z := ⟨_, List.getElem?_eq_getElem (by have := HOL.out; omega)⟩
        rw [hz]
        congr 1
        refine zero_above ?_ hz
        rw [HV.out, Nat.pow_add]
        have h1 := lval_lt (HA.out.ok.take i)
        rw [take_len hi] at h1
        have h2 := lval_lt HB.out.ok
        rw [HVB.out] at h2
        exact Nat.mul_lt_mul_of_lt_of_le h1 (Nat.le_of_lt h2) (RnC.pow_pos _)
      obtain ⟨wo, rfl⟩ : ∃ wo : World, wo = wr := ⟨_, rfl⟩
      obtain ⟨b1, o1, rfl, hb1, hc1⟩ := (HA.out.below hbr).2.2 (by omega)
      have c1 := hc1 i u hu
      have HU := hide hu
      clear hu hc1
      go_wp2_with fail
      go_loopw [10, 33] (fun vk vj wq => ∃ (j k : Nat) (P : List Nat), j ≤ b.length ∧ k < 4294967296 ∧ vj = .int .i64 j ∧ vk = .int .u64 k ∧ Hid (P.length = n) ∧ Hid (Ok P) ∧ Hid (P[i + b.length]? = some 0) ∧ Hid (lval P + k * 4294967296 ^ (i + j) = lval (a.take i) * y + u * lval (b.take j) * 4294967296 ^ i) ∧ wq.ownsRow w.heap.size 219 1 (.slice (some ⟨w.heap.size, 0, none⟩) n n) n (uv P) ∧ Below w.heap.size w wq) (fun _ vj _ => b.length - (intOf vj).toNat)
      case atStart => exact ⟨0, 0, O, by omega, by omega, rfl, rfl, HOL.out, HO.out, hzero.out, by show _ = _; rw [HV.out]; simp [lval], hown, hbr⟩
      case round =>
        clear hown hbr HOL HO HV hzero c1
        obtain ⟨j, k, P, hj, hk, rfl, rfl, HPL, HP, HZ, HV, hown, hbr⟩ := hrel
        by_cases hjl : j < b.length
        · obtain ⟨v, hv⟩ : ∃ v, b[j]? = some v := ⟨_, List.getElem?_eq_getElem hjl⟩
          have hvl : v < 4294967296 := HB.out.ok.at_ hv
          obtain ⟨z, hz⟩ : ∃ z, P[i + j]? = some z := ⟨_, List.getElem?_eq_getElem (by have := HPL.out; omega)⟩
          have hzl : z < 4294967296 := HP.out.at_ hz
          obtain ⟨b2, o2, rfl, hb2', hc2⟩ := (HB.out.below hbr).2.2 (by omega)
          have c2 := hc2 j v hv
          have hijn : i + j < n := by omega
          have cz : wr.cell? ⟨w.heap.size, i + j, none⟩ = some (.int .u32 (z : Int)) := (hown.cellAt (i + j) (by omega)).trans (uv_get hz)
          have fz := hown.frozenAt (i + j)
          have hmr := mul_round HV.out hz hv
          obtain ⟨hT1, hT2⟩ := prod_lt hul hvl hzl hk
          obtain ⟨T, hT⟩ : ∃ T, u * v + z + k = T := ⟨_, rfl⟩
          rw [hT] at hmr hT1 hT2
          have huv : u * v ≤ 18446744065119617025 := Nat.mul_le_mul (by omega : u ≤ 4294967295) (by omega : v ≤ 4294967295)
          have hw1 : IntKind.u64.wrap ((u : Int) * (v : Int)) = ((u * v : Nat) : Int) := by
            rw [← Int.natCast_mul]
            exact IntWalk.u64_in _ (by omega)
          obtain ⟨pr, hpr⟩ : ∃ pr, u * v = pr := ⟨_, rfl⟩
          rw [hpr] at hw1 hT huv
          have hw2 : IntKind.u64.wrap ((pr : Int) + (z : Int)) = (pr : Int) + (z : Int) := IntWalk.u64_in _ (by omega)
          have hw3 : IntKind.u64.wrap ((pr : Int) + (z : Int) + (k : Int)) = (T : Int) := by rw [IntWalk.u64_in _ (by omega)]; omega
          have hw4 : IntKind.i64.wrap ((i : Int) + (j : Int)) = (i : Int) + (j : Int) := IntWalk.i64_in _ (by omega)
          have hw5 : ((i : Int) + (j : Int)).toNat = i + j := by omega
          have hw6 : 0 ≤ (i : Int) + (j : Int) := by omega
          have hw7 : (i : Int) + (j : Int) < (n : Int) := by omega
          have HV2 := hide hmr
          obtain ⟨hos, hgs⟩ := hown.stored (i + j) (.int .u32 ((T % 4294967296 : Nat) : Int))
          rw [uv_set] at hos
          have hbs := hbr.setCell (p := ⟨w.heap.size, i + j, none⟩) (Nat.le_refl _) (.int .u32 ((T % 4294967296 : Nat) : Int))
          have eS : ((T % 4294967296 : Nat) : Int) = (T : Int) % 4294967296 := by omega
          rw [eS] at hos hbs
          have hok : Hid (Ok (P.set (i + j) (T % 4294967296))) := HP.out.set _ (Nat.mod_lt _ (by omega))
          have hzz : Hid ((P.set (i + j) (T % 4294967296))[i + b.length]? = some 0) := by
            show _ = _
            rw [List.getElem?_set_ne (by omega)]; exact HZ.out
          clear hc2 hz hv hpr hT hmr eS
          go_wp2_with fail
          go_roundw
          case rel => exact ⟨j + 1, T / 4294967296, P.set (i + j) (T % 4294967296), by omega, hT2, by go_num, by congr 1, by show _ = _; rw [List.length_set]; exact HPL.out, hok, hzz, HV2.out, hos, hbs⟩
          case measure => simp [intOf]; omega
        · have hjb : j = b.length := by omega
          have HJ := hide hjb
          have hib : i + b.length < n := by omega
          have cz : wr.cell? ⟨w.heap.size, i + b.length, none⟩ = some (.int .u32 (0 : Nat)) := (hown.cellAt (i + b.length) (by omega)).trans (uv_get HZ.out)
          have fz := hown.frozenAt (i + b.length)
          obtain ⟨hos, hgs⟩ := hown.stored (i + b.length) (.int .u32 (k : Int))
          rw [uv_set] at hos
          have hbs := hbr.setCell (p := ⟨w.heap.size, i + b.length, none⟩) (Nat.le_refl _) (.int .u32 (k : Int))
          have hok : Hid (Ok (P.set (i + b.length) k)) := HP.out.set _ hk
          have hval : Hid (lval (P.set (i + b.length) k) = lval (a.take (i + 1)) * y) := by
            show _ = _
            have h1 := HV.out
            rw [HJ.out] at h1
            rw [mul_last h1 HZ.out, lval_take_all (Nat.le_refl _), HVB.out, lval_take_at HU.out]
            grind
          clear hjb
          go_wp2_with fail
          go_roundw
          case rel => exact ⟨i + 1, P.set (i + b.length) k, by omega, by go_num, by show _ = _; rw [List.length_set]; exact HPL.out, hok, hval, hos, hbs⟩
          case measure => simp [intOf]; omega
    · have hfin : Hid (lval O = x * y) := by
        show _ = _
        rw [HV.out, lval_take_all (by omega), HVA.out]
      have HL := hide (LAt.of_own hown HO.out)
      have hb3 := HB0.out.trans (hbr.mono HB0.out.size)
      go_wp2_with fail
      refine (text_any O _ _ _ _ HL.out HOL.out (by omega)).mono ?_
      rintro e w3 ⟨rfl, hb5⟩
      rw [hfin.out]
      go_wp2_with fail
      go_ret
      exact ⟨rfl, below_next hb3 hb5⟩
end Go.Proofs.YtpbgmpjnfndfjaaGreatDoor.PnF
namespace Go.Proofs.YtpbgmpjnfndfjaaGreatDoor.PnK
theorem here : True := trivial
open Go.RowKit RnA RnB RnS RnC RnK RnM RnL RnN RnD RnE RnQ RnR RnP RnW RnX RoA RoB RoC RoD RoE RoF RoG RoH RoI RoL RoM PnA PnB PnC PnD PnE
/-- what multiplyAdd answers: the row that it was given, or a new one -/
def MAPost (B n V : Nat) (w : World) (e : Ending) (w' : World) : Prop :=
  ∃ v' n' out, e = .returned v' ∧ n' ≤ n + 1 ∧ out.length = n' ∧ Ok out ∧ Cn out ∧ lval out = V ∧ w'.ownsRow B 219 1 v' n' (uv out) ∧ Below B w w'
def tenDigits : List UInt8 := [48, 49, 50, 51, 52, 53, 54, 55, 56, 57]
theorem dig_in {c : UInt8} (h : isDig c = true) : tenDigits.contains c = true := by
  simp only [isDig, Bool.and_eq_true, decide_eq_true_eq] at h
  have : c = UInt8.ofNat c.toNat := by simp
  rw [this]
  obtain ⟨h1, h2⟩ := h
  generalize c.toNat = n at *
  have : n = 48 ∨ n = 49 ∨ n = 50 ∨ n = 51 ∨ n = 52 ∨ n = 53 ∨ n = 54 ∨ n = 55 ∨ n = 56 ∨ n = 57 := by omega
  rcases this with rfl | rfl | rfl | rfl | rfl | rfl | rfl | rfl | rfl | rfl <;> rfl
theorem drop_all {p : UInt8 → Bool} : ∀ {l : List UInt8}, (∀ c ∈ l, p c = true) → l.dropWhile p = []
  | [], _ => rfl
  | c :: l, h => by
    rw [List.dropWhile_cons, if_pos (h c (List.mem_cons_self ..))]
    exact drop_all fun x hx => h x (List.mem_cons_of_mem _ hx)
theorem trim_digs {l : List UInt8} (h : digs l = true) : Lib.trimS l tenDigits = [] := by
  have hall : ∀ c ∈ l, tenDigits.contains c = true := fun c hc => by
    unfold digs at h
    rw [List.all_eq_true] at h
    exact dig_in (h c hc)
  have h1 : Lib.trimRightS l tenDigits = [] := by
    unfold Lib.trimRightS
    rw [List.reverse_eq_nil_iff]
    exact drop_all fun c hc => hall c (List.mem_reverse.1 hc)
  unfold Lib.trimS
  rw [h1]; rfl
def PPost (q : Nat) (w : World) (e : Ending) (w' : World) : Prop := e = .returned (.tuple #[.string (bs q), .int .i64 0]) ∧ Below w.heap.size w w'
end Go.Proofs.YtpbgmpjnfndfjaaGreatDoor.PnK
