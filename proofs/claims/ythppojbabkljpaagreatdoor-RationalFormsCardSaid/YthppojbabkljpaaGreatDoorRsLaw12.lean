/- The walk of the law RationalForms. -/
import Derived.Test.YthppojbabkljpaaGreatDoorRsU
namespace Go.Proofs.YthppojbabkljpaaGreatDoor.RsLaw12
open Go.RowKit RnA RnB RnS RnC RnK RnM RnL RnN RnD RnE RnQ RnR RnG RnP RnW RnX RoA RoB RoC RoD RoE RoF RoG RoH RoI RoJ RoK RoL RoM RoN PnA PnB PnC PnD PnE PnF PnG PnH PnI PnJ PnK PnL RtA RtB RtC RtD RtE RtG RtH RtI RtJ RpA RpB RpC RpD RpE RpF RpG RpH RnY RpI RpJ RpK RpL RsX RsY RsW RsV RsU
theorem rat_diff (b : Bool) (s t : ByteArray) (W : World) : (binOp .neq 24 (.agg #[.bool b, .string s, .string t]) (.agg #[.bool b, .string s, .string t])).run Tryz.prog W = .ok (.bool false) W := by
  rw [run_neq_struct, run_equalIn_agg W 9999 _ _ _ rat_und rat_held, rat_fields]
  simp [go_sem]
theorem dec_len32 {a : Nat} (h : a < 4294967296) : (decOf a).length ≤ 13 := by
  have h1 := dec_size a
  rw [st_size] at h1
  have h2 : (bs a).size ≤ 4 := lt_bs.1 (Nat.lt_of_lt_of_le h (by decide))
  omega
theorem not46 (a : Nat) : (46 : UInt8) ∉ decOf a := not_in_digs (digs_decOf _) (by decide)
theorem not47 (a : Nat) : (47 : UInt8) ∉ decOf a := not_in_digs (digs_decOf _) (by decide)
theorem parse_slash {a b : Nat} (ha : a < 4294967296) (hb : b < 4294967296) : parseQ (decOf a ++ 47 :: decOf b) = if b = 0 then (0, 1) else (mk false a b, 0) := by
  have la := dec_len32 ha
  have lb := dec_len32 hb
  have hs := parse_sign false (decOf_45 a (47 :: decOf b))
  rw [show (if false = true then [45] else ([] : List UInt8)) ++ (decOf a ++ 47 :: decOf b) = decOf a ++ 47 :: decOf b from rfl] at hs
  rw [hs]
  obtain ⟨e1, e2⟩ := upTo_app (b := decOf b) (not47 a)
  unfold readQ
  rw [if_neg (by
    intro hm
    rcases List.mem_append.1 hm with hm | hm
    · exact not46 a hm
    · rcases List.mem_cons.1 hm with hm | hm
      · exact absurd hm (by decide)
      · exact not46 b hm), if_pos (by simp), e1, e2, if_pos ⟨isInt_decOf _, isInt_decOf _⟩, if_neg (by omega), dec_decOf, dec_decOf]
  by_cases h : b = 0
  · rw [if_pos h, if_pos (by rw [h, decOf_small (by omega)]; rfl)]
  · rw [if_neg h, if_neg]
    intro e
    have : decOf b = decOf 0 := by rw [e, decOf_small (by omega)]; rfl
    exact h (decOf_inj this)
theorem parse_point {a b : Nat} (ha : a < 4294967296) (hb : b < 4294967296) : parseQ (45 :: (decOf a ++ 46 :: decOf b)) = (mk true (a * 10 ^ (decOf b).length + b) (10 ^ (decOf b).length), 0) := by
  have la := dec_len32 ha
  have lb := dec_len32 hb
  have hs := parse_sign true (decOf_45 a (46 :: decOf b))
  rw [show (if true = true then [45] else ([] : List UInt8)) ++ (decOf a ++ 46 :: decOf b) = 45 :: (decOf a ++ 46 :: decOf b) from rfl] at hs
  rw [hs]
  obtain ⟨e1, e2⟩ := upTo_app (b := decOf b) (not46 a)
  unfold readQ
  rw [if_pos (by simp), e1, e2, if_pos ⟨isInt_decOf _, digs_decOf _, decOf_ne b⟩, if_neg (by omega), dec_decOf, dec_decOf]
theorem parse_zeros (n : Nat) (h : 0 < n) : parseQ (49 :: 46 :: List.replicate n 48) = if 2000 < n then (0, 2) else (1, 0) := by
  have hs := parse_sign false (l := 49 :: 46 :: List.replicate n 48) (by simp)
  rw [show (if false = true then [45] else ([] : List UInt8)) ++ (49 :: 46 :: List.replicate n 48) = [49] ++ 46 :: List.replicate n 48 from rfl] at hs
  rw [show (49 :: 46 :: List.replicate n 48 : List UInt8) = [49] ++ 46 :: List.replicate n 48 from rfl, hs]
  obtain ⟨e1, e2⟩ := upTo_app (c := 46) (a := [49]) (b := List.replicate n 48) (by decide)
  change upTo 46 (49 :: 46 :: List.replicate n 48) = _ at e1
  change behind 46 (49 :: 46 :: List.replicate n 48) = _ at e2
  have hd : dec (List.replicate n 48) = 0 := by
    have := dec_rep n []
    rw [List.append_nil] at this
    rw [this]; rfl
  unfold readQ
  rw [if_pos (by simp), e1, e2, if_pos ⟨by decide, digs_rep n, by intro e; have := congrArg List.length e; rw [List.length_replicate] at this; simp at this; omega⟩, List.length_replicate, hd, show dec [49] = 1 from rfl]
  by_cases h2 : 2000 < n
  · rw [if_pos h2, if_pos (.inr h2)]
  · rw [if_neg h2, if_neg (by simp; omega)]
    have h10 : 10 ^ n ≠ 0 := by have : 0 < 10 ^ n := Nat.pow_pos (by omega); omega
    have e : mk false (1 * 10 ^ n + 0) (10 ^ n) = 1 := by
      rw [Nat.add_zero]
      have := mk_scale false 1 1 h10
      rw [Nat.one_mul] at this ⊢
      rw [this]; rfl
    rw [e]
theorem slash_eq {a b : Nat} (h : b ≠ 0) : cmpQ (mk false a b * intQ (b : Int)) (intQ (a : Int)) = 0 := by
  rw [intQ_eq, intQ_eq]
  have e := mk_times a b h
  have e2 : mk false a b * (((b : Nat) : Int) : Rat) = (((a : Nat) : Int) : Rat) := e
  rw [e2]
  unfold cmpQ
  rw [if_neg (by grind), if_pos rfl]
theorem point_sgn (N P : Nat) (hP : P ≠ 0) : sgnQ (mk true N P) ≤ 0 := by
  rw [sgnQ_eq]
  split
  · omega
  · rename_i h
    have hn : negB (mk true N P) = true := by
      rw [neg_mk true N P hP]
      have : N ≠ 0 := by
        intro e
        rw [e, mk_zero] at h
        exact h rfl
      simp [this]
    rw [if_pos hn]; omega
theorem point_cmp {a b P : Nat} (hP : P ≠ 0) : 0 ≤ cmpQ (-mk true (a * P + b) P) (intQ (a : Int)) := by
  have e0 : mk true (a * P + b) P = -mk false (a * P + b) P := mk_neg_eq false _ _
  rw [e0, intQ_eq]
  have e := mk_times (a * P + b) P hP
  have hP0 : (0 : Rat) < (P : Rat) := by
    have : ((0 : Nat) : Rat) < ((P : Nat) : Rat) := Rat.natCast_lt_natCast.2 (by omega)
    exact this
  have hb0 : (0 : Rat) ≤ (b : Rat) := by
    have : ((0 : Nat) : Rat) ≤ ((b : Nat) : Rat) := Rat.natCast_le_natCast.2 (by omega)
    exact this
  have h1 : (((a : Nat) : Int) : Rat) ≤ mk false (a * P + b) P := by
    refine Rat.le_of_mul_le_mul_right (c := (P : Rat)) ?_ hP0
    rw [e, Rat.natCast_add, Rat.natCast_mul]
    have : (((a : Nat) : Int) : Rat) = ((a : Nat) : Rat) := rfl
    rw [this]
    grind
  unfold cmpQ
  rw [if_neg (by grind)]
  split <;> omega
set_option maxHeartbeats 8000000 in
set_option maxRecDepth 100000 in
theorem forms_law (xa xb xl : Int) (w : World) (ha : 0 ≤ xa ∧ xa ≤ 4294967295) (hb : 0 ≤ xb ∧ xb ≤ 4294967295) (hl : 0 ≤ xl ∧ xl ≤ 65535) (he : Env w) :
    Calls Tryz.prog 11 #[.int .u32 xa, .int .u32 xb, .int .u16 xl] w fun e w' => e = .returned (.bool true) ∧ Below w.heap.size w w' := by
  have HAW := Lib.hid (fun w (h : Env w) => awake_any w h)
  obtain ⟨a, rfl⟩ : ∃ a : Nat, xa = a := ⟨xa.toNat, by omega⟩
  obtain ⟨b, rfl⟩ : ∃ b : Nat, xb = b := ⟨xb.toNat, by omega⟩
  have ha2 : a < 4294967296 := by omega
  have hb2 : b < 4294967296 := by omega
  obtain ⟨L, hL⟩ : ∃ L : Nat, 1998 + (xl % 5).toNat = L := ⟨_, rfl⟩
  have hLn : Hid (1998 + xl % 5 = (L : Int)) := by show _ = _; omega
  have hLb : 1998 ≤ L ∧ L ≤ 2002 := by omega
  have HE := hide he
  have la := dec_len32 ha2
  have lb := dec_len32 hb2
  have F1 := Lib.hid (fun w => rfrom_any a w (by omega))
  have F2 := Lib.hid (fun w => rfrom_any b w (by omega))
  have sa : (bs a).size ≤ 4 := lt_bs.1 (Nat.lt_of_lt_of_le ha2 (by decide))
  have sb : (bs b).size ≤ 4 := lt_bs.1 (Nat.lt_of_lt_of_le hb2 (by decide))
  have N1 := Lib.hid (fun w => rnatformat_any (bs a) w (by omega))
  have N2 := Lib.hid (fun w => rnatformat_any (bs b) w (by omega))
  rw [nv_bs] at N1 N2
  have P1 := Lib.hid (fun w (h : Env w) => parse_any (st (decOf a ++ 47 :: decOf b)) w (by rw [st_size, List.length_append, List.length_cons]; omega) h)
  rw [st_data, parse_slash ha2 hb2] at P1
  obtain ⟨q1, k1, hq1⟩ : ∃ (q1 : Rat) (k1 : Int), (if b = 0 then ((0 : Rat), (1 : Int)) else (mk false a b, 0)) = (q1, k1) := ⟨_, _, rfl⟩
  rw [hq1] at P1
  have HQ1 := hide hq1
  clear hq1
  have P2 := Lib.hid (fun w (h : Env w) => parse_any (st (45 :: (decOf a ++ 46 :: decOf b))) w (by rw [st_size, List.length_cons, List.length_append, List.length_cons]; omega) h)
  rw [st_data, parse_point ha2 hb2] at P2
  have P3 := Lib.hid (fun w (h : Env w) => parse_any (st (49 :: 46 :: List.replicate L 48)) w (by rw [st_size, List.length_cons, List.length_cons, List.length_replicate]; omega) h)
  rw [st_data, parse_zeros L (by omega)] at P3
  obtain ⟨q3, k3, hq3⟩ : ∃ (q3 : Rat) (k3 : Int), (if 2000 < L then ((0 : Rat), (2 : Int)) else (1, 0)) = (q3, k3) := ⟨_, _, rfl⟩
  rw [hq3] at P3
  have HQ3 := hide hq3
  clear hq3
  have hP0 : 10 ^ (decOf b).length ≠ 0 := by have : 0 < 10 ^ (decOf b).length := Nat.pow_pos (by omega); omega
  have e1 : st (decOf a ++ 47 :: decOf b) = st (decOf a) ++ ⟨#[47]⟩ ++ st (decOf b) := by
    rw [show (⟨#[47]⟩ : ByteArray) = st [47] from rfl, st_app, st_app, List.append_assoc]; rfl
  have e2 : st (45 :: (decOf a ++ 46 :: decOf b)) = (⟨#[45]⟩ ++ st (decOf a)) ++ ⟨#[46]⟩ ++ st (decOf b) := by
    rw [show (⟨#[45]⟩ : ByteArray) = st [45] from rfl, show (⟨#[46]⟩ : ByteArray) = st [46] from rfl, st_app, st_app, st_app, List.append_assoc, List.append_assoc]; rfl
  have e3 : st (49 :: 46 :: List.replicate L 48) = (⟨#[49, 46]⟩ : ByteArray) ++ ⟨(List.replicate L 48).toArray⟩ := by
    rw [show (⟨#[49, 46]⟩ : ByteArray) = st [49, 46] from rfl, show (⟨(List.replicate L 48).toArray⟩ : ByteArray) = st (List.replicate L 48) from rfl, st_app]; rfl
  rw [e1] at P1
  rw [e2] at P2
  rw [e3] at P3
  have hQlt : Lt (mk true (a * 10 ^ (decOf b).length + b) (10 ^ (decOf b).length)) 40 := by
    have h1 : 10 ^ (decOf b).length ≤ 10 ^ 13 := Nat.pow_le_pow_right (by omega) lb
    have h2 : a * 10 ^ (decOf b).length ≤ 4294967296 * 10 ^ 13 := Nat.mul_le_mul (by omega) h1
    exact mk_lt hP0 (Nat.lt_of_le_of_lt (show _ ≤ 4294967296 * 10 ^ 13 + 4294967296 by omega) (by decide)) (Nat.lt_of_le_of_lt h1 (by decide))
  have g1 := point_sgn (a * 10 ^ (decOf b).length + b) (10 ^ (decOf b).length) hP0
  have g2 := point_cmp (a := a) (b := b) hP0
  generalize mk true (a * 10 ^ (decOf b).length + b) (10 ^ (decOf b).length) = qq at *
  have SQ := Sm.enc hQlt (by decide)
  have SN := Sm.enc hQlt.neg (by decide)
  have SIa := Sm.enc (lt_int (n := (a : Int)) ⟨by omega, by omega⟩) (by decide)
  have IA := Lib.hid (int_s (m := (a : Int)) ⟨by omega, by omega⟩ rfl)
  have G1 := Lib.hid (sgn_s SQ rfl)
  have G2 := Lib.hid (neg_s SQ rfl)
  have G3 := Lib.hid (cmp_s SN SIa rfl)
  have hbz : Hid (b ≠ 0 → Lt (mk false a b) 8 ∧ cmpQ (mk false a b * intQ (b : Int)) (intQ (a : Int)) = 0) := fun h => ⟨mk_lt h (Nat.lt_of_lt_of_le ha2 (by decide)) (Nat.lt_of_lt_of_le hb2 (by decide)), slash_eq h⟩
  have HSIa := hide SIa
  generalize -qq = nq at *
  generalize sgnQ qq = s1 at *
  generalize cmpQ nq (intQ (a : Int)) = c1 at *
  have hX : (st (decOf a)).size ≤ 13 := by rw [st_size]; exact la
  have hY : (st (decOf b)).size ≤ 13 := by rw [st_size]; exact lb
  generalize st (decOf a) = X at *
  generalize st (decOf b) = Y at *
  clear SQ SN SIa hQlt la lb hP0 e1 e2 e3 he hL sa sb
  unfold RCPost at P1 P2 P3
  simp only [enc_open] at P1 P2 P3
  go_enter Tryz.func11, Tryz.ntmps11
  go_wp2_with fail
  refine (F1.out _).mono ?_
  rintro e w1 ⟨rfl, hb1⟩
  go_wp2_with fail
  refine (N1.out _).mono ?_
  rintro e w2 ⟨rfl, hb2'⟩
  go_wp2_with fail
  refine (F2.out _).mono ?_
  rintro e w3 ⟨rfl, hb3⟩
  go_wp2_with fail
  refine (N2.out _).mono ?_
  rintro e w4 ⟨rfl, hb4⟩
  have HC4 := hide (below_next hb1 (below_next hb2' (below_next hb3 hb4)))
  have he4 := hide (HE.out.below HC4.out)
  have P14 := hide (P1.out _ he4.out)
  clear hb1 hb2' hb3 hb4 P1 he4 F1 F2 N1 N2
  go_wp2_with fail
  refine P14.out.mono ?_
  rintro e w5 ⟨rfl, hb5⟩
  obtain ⟨V6, hV6, HP6, hc6, hl6⟩ := box_new w5 (.bool (negB q1)) (.string (bs (nm q1))) (.string (dstr q1))
  have hb6 := hb5.trans (hc6.mono hb5.size)
  have HC6 := hide (HC4.out.trans (hb6.mono HC4.out.size))
  have he6 := hide (HE.out.below HC6.out)
  have P26 := hide (P2.out _ he6.out)
  clear hb5 hc6 hb6 HC4 he6 P2 P14
  go_wp2_with fail
  refine P26.out.mono ?_
  rintro e w7 ⟨rfl, hb7⟩
  obtain ⟨V8, hV8, HQ8, hc8, hl8⟩ := box_new w7 (.bool (negB qq)) (.string (bs (nm qq))) (.string (dstr qq))
  have hb8 := hb7.trans (hc8.mono hb7.size)
  have HP8 := hide (HP6.out.keep hb8 HP6.out.lt)
  have HC8 := hide (HC6.out.trans (hb8.mono HC6.out.size))
  have HV8 := hide hV8
  clear hb7 hc8 hb8 HC6 P26 HP6 hV6 hV8
  go_upto_region 5 with fail
  rw [HV8.out]
  go_cut [13] (fun v wx => v = .int .i64 (L : Int) ∧ V8 = wx)
  case first =>
    go_wp2_with fail
    go_meet
    case rel => exact ⟨by rw [← hLn.out], rfl⟩
  case rest =>
    obtain ⟨rfl, rfl⟩ := hcut
    obtain ⟨i0, hi0, hz0, hz1, hz2⟩ := info_parts u8Info
    clear hLn hl
    go_wp2_with (first
      | (at_make
         refine wpList_make_full _ rfl (.tmp 47) (.tmp 47) 57 rfl V8.heap.size 5 i0 _ 1 Tryz.underlying57 hi0 hz0 hz1 .i64 .i64 _ _ L rfl rfl ?c1 ?c2 ?c3 ?c4 ?c5 ?_
         case c1 => omega
         case c2 => omega
         case c3 => rw [hz2]; omega
         case c4 => unfold maxLen; omega
         case c5 => exact Nat.le_refl _
         intro w9 hown hg))
    rw [made_bv] at hown
    have hb9 : Below V8.heap.size V8 w9 := (Below.refl _ _).grown hg (Nat.le_refl _) (by simp)
    clear hg
    go_loopw [51] (fun vi wr => ∃ (i : Nat) (bl : List UInt8), i ≤ L ∧ vi = .int .i64 i ∧ Hid (bl.length = L) ∧ Hid (bl.take i = List.replicate i 48) ∧ wr.ownsRow V8.heap.size 5 1 (.slice (some ⟨V8.heap.size, 0, none⟩) L L) L (bv bl) ∧ Below V8.heap.size V8 wr) (fun vi _ => L - (intOf vi).toNat)
    case atStart => exact ⟨0, List.replicate L 0, by omega, rfl, by show _ = _; simp, rfl, hown, hb9⟩
    case round =>
      obtain ⟨i, bl, hi, rfl, HB, HV, hown, hbr⟩ := hrel
      by_cases hlt : i < L
      · have fz := hown.frozenAt i
        obtain ⟨z, hz⟩ : ∃ z, bl[i]? = some z := ⟨_, List.getElem?_eq_getElem (by have := HB.out; omega)⟩
        have cz : wr.cell? ⟨V8.heap.size, i, none⟩ = some (.int .u8 (z.toNat : Int)) := (hown.cellAt i (by omega)).trans (bv_get hz)
        obtain ⟨hos, hgs⟩ := hown.stored i (.int .u8 (((48 : UInt8).toNat : Nat) : Int))
        rw [bv_set] at hos
        have hbs := hbr.setCell (p := ⟨V8.heap.size, i, none⟩) (Nat.le_refl _) (.int .u8 (((48 : UInt8).toNat : Nat) : Int))
        have e3 : (((48 : UInt8).toNat : Nat) : Int) = 48 := rfl
        rw [e3] at hos hbs
        have hlen : Hid ((bl.set i 48).length = L) := by show _ = _; rw [List.length_set]; exact HB.out
        have hval : Hid ((bl.set i 48).take (i + 1) = List.replicate (i + 1) 48) := by
          show _ = _
          have hil : i < (bl.set i 48).length := by rw [List.length_set]; have := HB.out; omega
          rw [List.take_succ_eq_append_getElem hil, List.take_set_of_le (Nat.le_refl _), HV.out, List.getElem_set_self, List.replicate_succ']
        clear hz e3 hgs
        go_wp2_with fail
        go_roundw
        case rel => exact ⟨i + 1, _, by omega, by go_num, hlen, hval, hos, hbs⟩
        case measure => simp [intOf]; omega
      · obtain rfl : i = L := by omega
        have hbl : bl = List.replicate i 48 := by
          have h := HV.out
          rwa [List.take_of_length_le (by have := HB.out; omega)] at h
        subst hbl
        have hv0 : ¬ (Value.slice (some ⟨V8.heap.size, 0, none⟩) i i = .slice none 0 0) := by simp
        obtain ⟨g2', c2', hv, hcv⟩ := conv_own hown hv0
        injection hv with hv1 hv2 hv3
        injection hv1 with hv1
        injection hv1 with hv1
        subst hv1; subst hv3
        clear hv2
        rw [HB.out] at hcv
        have hsz : (⟨(List.replicate i 48).toArray⟩ : ByteArray).size = i := by simp [ByteArray.size]
        have hszl : (⟨(List.replicate i (48 : UInt8)).toArray⟩ : ByteArray).size ≤ 3000 := by omega
        have HP9 := hide (HP8.out.keep hbr HP8.out.lt)
        have HQ9 := hide (HQ8.out.keep hbr HQ8.out.lt)
        have HC9 := hide (HC8.out.trans (hbr.mono HC8.out.size))
        have he9 := hide (HE.out.below HC9.out)
        have P39 := hide (P3.out _ he9.out)
        generalize (⟨(List.replicate i (48 : UInt8)).toArray⟩ : ByteArray) = Z at *
        clear hv0 hsz HB HV hown hbr HP8 HQ8 HC8 P3 he9
        go_wp2_with fail
        refine P39.out.mono ?_
        rintro e w10 ⟨rfl, hb10⟩
        obtain ⟨V11, hV11, HR11, hc11, hl11⟩ := box_new w10 (.bool (negB q3)) (.string (bs (nm q3))) (.string (dstr q3))
        have hb11 := hb10.trans (hc11.mono hb10.size)
        have HP11 := hide (HP9.out.keep hb11 HP9.out.lt)
        have HQ11 := hide (HQ9.out.keep hb11 HQ9.out.lt)
        have HC11 := hide (HC9.out.trans (hb11.mono HC9.out.size))
        clear hb10 hc11 hb11 HP9 HQ9 HC9 P39 hcv hszl
        have HV11 := hide hV11
        have hrg := rat_guard
        clear hV11
        by_cases hbz0 : b = 0
        · have hq := HQ1.out
          rw [if_pos hbz0] at hq
          injection hq with hq1 hq2
          have HPz := hide HP11.out
          rw [← hq1, show bs (nm 0) = ⟨#[]⟩ by rw [show nm 0 = 0 from rfl, bs0], show dstr 0 = ⟨#[]⟩ from rfl, show negB 0 = false from rfl] at HPz
          have hk1 : k1 = 1 := hq2.symm
          subst hk1
          have hb0 : ((b : Int) == 0) = true := by simp; omega
          have D0 := fun W => rat_diff false ⟨#[]⟩ ⟨#[]⟩ W
          obtain ⟨d0, d1, d2, _⟩ := HPz.out
          have HQa := HQ11
          have HRa := HR11
          have HCa := HC11
          clear hq1 hq2 HQ1 HP11 hbz0 hbz HQ11 HR11 HC11
          go_upto_region 13 with fail
          rw [HV11.out]
          obtain ⟨c0, c1', c2, _⟩ := HQa.out
          go_wp2_with fail
          refine (G1.out _).mono ?_
          rintro e wA ⟨rfl, hbA⟩
          have HQb := hide (HQa.out.keep hbA HQa.out.lt)
          have HRb := hide (HRa.out.keep hbA HRa.out.lt)
          have HCb := hide (HCa.out.trans (hbA.mono HCa.out.size))
          clear hbA c0 c1' c2 HQa HRa HCa
          obtain ⟨c0, c1', c2, _⟩ := HQb.out
          go_wp2_with fail
          refine (G2.out _).mono ?_
          rintro e wB ⟨rfl, hbB⟩
          have HRc := hide (HRb.out.keep hbB HRb.out.lt)
          have HCc := hide (HCb.out.trans (hbB.mono HCb.out.size))
          clear hbB c0 c1' c2 HQb HRb HCb
          go_wp2_with fail
          refine (IA.out _).mono ?_
          rintro e wC ⟨rfl, hbC⟩
          have HRd := hide (HRc.out.keep hbC HRc.out.lt)
          have HCd := hide (HCc.out.trans (hbC.mono HCc.out.size))
          clear hbC HRc HCc
          go_wp2_with fail
          refine (G3.out _).mono ?_
          rintro e wD ⟨rfl, hbD⟩
          have HRe := hide (HRd.out.keep hbD HRd.out.lt)
          have HCe := hide (HCd.out.trans (hbD.mono HCd.out.size))
          clear hbD HRd HCd
          have heE := hide (HE.out.below HCe.out)
          by_cases hlong : 2000 < i
          · have hq := HQ3.out
            rw [if_pos hlong] at hq
            injection hq with hq1 hq2
            have HRz := hide HRe.out
            rw [← hq1, show bs (nm 0) = ⟨#[]⟩ by rw [show nm 0 = 0 from rfl, bs0], show dstr 0 = ⟨#[]⟩ from rfl, show negB 0 = false from rfl] at HRz
            have hk3 : k3 = 2 := hq2.symm
            subst hk3
            have S0 := fun W => rat_same false ⟨#[]⟩ ⟨#[]⟩ W
            have HAWE := hide (HAW.out _ heE.out)
            clear hq1 hq2 HQ3 HRe
            go_wp2_with fail
            refine HAWE.out.mono ?_
            rintro e wF ⟨rfl, hbF⟩
            have HRf := hide (HRz.out.keep hbF HRz.out.lt)
            have hbf := HCe.out.trans (hbF.mono HCe.out.size)
            obtain ⟨c0, c1', c2, _⟩ := HRf.out
            clear hbF
            go_wp2_with fail
            go_ret
            exact ⟨rfl, hbf⟩
          · have hq := HQ3.out
            rw [if_neg hlong] at hq
            injection hq with hq1 hq2
            have hk3 : k3 = 0 := hq2.symm
            have hqq3 : q3 = 1 := hq1.symm
            subst hk3 hqq3
            have I1 := Lib.hid (fun W (v : Qin.In (Below W.heap.size W)) => v_in (int_s (m := 1) ⟨by decide, by decide⟩ (show intQ 1 = 1 from rfl) v.val))
            generalize (1 : Rat) = one at *
            have S1 := fun W => rat_same (negB one) (bs (nm one)) (dstr one) W
            have HAWI := Lib.hid (fun x => awake_in wD heE.out x)
            clear hq1 hq2 HQ3
            go_wp2_with fail
            obtain ⟨m0, m1, m2⟩ := HRe.out.kin
            refine Qin.region (I := Below wD.heap.size wD) (Qin.start _ wD) (by kernel_rfl) (by kernel_rfl) ?_
            repeat (go_big_quiet_step ((first | (go_at_call 16; with_reducible exact HAWI.out _) | (go_at_call 27; with_reducible exact I1.out _ _))))
            refine wpQuiet_nil ?_
            intro v
            have hbf := HCe.out.trans (v.ok.mono HCe.out.size)
            clear m0 m1 m2
            go_wp2_with fail
            go_ret
            exact ⟨rfl, hbf⟩
        · have hq := HQ1.out
          rw [if_neg hbz0] at hq
          injection hq with hq1 hq2
          obtain ⟨hlt1, hc0⟩ := hbz.out hbz0
          rw [hq1] at hlt1 hc0
          have hk1 : k1 = 0 := hq2.symm
          subst hk1
          have hb0 : ((b : Int) == 0) = false := by simp; omega
          have hlb := lt_int (n := (b : Int)) ⟨by omega, by omega⟩
          have SP := Sm.enc hlt1 (by decide)
          have SIb := Sm.enc hlb (by decide)
          have SM := Sm.enc (hlt1.mul hlb) (by decide)
          have IB := Lib.hid (fun W (v : Qin.In (Below W.heap.size W)) => v_in (int_s (m := (b : Int)) ⟨by omega, by omega⟩ rfl v.val))
          have IA2 := Lib.hid (fun W (v : Qin.In (Below W.heap.size W)) => v_in (IA.out v.val))
          have MU := Lib.hid (fun W (v : Qin.In (Below W.heap.size W)) => v_in (mul_s SP SIb rfl v.val))
          have CM := Lib.hid (fun W (v : Qin.In (Below W.heap.size W)) => v_in (cmp_s SM HSIa.out hc0 v.val))
          clear hq1 hq2 HQ1 hbz0 hbz hlt1 hc0 hlb SP SIb SM HSIa
          generalize q1 * intQ (b : Int) = mm at *
          go_upto_region 13 with fail
          rw [HV11.out]
          go_wp2_with fail
          obtain ⟨k0, k1', k2⟩ := HP11.out.kin
          refine Qin.region (I := Below V11.heap.size V11) (Qin.start _ V11) (by kernel_rfl) (by kernel_rfl) ?_
          repeat (go_big_quiet_step ((first | (go_at_call 27; first | (with_reducible exact IB.out _ _) | (with_reducible exact IA2.out _ _)) | (go_at_call 43; with_reducible exact MU.out _ _) | (go_at_call 47; with_reducible exact CM.out _ _))))
          refine wpQuiet_nil ?_
          intro v
          have HQa := hide (HQ11.out.keep v.ok HQ11.out.lt)
          have HRa := hide (HR11.out.keep v.ok HR11.out.lt)
          have HCa := hide (HC11.out.trans (v.ok.mono HC11.out.size))
          clear k0 k1' k2 HQ11 HR11 HC11 HP11 IB IA2 MU CM
          obtain ⟨c0, c1', c2, _⟩ := HQa.out
          go_wp2_with fail
          refine (G1.out _).mono ?_
          rintro e wA ⟨rfl, hbA⟩
          have HQb := hide (HQa.out.keep hbA HQa.out.lt)
          have HRb := hide (HRa.out.keep hbA HRa.out.lt)
          have HCb := hide (HCa.out.trans (hbA.mono HCa.out.size))
          clear hbA c0 c1' c2 HQa HRa HCa
          obtain ⟨c0, c1', c2, _⟩ := HQb.out
          go_wp2_with fail
          refine (G2.out _).mono ?_
          rintro e wB ⟨rfl, hbB⟩
          have HRc := hide (HRb.out.keep hbB HRb.out.lt)
          have HCc := hide (HCb.out.trans (hbB.mono HCb.out.size))
          clear hbB c0 c1' c2 HQb HRb HCb
          go_wp2_with fail
          refine (IA.out _).mono ?_
          rintro e wC ⟨rfl, hbC⟩
          have HRd := hide (HRc.out.keep hbC HRc.out.lt)
          have HCd := hide (HCc.out.trans (hbC.mono HCc.out.size))
          clear hbC HRc HCc
          go_wp2_with fail
          refine (G3.out _).mono ?_
          rintro e wD ⟨rfl, hbD⟩
          have HRe := hide (HRd.out.keep hbD HRd.out.lt)
          have HCe := hide (HCd.out.trans (hbD.mono HCd.out.size))
          clear hbD HRd HCd
          have heE := hide (HE.out.below HCe.out)
          by_cases hlong : 2000 < i
          · have hq := HQ3.out
            rw [if_pos hlong] at hq
            injection hq with hq1 hq2
            have HRz := hide HRe.out
            rw [← hq1, show bs (nm 0) = ⟨#[]⟩ by rw [show nm 0 = 0 from rfl, bs0], show dstr 0 = ⟨#[]⟩ from rfl, show negB 0 = false from rfl] at HRz
            have hk3 : k3 = 2 := hq2.symm
            subst hk3
            have S0 := fun W => rat_same false ⟨#[]⟩ ⟨#[]⟩ W
            have HAWE := hide (HAW.out _ heE.out)
            clear hq1 hq2 HQ3 HRe
            go_wp2_with fail
            refine HAWE.out.mono ?_
            rintro e wF ⟨rfl, hbF⟩
            have HRf := hide (HRz.out.keep hbF HRz.out.lt)
            have hbf := HCe.out.trans (hbF.mono HCe.out.size)
            obtain ⟨c0, c1', c2, _⟩ := HRf.out
            clear hbF
            go_wp2_with fail
            go_ret
            exact ⟨rfl, hbf⟩
          · have hq := HQ3.out
            rw [if_neg hlong] at hq
            injection hq with hq1 hq2
            have hk3 : k3 = 0 := hq2.symm
            have hqq3 : q3 = 1 := hq1.symm
            subst hk3 hqq3
            have I1 := Lib.hid (fun W (v : Qin.In (Below W.heap.size W)) => v_in (int_s (m := 1) ⟨by decide, by decide⟩ (show intQ 1 = 1 from rfl) v.val))
            generalize (1 : Rat) = one at *
            have S1 := fun W => rat_same (negB one) (bs (nm one)) (dstr one) W
            have HAWI := Lib.hid (fun x => awake_in wD heE.out x)
            clear hq1 hq2 HQ3
            go_wp2_with fail
            obtain ⟨m0, m1, m2⟩ := HRe.out.kin
            refine Qin.region (I := Below wD.heap.size wD) (Qin.start _ wD) (by kernel_rfl) (by kernel_rfl) ?_
            repeat (go_big_quiet_step ((first | (go_at_call 16; with_reducible exact HAWI.out _) | (go_at_call 27; with_reducible exact I1.out _ _))))
            refine wpQuiet_nil ?_
            intro v
            have hbf := HCe.out.trans (v.ok.mono HCe.out.size)
            clear m0 m1 m2
            go_wp2_with fail
            go_ret
            exact ⟨rfl, hbf⟩
end Go.Proofs.YthppojbabkljpaaGreatDoor.RsLaw12
