/- The walks of the program's sign, compare, Compare, FromUint, Uint. -/
import Derived.Test.YthppojbabkljpaaGreatDoorPnB
import Derived.Test.YthppojbabkljpaaGreatDoorShelf
namespace Go.Proofs.YthppojbabkljpaaGreatDoor.PnC
open Go.RowKit RnA RnB RnS RnC RnK RnM RnL RnN RnD RnE RnQ RnR RnP RnW RoA RoB RoC RoD RoE RoF RoG RoH RoI RoL PnA PnB
def sgnI (n : Int) : Int := if n < 0 then -1 else if 0 < n then 1 else 0
theorem sgnI_lt {n : Int} (h : n < 0) : sgnI n = -1 := by unfold sgnI; rw [if_pos h]
theorem sgnI_gt {n : Int} (h : 0 < n) : sgnI n = 1 := by unfold sgnI; rw [if_neg (by omega), if_pos h]
theorem sgnI_eq {n : Int} (h : n = 0) : sgnI n = 0 := by unfold sgnI; rw [if_neg (by omega), if_neg (by omega)]
set_option maxHeartbeats 1000000 in
theorem sign_any (n : Int) (w : World) :
    Calls Tryz.prog 132 #[.int .i64 n] w fun e w' => e = .returned (.int .i64 (sgnI n)) ∧ w = w' := by
  rcases (by omega : n < 0 ∨ 0 < n ∨ n = 0) with h | h | h
  · have hr := hide (sgnI_lt h)
    go_enter Tryz.func132, Tryz.ntmps132
    go_wp2_with fail
    go_ret
    exact ⟨ret_int hr.out.symm, rfl⟩
  · have hr := hide (sgnI_gt h)
    go_enter Tryz.func132, Tryz.ntmps132
    go_wp2_with fail
    go_ret
    exact ⟨ret_int hr.out.symm, rfl⟩
  · have hr := hide (sgnI_eq h)
    subst h
    go_enter Tryz.func132, Tryz.ntmps132
    go_wp2_with fail
    go_ret
    exact ⟨ret_int hr.out.symm, rfl⟩
set_option maxHeartbeats 2000000 in
theorem cmp_any (x y : Nat) (A B : Option Addr) (c c' : Nat) (w : World) (ha : LAt w w.heap.size A (limbs x)) (hb : LAt w w.heap.size B (limbs y)) :
    Calls Tryz.prog 144 #[.slice A (limbs x).length c, .slice B (limbs y).length c'] w fun e w' => e = .returned (.int .i64 (cmpN x y)) ∧ Below w.heap.size w w' := by
  have hla := ha.len
  have hlb := hb.len
  have hlt1 : (limbs x).length < (limbs y).length → x < y := limbs_len_lt
  have hlt2 : (limbs y).length < (limbs x).length → y < x := limbs_len_lt
  have HLT1 := Lib.hid hlt1
  have HLT2 := Lib.hid hlt2
  have HVA := hide (lval_limbs x)
  have HVB := hide (lval_limbs y)
  have HA := hide ha
  have HB := hide hb
  clear ha hb hlt1 hlt2
  generalize limbs x = a at *
  generalize limbs y = b at *
  by_cases hle : a.length = b.length
  · have HLEN := hide hle
    have hne : ((a.length : Int) != (b.length : Int)) = false := by simp; omega
    clear hle
    go_enter Tryz.func144, Tryz.ntmps144
    go_wp2_with fail
    go_loopw [5] (fun vi wr => ∃ k : Nat, k ≤ a.length ∧ vi = .int .i64 ((k : Int) - 1) ∧ Hid (a.drop k = b.drop k) ∧ Below w.heap.size w wr) (fun vi _ => (intOf vi + 1).toNat)
    case atStart => exact ⟨a.length, Nat.le_refl _, rfl, by show _ = _; rw [List.drop_length, List.drop_eq_nil_of_le (by rw [HLEN.out]; exact Nat.le_refl _)], Below.refl _ _⟩
    case round =>
      obtain ⟨k, hk, rfl, HD, hbr⟩ := hrel
      rcases Nat.eq_zero_or_pos k with h0 | h0
      · subst h0
        have hr : Hid ((0 : Int) = cmpN x y) := by
          refine cmpN_eq ?_
          have := HD.out
          rw [List.drop_zero, List.drop_zero] at this
          rw [← HVA.out, ← HVB.out, this]
        go_wp2_with fail
        go_ret
        exact ⟨ret_int hr.out, hbr⟩
      · obtain ⟨j, rfl⟩ : ∃ j, k = j + 1 := ⟨k - 1, by omega⟩
        obtain ⟨p, hp⟩ : ∃ p, a[j]? = some p := ⟨_, List.getElem?_eq_getElem (by omega)⟩
        obtain ⟨q, hq⟩ : ∃ q, b[j]? = some q := ⟨_, List.getElem?_eq_getElem (by have := HLEN.out; omega)⟩
        obtain ⟨b1, o1, rfl, hb1, hc1⟩ := (HA.out.below hbr).2.2 (by omega)
        obtain ⟨b2, o2, rfl, hb2, hc2⟩ := (HB.out.below hbr).2.2 (by have := HLEN.out; omega)
        have c1 := hc1 j p hp
        have c2 := hc2 j q hq
        have hjb : j < b.length := by have := HLEN.out; omega
        have HP := hide hp
        have HQ := hide hq
        have e1 : (((j + 1 : Nat) : Int) - 1) = j := by omega
        rw [e1]
        clear hc1 hc2 hp hq h0
        rcases (by omega : p < q ∨ q < p ∨ p = q) with h | h | h
        · have hr := hide (cmpN_lt (x := x) (y := y) (by rw [← HVA.out, ← HVB.out]; exact lval_cmp HA.out.ok HLEN.out HD.out HP.out HQ.out h))
          have t1 : ((p : Int) != (q : Int)) = true := by simp; omega
          go_wp2_with fail
          go_quiet (fail)
          go_wp2_with fail
          go_quiet (fail)
          go_wp2_with fail
          go_ret
          exact ⟨ret_int hr.out, below_drewN (below_drewN hbr _) _⟩
        · have hr := hide (cmpN_gt (x := x) (y := y) (by rw [← HVA.out, ← HVB.out]; exact lval_cmp HB.out.ok HLEN.out.symm HD.out.symm HQ.out HP.out h))
          have t1 : ((p : Int) != (q : Int)) = true := by simp; omega
          go_wp2_with fail
          go_quiet (fail)
          go_wp2_with fail
          go_quiet (fail)
          go_wp2_with fail
          go_ret
          exact ⟨ret_int hr.out, below_drewN (below_drewN hbr _) _⟩
        · have hd : Hid (a.drop j = b.drop j) := by
            show _ = _
            rw [drop_at HP.out, drop_at HQ.out, h, HD.out]
          have t1 : ((p : Int) != (q : Int)) = false := by simp; omega
          clear h
          go_wp2_with fail
          go_quiet (fail)
          go_wp2_with fail
          go_roundw
          case rel => exact ⟨j, by omega, rfl, hd, below_drewN hbr _⟩
          case measure => simp [intOf] <;> omega
  · have hne : ((a.length : Int) != (b.length : Int)) = true := by simp; omega
    have hr : Hid (sgnI ((a.length : Int) - (b.length : Int)) = cmpN x y) := by
      show _ = _
      rcases (by omega : a.length < b.length ∨ b.length < a.length) with h | h
      · rw [sgnI_lt (by omega), cmpN_lt (HLT1.out h)]
      · rw [sgnI_gt (by omega), cmpN_gt (HLT2.out h)]
    have hw : IntKind.i64.wrap ((a.length : Int) - (b.length : Int)) = (a.length : Int) - (b.length : Int) := IntWalk.i64_in _ (by omega)
    clear hle
    go_enter Tryz.func144, Tryz.ntmps144
    go_wp2_with fail
    refine (sign_any _ _).mono ?_
    rintro e w1 ⟨rfl, rfl⟩
    rw [hr.out]
    go_wp2_with fail
    go_ret
    exact ⟨rfl, Below.refl _ _⟩
set_option maxHeartbeats 1000000 in
theorem from_any (u : Nat) (w : World) (hu : u < 18446744073709551616) :
    Calls Tryz.prog 106 #[.int .u64 (u : Int)] w (SPost (bs u) w) := by
  have hv : lval [u % 4294967296, u / 4294967296] = u := by simp [lval]; omega
  have HV := Lib.hid hv
  have h1 : u % 4294967296 < 4294967296 := Nat.mod_lt _ (by omega)
  have h2 : u / 4294967296 < 4294967296 := by omega
  have HL := fun w => lat_two w (u % 4294967296) (u / 4294967296) 52 h1 h2
  have e1 : ((u % 4294967296 : Nat) : Int) = (u : Int) % 4294967296 := by omega
  have e2 : ((u / 4294967296 : Nat) : Int) = (u : Int) / 4294967296 := by omega
  rw [e1, e2] at HL
  have HL2 := Lib.hid HL
  clear hv HL h1 h2 e1 e2
  go_enter Tryz.func106, Tryz.ntmps106
  go_wp2_with fail
  refine (text_any [u % 4294967296, u / 4294967296] _ 2 2 _ (HL2.out _) rfl (by omega)).mono ?_
  rintro e w1 ⟨rfl, hb1⟩
  rw [HV.out]
  go_wp2_with fail
  go_ret
  exact ⟨rfl, ((Below.refl _ _).alloc (Nat.le_refl _) _).trans (hb1.mono (by simp))⟩
set_option maxHeartbeats 1000000 in
theorem uint_any (s : ByteArray) (w : World) (hs : s.size ≤ 1000000) :
    Calls Tryz.prog 88 #[.string s] w (UPost (uintOf (nv s)) w) := by
  obtain ⟨t, ht⟩ : ∃ t, bs (nv s) = t := ⟨_, rfl⟩
  have hT : t.data.toList = bytesOf (nv s) := by rw [← ht]; rfl
  have hts : t.size = (bytesOf (nv s)).length := by rw [← ht]; exact bs_size _
  have htl : t.size ≤ 1000000 := by
    rw [hts]
    have h := bval_lt s.data.toList
    have h2 : (bytesOf (nv s)).length ≤ s.data.toList.length := bytesOf_len_le h
    have h3 : s.data.toList.length = s.size := by simp
    omega
  have hres := uintOf_len (nv s)
  rw [← hts] at hres
  have HT := hide hT
  have HTE := Lib.hid ht
  have HR := Lib.hid hres
  clear hT hts ht hres
  go_enter Tryz.func88, Tryz.ntmps88
  go_wp2_with fail
  refine (norm_any s _ (by omega)).mono ?_
  rintro e w1 ⟨rfl, rfl⟩
  rw [HTE.out]
  by_cases h8 : 8 < t.size
  · go_wp2_with fail
    go_ret2
    rw [HR.out, if_pos h8]
    exact ⟨rfl, Below.refl _ _⟩
  · go_wp2_with fail
    go_loop [4, 13] (fun vx vi => ∃ (i x : Nat), i ≤ t.size ∧ vi = .int .i64 i ∧ vx = .int .u64 x ∧ Hid (x = bval (t.data.toList.take i))) (fun _ vi => t.size - (intOf vi).toNat)
    case atStart => exact ⟨0, 0, by omega, rfl, rfl, rfl⟩
    case round =>
      obtain ⟨i, x, hi, rfl, rfl, HX⟩ := hrel
      by_cases hlt : i < t.size
      · obtain ⟨c, hc⟩ : ∃ c, t.data.toList[i]? = some c := ⟨_, List.getElem?_eq_getElem (by simpa using hlt)⟩
        have hix := index_at t (i : Int) i c rfl hc
        have hxl : x < 256 ^ i := by
          rw [HX.out]
          refine Nat.lt_of_lt_of_le (bval_lt _) (Nat.pow_le_pow_right (by omega) ?_)
          rw [List.length_take]; omega
        have h7 : 256 ^ i ≤ 256 ^ 7 := Nat.pow_le_pow_right (by omega) (by omega)
        have h7' : (256 : Nat) ^ 7 = 72057594037927936 := rfl
        have hx2 : x < 72057594037927936 := by omega
        have hcl := c.toNat_lt
        have HC := hide hc
        clear hc hxl h7 h7'
        go_wp2_with fail
        have hor : bits BinOp.or IntKind.u64 ((x : Int) * 256) (c.toNat : Int) = ((x * 256 + c.toNat : Nat) : Int) := by
          have e : (x : Int) * 256 = ((x * 256 : Nat) : Int) := by omega
          rw [e, u64_or_nat _ _ (by omega) (by omega), Nat.or_comm, Nat.mul_comm x, show (256 : Nat) = 2 ^ 8 from rfl, or_low (by omega), Nat.add_comm]
        have hnext : Hid (x * 256 + c.toNat = bval (t.data.toList.take (i + 1))) := by
          show _ = _
          rw [List.take_add_one, HC.out, HX.out]
          show _ = bval (_ ++ [c])
          rw [bval_snoc, Nat.mul_comm]
        clear hix
        rw [hor]
        go_round
        case rel => exact ⟨i + 1, x * 256 + c.toNat, by omega, by go_num, rfl, hnext⟩
        case measure => simp [intOf]; omega
      · have hfin : Hid (x = nv s) := by
          show _ = _
          rw [HX.out, List.take_of_length_le (by simp; omega), HT.out, bval_bytesOf]
        go_wp2_with fail
        go_ret2
        rw [HR.out, if_neg h8]
        exact ⟨by rw [hfin.out]; rfl, Below.refl _ _⟩
/-- texts of one length compare as their numbers -/
theorem cmpB_eq : ∀ a b : List UInt8, a.length = b.length → Lib.compareBytes a b = cmpN (bval a) (bval b)
  | [], [], _ => by simp [Lib.compareBytes, bval, cmpN]
  | [], _ :: _, h => by simp at h
  | _ :: _, [], h => by simp at h
  | x :: a, y :: b, h => by
    have hl : a.length = b.length := by simpa using h
    have ih := cmpB_eq a b hl
    have ha := bval_lt a
    have hb := bval_lt b
    rw [Lib.compareBytes, ih]
    simp only [bval]
    rw [hl] at ha ⊢
    generalize 256 ^ b.length = P at *
    generalize bval a = u at *
    generalize bval b = v at *
    rcases (by omega : x.toNat < y.toNat ∨ y.toNat < x.toNat ∨ x.toNat = y.toNat) with h2 | h2 | h2
    · have h3 : P * (x.toNat + 1) ≤ P * y.toNat := Nat.mul_le_mul_left _ h2
      rw [Nat.mul_succ] at h3
      rw [if_pos (UInt8.lt_iff_toNat_lt.2 h2)]
      exact cmpN_lt (by omega)
    · have h3 : P * (y.toNat + 1) ≤ P * x.toNat := Nat.mul_le_mul_left _ h2
      rw [Nat.mul_succ] at h3
      have h1 : ¬ x < y := fun h => by have := UInt8.lt_iff_toNat_lt.1 h; omega
      rw [if_neg h1, if_pos (UInt8.lt_iff_toNat_lt.2 h2)]
      exact cmpN_gt (by omega)
    · have h1 : ¬ x < y := fun h => by have := UInt8.lt_iff_toNat_lt.1 h; omega
      have h1' : ¬ y < x := fun h => by have := UInt8.lt_iff_toNat_lt.1 h; omega
      rw [if_neg h1, if_neg h1', h2]
      rcases (by omega : u < v ∨ v < u ∨ u = v) with h4 | h4 | h4
      · rw [← cmpN_lt h4, ← cmpN_lt (by omega)]
      · rw [← cmpN_gt h4, ← cmpN_gt (by omega)]
      · rw [← cmpN_eq h4, ← cmpN_eq (by omega)]
theorem bytes_len_lt {x y : Nat} (h : (bytesOf x).length < (bytesOf y).length) : x < y := by
  rcases Nat.lt_or_ge x y with h1 | h1
  · exact h1
  · have h2 := bval_lt (bytesOf x)
    rw [bval_bytesOf] at h2
    have := bytesOf_len_le (Nat.lt_of_le_of_lt h1 h2)
    omega
set_option maxHeartbeats 1000000 in
theorem compare_any (s t : ByteArray) (w : World) (hs : s.size ≤ 1000000) (ht : t.size ≤ 1000000) :
    Calls Tryz.prog 99 #[.string s, .string t] w fun e w' => e = .returned (.int .i64 (cmpN (nv s) (nv t))) ∧ Below w.heap.size w w' := by
  go_enter Tryz.func99, Tryz.ntmps99
  go_wp2_with fail
  refine (norm_any s _ (by omega)).mono ?_
  rintro e w1 ⟨rfl, rfl⟩
  go_wp2_with fail
  refine (norm_any t _ (by omega)).mono ?_
  rintro e w1 ⟨rfl, rfl⟩
  obtain ⟨a, ha⟩ : ∃ a, bs (nv s) = a := ⟨_, rfl⟩
  obtain ⟨b, hb⟩ : ∃ b, bs (nv t) = b := ⟨_, rfl⟩
  have hal : a.size = (bytesOf (nv s)).length := by rw [← ha]; exact bs_size _
  have hbl : b.size = (bytesOf (nv t)).length := by rw [← hb]; exact bs_size _
  have hs2 : (bytesOf (nv s)).length ≤ 1000000 := by
    have h := bytesOf_len_le (bval_lt s.data.toList)
    have h3 : s.data.toList.length = s.size := by simp
    unfold nv; omega
  have ht2 : (bytesOf (nv t)).length ≤ 1000000 := by
    have h := bytesOf_len_le (bval_lt t.data.toList)
    have h3 : t.data.toList.length = t.size := by simp
    unfold nv; omega
  have hab : a.size ≤ 1000000 := by omega
  have hbb : b.size ≤ 1000000 := by omega
  have HA : Hid (a.data.toList = bytesOf (nv s)) := by show _ = _; rw [← ha]; rfl
  have HB : Hid (b.data.toList = bytesOf (nv t)) := by show _ = _; rw [← hb]; rfl
  have HAL := hide hal
  have HBL := hide hbl
  rw [ha, hb]
  clear hal hbl hs2 ht2 ha hb
  by_cases hle : a.size = b.size
  · have hne : ((a.size : Int) != (b.size : Int)) = false := by simp; omega
    have hr : Hid (Lib.compareBytes a.data.toList b.data.toList = cmpN (nv s) (nv t)) := by
      show _ = _
      rw [cmpB_eq _ _ (by simpa using hle), HA.out, HB.out, bval_bytesOf, bval_bytesOf]
    clear hle
    go_wp2_with fail
    refine (Tryz.strings_Compare a b _).mono ?_
    rintro e w1 ⟨rfl, rfl⟩
    rw [hr.out]
    go_wp2_with fail
    go_ret
    exact ⟨rfl, Below.refl _ _⟩
  · have hne : ((a.size : Int) != (b.size : Int)) = true := by simp; omega
    have hr : Hid (sgnI ((a.size : Int) - (b.size : Int)) = cmpN (nv s) (nv t)) := by
      show _ = _
      rcases (by omega : a.size < b.size ∨ b.size < a.size) with h | h
      · rw [sgnI_lt (by omega), cmpN_lt (x := nv s) (y := nv t) (bytes_len_lt (by rw [← HAL.out, ← HBL.out]; exact h))]
      · rw [sgnI_gt (by omega), cmpN_gt (x := nv s) (y := nv t) (bytes_len_lt (by rw [← HAL.out, ← HBL.out]; exact h))]
    clear hle
    go_wp2_with fail
    refine (sign_any _ _).mono ?_
    rintro e w1 ⟨rfl, rfl⟩
    rw [hr.out]
    go_wp2_with fail
    go_ret
    exact ⟨rfl, Below.refl _ _⟩
end Go.Proofs.YthppojbabkljpaaGreatDoor.PnC
