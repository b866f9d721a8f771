/- The walks of the reference's FromUint, Uint, order. -/
import Derived.Test.YthppojbabkljpaaGreatDoorRoC
namespace Go.Proofs.YthppojbabkljpaaGreatDoor.RoD
open Go.RowKit RnA RnB RnS RnC RnM RnL RnN RnW RoA RoB RoC
theorem lat_two (w : World) (x y : Nat) (t : TypeId) (hx : x < 4294967296) (hy : y < 4294967296) : LAt (w.alloc (.cells #[.int .u32 (x : Int), .int .u32 (y : Int)] t)) (w.alloc (.cells #[.int .u32 (x : Int), .int .u32 (y : Int)] t)).heap.size (some ⟨w.heap.size, 0, none⟩) [x, y] := by
  refine ⟨Ok.cons hx (Ok.cons hy Ok.nil), by simp [maxLen], fun _ => ⟨_, _, rfl, by simp, fun k z hk => ?_⟩⟩
  rcases k with _ | _ | k
  · simp at hk; subst hk; simp
  · simp at hk; subst hk; simp
  · simp at hk
set_option maxHeartbeats 1000000 in
theorem rfrom_any (u : Nat) (w : World) (hu : u < 18446744073709551616) :
    Calls Tryz.prog 46 #[.int .u64 (u : Int)] w (SPost (bs u) w) := by
  have hv : lval [u % 4294967296, u / 4294967296] = u := by simp [lval]; omega
  have HV := Lib.hid hv
  have h1 : u % 4294967296 < 4294967296 := Nat.mod_lt _ (by omega)
  have h2 : u / 4294967296 < 4294967296 := by omega
  have HL := fun w => lat_two w (u % 4294967296) (u / 4294967296) 52 h1 h2
  have e1 : ((u % 4294967296 : Nat) : Int) = (u : Int) % 4294967296 := by omega
  have e2 : ((u / 4294967296 : Nat) : Int) = (u : Int) / 4294967296 := by omega
  rw [e1, e2] at HL
  have HL2 := Lib.hid HL
  clear hv HL h1 h2 e1 e2
  go_enter Tryz.func46, Tryz.ntmps46
  go_wp2_with fail
  refine (rtext_any [u % 4294967296, u / 4294967296] _ 2 _ (HL2.out _) (by simp) (by simp)).mono ?_
  rintro e w1 ⟨rfl, hb1⟩
  rw [HV.out]
  go_wp2_with fail
  go_ret
  exact ⟨rfl, ((Below.refl _ _).alloc (Nat.le_refl _) _).trans (hb1.mono (by simp))⟩
/-- a number below 2^64, or no number -/
def uintOf (n : Nat) : Nat × Bool := if n < 18446744073709551616 then (n, true) else (0, false)
theorem uintOf_len (n : Nat) : uintOf n = if 8 < (bytesOf n).length then (0, false) else (n, true) := by
  unfold uintOf
  have h8 : (256 : Nat) ^ 8 = 18446744073709551616 := rfl
  by_cases h : n < 18446744073709551616
  · have := bytesOf_len_le (n := n) (k := 8) (by rw [h8]; exact h)
    rw [if_pos h, if_neg (by omega)]
  · rw [if_neg h]
    have : 8 < (bytesOf n).length := by
      rcases Nat.lt_or_ge 8 (bytesOf n).length with h1 | h1
      · exact h1
      · have h2 := bval_lt (bytesOf n)
        rw [bval_bytesOf] at h2
        have h3 := Nat.pow_le_pow_right (n := 256) (by omega) h1
        omega
    rw [if_pos this]
def UPost (p : Nat × Bool) (w : World) (e : Ending) (w' : World) : Prop := e = .returned (.tuple #[.int .u64 (p.1 : Int), .bool p.2]) ∧ Below w.heap.size w w'
set_option maxHeartbeats 1000000 in
theorem ruint_any (s : ByteArray) (w : World) (hs : s.size ≤ 1000000) :
    Calls Tryz.prog 89 #[.string s] w (UPost (uintOf (nv s)) w) := by
  obtain ⟨t, ht⟩ : ∃ t, bs (nv s) = t := ⟨_, rfl⟩
  have hT : t.data.toList = bytesOf (nv s) := by rw [← ht]; rfl
  have hts : t.size = (bytesOf (nv s)).length := by rw [← ht]; exact bs_size _
  have htl : t.size ≤ 1000000 := by
    rw [hts]
    have h := bval_lt s.data.toList
    have h2 : (bytesOf (nv s)).length ≤ s.data.toList.length := bytesOf_len_le h
    have h3 : s.data.toList.length = s.size := by simp
    omega
  have hres := uintOf_len (nv s)
  rw [← hts] at hres
  have HT := hide hT
  have HTE := Lib.hid ht
  have HR := Lib.hid hres
  clear hT hts ht hres
  go_enter Tryz.func89, Tryz.ntmps89
  go_wp2_with fail
  refine (normalize_any s _ (by omega)).mono ?_
  rintro e w1 ⟨rfl, rfl⟩
  rw [HTE.out]
  by_cases h8 : 8 < t.size
  · go_wp2_with fail
    go_ret2
    rw [HR.out, if_pos h8]
    exact ⟨rfl, Below.refl _ _⟩
  · go_wp2_with fail
    go_loop [4, 5] (fun vx vi => ∃ (i x : Nat), i ≤ t.size ∧ vi = .int .i64 i ∧ vx = .int .u64 x ∧ Hid (x = bval (t.data.toList.take i))) (fun _ vi => t.size - (intOf vi).toNat)
    case atStart => exact ⟨0, 0, by omega, rfl, rfl, rfl⟩
    case round =>
      obtain ⟨i, x, hi, rfl, rfl, HX⟩ := hrel
      by_cases hlt : i < t.size
      · obtain ⟨c, hc⟩ : ∃ c, t.data.toList[i]? = some c := ⟨_, List.getElem?_eq_getElem (by simpa using hlt)⟩
        have hix := index_at t (i : Int) i c rfl hc
        have hxl : x < 256 ^ i := by
          rw [HX.out]
          refine Nat.lt_of_lt_of_le (bval_lt _) (Nat.pow_le_pow_right (by omega) ?_)
          rw [List.length_take]; omega
        have h7 : 256 ^ i ≤ 256 ^ 7 := Nat.pow_le_pow_right (by omega) (by omega)
        have h7' : (256 : Nat) ^ 7 = 72057594037927936 := rfl
        have hx2 : x < 72057594037927936 := by omega
        have hcl := c.toNat_lt
        have HC := hide hc
        clear hc hxl h7 h7'
        go_wp2_with fail
        have hor : bits BinOp.or IntKind.u64 ((x : Int) * 256) (c.toNat : Int) = ((x * 256 + c.toNat : Nat) : Int) := by
          have e : (x : Int) * 256 = ((x * 256 : Nat) : Int) := by omega
          rw [e, u64_or_nat _ _ (by omega) (by omega), Nat.or_comm, Nat.mul_comm x, show (256 : Nat) = 2 ^ 8 from rfl, or_low (by omega), Nat.add_comm]
        have hnext : Hid (x * 256 + c.toNat = bval (t.data.toList.take (i + 1))) := by
          show _ = _
          rw [List.take_add_one, HC.out, HX.out]
          show _ = bval (_ ++ [c])
          rw [bval_snoc, Nat.mul_comm]
        clear hix
        rw [hor]
        go_round
        case rel => exact ⟨i + 1, x * 256 + c.toNat, by omega, by go_num, rfl, hnext⟩
        case measure => simp [intOf]; omega
      · have hfin : Hid (x = nv s) := by
          show _ = _
          rw [HX.out, List.take_of_length_le (by simp; omega), HT.out, bval_bytesOf]
        go_wp2_with fail
        go_ret2
        rw [HR.out, if_neg h8]
        exact ⟨by rw [hfin.out]; rfl, Below.refl _ _⟩
/-- how two numbers compare -/
def cmpN (x y : Nat) : Int := if x < y then -1 else if x = y then 0 else 1
theorem cmpN_lt {x y : Nat} (h : x < y) : (-1 : Int) = cmpN x y := by unfold cmpN; rw [if_pos h]
theorem cmpN_gt {x y : Nat} (h : y < x) : (1 : Int) = cmpN x y := by unfold cmpN; rw [if_neg (by omega), if_neg (by omega)]
theorem cmpN_eq {x y : Nat} (h : x = y) : (0 : Int) = cmpN x y := by unfold cmpN; rw [if_neg (by omega), if_pos h]
set_option maxHeartbeats 2000000 in
theorem rorder_any (x y : Nat) (A B : Option Addr) (c c' : Nat) (w : World) (ha : LAt w w.heap.size A (limbs x)) (hb : LAt w w.heap.size B (limbs y)) :
    Calls Tryz.prog 127 #[.slice A (limbs x).length c, .slice B (limbs y).length c'] w fun e w' => e = .returned (.int .i64 (cmpN x y)) ∧ Below w.heap.size w w' := by
  have hla := ha.len
  have hlb := hb.len
  have hlt1 : (limbs x).length < (limbs y).length → x < y := limbs_len_lt
  have hlt2 : (limbs y).length < (limbs x).length → y < x := limbs_len_lt
  have HLT1 := Lib.hid hlt1
  have HLT2 := Lib.hid hlt2
  have HVA := hide (lval_limbs x)
  have HVB := hide (lval_limbs y)
  have HA := hide ha
  have HB := hide hb
  clear ha hb hlt1 hlt2
  generalize limbs x = a at *
  generalize limbs y = b at *
  rcases (by omega : a.length < b.length ∨ b.length < a.length ∨ a.length = b.length) with h | h | h
  · have hr := hide (cmpN_lt (HLT1.out h))
    have hne : ((a.length : Int) != (b.length : Int)) = true := by simp; omega
    go_enter Tryz.func127, Tryz.ntmps127
    go_wp2_with fail
    go_ret
    exact ⟨ret_int hr.out, Below.refl _ _⟩
  · have hr := hide (cmpN_gt (HLT2.out h))
    have hne : ((a.length : Int) != (b.length : Int)) = true := by simp; omega
    go_enter Tryz.func127, Tryz.ntmps127
    go_wp2_with fail
    go_ret
    exact ⟨ret_int hr.out, Below.refl _ _⟩
  · have HLEN := hide h
    have hne : ((a.length : Int) != (b.length : Int)) = false := by simp; omega
    clear h
    go_enter Tryz.func127, Tryz.ntmps127
    go_wp2_with fail
    go_loopw [5] (fun vi wr => ∃ k : Nat, k ≤ a.length ∧ vi = .int .i64 ((k : Int) - 1) ∧ Hid (a.drop k = b.drop k) ∧ Below w.heap.size w wr) (fun vi _ => (intOf vi + 1).toNat)
    case atStart => exact ⟨a.length, Nat.le_refl _, rfl, by show _ = _; rw [List.drop_length, List.drop_eq_nil_of_le (by rw [HLEN.out]; exact Nat.le_refl _)], Below.refl _ _⟩
    case round =>
      obtain ⟨k, hk, rfl, HD, hbr⟩ := hrel
      rcases Nat.eq_zero_or_pos k with h0 | h0
      · subst h0
        have hr : Hid ((0 : Int) = cmpN x y) := by
          refine cmpN_eq ?_
          have := HD.out
          rw [List.drop_zero, List.drop_zero] at this
          rw [← HVA.out, ← HVB.out, this]
        go_wp2_with fail
        go_ret
        exact ⟨ret_int hr.out, hbr⟩
      · obtain ⟨j, rfl⟩ : ∃ j, k = j + 1 := ⟨k - 1, by omega⟩
        obtain ⟨p, hp⟩ : ∃ p, a[j]? = some p := ⟨_, List.getElem?_eq_getElem (by omega)⟩
        obtain ⟨q, hq⟩ : ∃ q, b[j]? = some q := ⟨_, List.getElem?_eq_getElem (by have := HLEN.out; omega)⟩
        obtain ⟨b1, o1, rfl, hb1, hc1⟩ := (HA.out.below hbr).2.2 (by omega)
        obtain ⟨b2, o2, rfl, hb2, hc2⟩ := (HB.out.below hbr).2.2 (by have := HLEN.out; omega)
        have c1 := hc1 j p hp
        have c2 := hc2 j q hq
        have hjb : j < b.length := by have := HLEN.out; omega
        have HP := hide hp
        have HQ := hide hq
        have e1 : (((j + 1 : Nat) : Int) - 1) = j := by omega
        rw [e1]
        clear hc1 hc2 hp hq h0
        rcases (by omega : p < q ∨ q < p ∨ p = q) with h | h | h
        · have hr := hide (cmpN_lt (x := x) (y := y) (by rw [← HVA.out, ← HVB.out]; exact lval_cmp HA.out.ok HLEN.out HD.out HP.out HQ.out h))
          have t1 : ((p : Int) != (q : Int)) = true := by simp; omega
          go_wp2_with fail
          go_quiet (fail)
          go_wp2_with fail
          go_quiet (fail)
          go_wp2_with fail
          go_ret
          exact ⟨ret_int hr.out, below_drewN (below_drewN hbr _) _⟩
        · have hr := hide (cmpN_gt (x := x) (y := y) (by rw [← HVA.out, ← HVB.out]; exact lval_cmp HB.out.ok HLEN.out.symm HD.out.symm HQ.out HP.out h))
          have t1 : ((p : Int) != (q : Int)) = true := by simp; omega
          go_wp2_with fail
          go_quiet (fail)
          go_wp2_with fail
          go_quiet (fail)
          go_wp2_with fail
          go_ret
          exact ⟨ret_int hr.out, below_drewN (below_drewN hbr _) _⟩
        · have hd : Hid (a.drop j = b.drop j) := by
            show _ = _
            rw [drop_at HP.out, drop_at HQ.out, h, HD.out]
          have t1 : ((p : Int) != (q : Int)) = false := by simp; omega
          clear h
          go_wp2_with fail
          go_quiet (fail)
          go_wp2_with fail
          go_roundw
          case rel => exact ⟨j, by omega, rfl, hd, below_drewN hbr _⟩
          case measure => simp [intOf] <;> omega
end Go.Proofs.YthppojbabkljpaaGreatDoor.RoD
