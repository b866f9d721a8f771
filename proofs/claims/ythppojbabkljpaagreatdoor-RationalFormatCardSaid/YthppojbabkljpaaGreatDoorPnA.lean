/- The walks of the program's trim, Normalize, parse. -/
import Derived.Test.YthppojbabkljpaaGreatDoorRoL
namespace Go.Proofs.YthppojbabkljpaaGreatDoor.PnA
open Go.RowKit RnA RnB RnS RnC RnK RnM RnL RnN RnD RnE RnQ RnR RnP RnW RoA RoB RoC RoD RoE RoF RoG RoH RoI RoL
set_option maxHeartbeats 1000000 in
theorem trim_any (l : List Nat) (A : Option Addr) (n c : Nat) (w : World) (hn : l.length = n) (h : LAt w w.heap.size A l) (hc : n ≤ c) :
    Calls Tryz.prog 137 #[.slice A n c] w fun e w' => e = .returned (.slice A (limbs (lval l)).length c) ∧ w = w' := by
  subst hn
  have hlen := h.len
  have H := hide h
  clear h
  go_enter Tryz.func137, Tryz.ntmps137
  go_wp2_with fail
  go_loop [3] (fun vn => ∃ m : Nat, m ≤ l.length ∧ vn = .int .i64 m ∧ Hid (lval (l.drop m) = 0)) (fun vn => (intOf vn).toNat)
  case atStart => exact ⟨l.length, by omega, rfl, by show lval _ = 0; rw [List.drop_length]; rfl⟩
  case round =>
    obtain ⟨m, hm, rfl, hz⟩ := hrel
    rcases Nat.eq_zero_or_pos m with h0 | h0
    · have hfin : Hid ((limbs (lval l)).length = m) := by
        show _ = m
        rw [← strip_take H.out.ok hm hz.out (by omega), take_len hm]
      subst h0
      go_wp2_with fail
      go_ret
      exact ⟨by rw [hfin.out]; rfl, rfl⟩
    · obtain ⟨j, rfl⟩ : ∃ j, m = j + 1 := ⟨m - 1, by omega⟩
      obtain ⟨x, hx⟩ : ∃ x, l[j]? = some x := ⟨_, List.getElem?_eq_getElem (by omega)⟩
      obtain ⟨b, off, rfl, hb, hcl⟩ := H.out.2.2 (by omega)
      have c0 := hcl j x hx
      have HX := hide hx
      clear hcl hx h0
      cases hx0 : ((x : Int) == 0)
      · have hfin : Hid ((limbs (lval l)).length = j + 1) := by
          show _ = j + 1
          rw [← strip_take H.out.ok hm hz.out (fun y _ hy e => by
            rw [Nat.add_sub_cancel, HX.out] at hy
            injection hy with hy
            subst hy; subst e
            simp at hx0), take_len hm]
        go_wp2_with fail
        go_ret
        exact ⟨by rw [hfin.out]; rfl, rfl⟩
      · have hz2 : Hid (lval (l.drop j) = 0) := by
          have : x = 0 := by simpa using hx0
          subst this
          exact lval_zero_at HX.out hz.out
        go_wp2_with fail
        go_round
        case rel => exact ⟨j, by omega, rfl, hz2⟩
        case measure => simp [intOf]
theorem len0 {s : ByteArray} (h : s.size = 0) : s.data.toList = [] := List.eq_nil_of_length_eq_zero (by simpa using h)
/-- a text without the bytes c at its head -/
def dropC (c : UInt8) (l : List UInt8) : List UInt8 := l.dropWhile (· == c)
def szOf : Value → Nat
  | .string t => t.size
  | _ => 0
theorem byte0 {t : ByteArray} (h : 0 < t.size) : t.data.toList = t[0] :: t.data.toList.drop 1 := by
  have := RnA.drop_at (get_byte h)
  simpa using this
set_option maxHeartbeats 1000000 in
theorem trimByte_any (s : ByteArray) (c : UInt8) (w : World) (hs : s.size ≤ 9223372036854775807) :
    Calls Tryz.prog 138 #[.string s, .int .u8 (c.toNat : Int)] w fun e w' => e = .returned (.string (st (dropC c s.data.toList))) ∧ w = w' := by
  go_enter Tryz.func138, Tryz.ntmps138
  go_wp2_with fail
  go_loop [0] (fun v => ∃ t : ByteArray, v = .string t ∧ t.size ≤ 9223372036854775807 ∧ Hid (dropC c t.data.toList = dropC c s.data.toList)) (fun v => szOf v)
  case atStart => exact ⟨s, rfl, hs, rfl⟩
  case round =>
    obtain ⟨t, rfl, ht, HT⟩ := hrel
    by_cases h0 : 0 < t.size
    · have hb := hide (byte0 h0)
      cases hc : ((t[0].toNat : Int) == (c.toNat : Int))
      · have hne : ¬ t[0] = c := fun e => by rw [e] at hc; simp at hc
        have hfin : Hid (st (dropC c s.data.toList) = t) := by
          show _ = _
          have : dropC c t.data.toList = t.data.toList := by
            unfold dropC
            rw [hb.out, List.dropWhile_cons, if_neg (by simpa using hne)]
          rw [← HT.out, this, st_self]
        clear hne
        go_wp2_with fail
        go_ret
        exact ⟨ret_str hfin.out.symm, rfl⟩
      · have hcc : t[0] = c := UInt8.toNat_inj.1 (Int.ofNat_inj.1 (by simpa using hc))
        have hnx : Hid (dropC c (t.extract 1 t.size).data.toList = dropC c s.data.toList) := by
          show _ = _
          rw [← HT.out, drop_bytes]
          unfold dropC
          conv => rhs; rw [hb.out]
          rw [List.dropWhile_cons, if_pos (by simpa using hcc)]
        clear hcc
        go_wp2_with fail
        go_round
        case rel => exact ⟨t.extract 1 t.size, rfl, by simp; omega, hnx⟩
        case measure => simp [szOf]; omega
    · have hfin : Hid (st (dropC c s.data.toList) = t) := by
        show _ = _
        have e : t.data.toList = [] := len0 (by omega)
        rw [← HT.out, e]
        refine ext_bytes ?_
        rw [e]; rfl
      go_wp2_with fail
      go_ret
      exact ⟨ret_str hfin.out.symm, rfl⟩
set_option maxHeartbeats 1000000 in
set_option maxRecDepth 100000 in
theorem trimLeft_any (s : ByteArray) (c : UInt8) (w : World) (hs : s.size ≤ 9223372036854775807) (hc : c.toNat < 128) :
    Calls Tryz.prog 112 #[.string s, .string ⟨#[c]⟩] w fun e w' => e = .returned (.string (st (dropC c s.data.toList))) ∧ w = w' := by
  by_cases h0 : 0 < s.size
  · obtain ⟨h1, h2⟩ := str_ne h0
    have hci : (((⟨#[c]⟩ : ByteArray)[0]'(Nat.zero_lt_one)).toNat : Int) < 128 := by show (c.toNat : Int) < 128; omega
    clear hc
    go_enter Tryz.func112, Tryz.ntmps112
    go_wp2_with fail
    refine (trimByte_any s c _ hs).mono ?_
    rintro e w1 ⟨rfl, rfl⟩
    go_wp2_with fail
    go_ret
    exact ⟨rfl, rfl⟩
  · obtain ⟨h1, h2⟩ := str_em (s := s) (by omega)
    have hfin : Hid (st (dropC c s.data.toList) = s) := by
      show _ = _
      have e : s.data.toList = [] := len0 (by omega)
      refine ext_bytes ?_
      rw [e]; rfl
    go_enter Tryz.func112, Tryz.ntmps112
    go_wp2_with fail
    go_ret
    exact ⟨ret_str hfin.out.symm, rfl⟩
theorem dropC_zero (s : ByteArray) : st (dropC 0 s.data.toList) = bs (nv s) := by
  refine ext_bytes ?_
  show dropC 0 s.data.toList = bytesOf _
  unfold dropC nv
  rw [dropZ_eq]
set_option maxHeartbeats 1000000 in
theorem norm_any (s : ByteArray) (w : World) (hs : s.size ≤ 9223372036854775807) :
    Calls Tryz.prog 107 #[.string s] w fun e w' => e = .returned (.string (bs (nv s))) ∧ w = w' := by
  have hz := Lib.hid (dropC_zero s)
  go_enter Tryz.func107, Tryz.ntmps107
  go_wp2_with fail
  refine (trimLeft_any s 0 _ hs (by decide)).mono ?_
  rintro e w1 ⟨rfl, rfl⟩
  rw [hz.out]
  go_wp2_with fail
  go_ret
  exact ⟨rfl, rfl⟩
end Go.Proofs.YthppojbabkljpaaGreatDoor.PnA
