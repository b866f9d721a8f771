/- The walks of the reference's strip, Normalize, limbs. -/
import Derived.Test.YthppojbabkljpaaGreatDoorProg
import Derived.Test.YthppojbabkljpaaGreatDoorRnW
import Derived.Test.YthppojbabkljpaaGreatDoorRnX
import Derived.Test.YthppojbabkljpaaGreatDoorRnL
import Derived.WalkKit
import Derived.WalkSpells
import Derived.LoopTactic
import Derived.IntWalk
import Derived.Lib.Hide
import Derived.Lib.IndexBytes
import Derived.Outline
import Derived.Deep.QuietTactic
import Derived.BigQuiet
import Derived.RegionTactic
import Derived.Laws.BitsAllLaws
namespace Go.Proofs.YthppojbabkljpaaGreatDoor.RoA
open Go.RowKit RnA RnB RnS RnC RnM RnL RnN RnW
set_option maxHeartbeats 1000000 in
theorem strip_any (l : List Nat) (A : Option Addr) (c : Nat) (w : World) (h : LAt w w.heap.size A l) (hc : l.length ≤ c) :
    Calls Tryz.prog 71 #[.slice A l.length c] w fun e w' => e = .returned (.slice A (limbs (lval l)).length c) ∧ w = w' := by
  have hlen := h.len
  have H := hide h
  clear h
  go_enter Tryz.func71, Tryz.ntmps71
  go_wp2_with fail
  go_loop [3] (fun vn => ∃ m : Nat, m ≤ l.length ∧ vn = .int .i64 m ∧ Hid (lval (l.drop m) = 0)) (fun vn => (intOf vn).toNat)
  case atStart => exact ⟨l.length, by omega, rfl, by show lval _ = 0; rw [List.drop_length]; rfl⟩
  case round =>
    obtain ⟨m, hm, rfl, hz⟩ := hrel
    rcases Nat.eq_zero_or_pos m with h0 | h0
    · have hfin : Hid ((limbs (lval l)).length = m) := by
        show _ = m
        rw [← strip_take H.out.ok hm hz.out (by omega), take_len hm]
      subst h0
      go_wp2_with fail
      go_ret
      exact ⟨by rw [hfin.out]; rfl, rfl⟩
    · obtain ⟨j, rfl⟩ : ∃ j, m = j + 1 := ⟨m - 1, by omega⟩
      obtain ⟨x, hx⟩ : ∃ x, l[j]? = some x := ⟨_, List.getElem?_eq_getElem (by omega)⟩
      obtain ⟨b, off, rfl, hb, hcl⟩ := H.out.2.2 (by omega)
      have c0 := hcl j x hx
      have HX := hide hx
      clear hcl hx h0
      cases hx0 : ((x : Int) == 0)
      · have hfin : Hid ((limbs (lval l)).length = j + 1) := by
          show _ = j + 1
          rw [← strip_take H.out.ok hm hz.out (fun y _ hy e => by
            rw [Nat.add_sub_cancel, HX.out] at hy
            injection hy with hy
            subst hy; subst e
            simp at hx0), take_len hm]
        go_wp2_with fail
        go_ret
        exact ⟨by rw [hfin.out]; rfl, rfl⟩
      · have hz2 : Hid (lval (l.drop j) = 0) := by
          have : x = 0 := by simpa using hx0
          subst this
          exact lval_zero_at HX.out hz.out
        go_wp2_with fail
        go_round
        case rel => exact ⟨j, by omega, rfl, hz2⟩
        case measure => simp [intOf]
theorem get_byte {s : ByteArray} {k : Nat} (h : k < s.size) : s.data.toList[k]? = some s[k] := by
  rw [List.getElem?_eq_getElem (by simpa using h)]; rfl
theorem ext_bytes {a b : ByteArray} (h : a.data.toList = b.data.toList) : a = b := by
  cases a; cases b
  congr 1
  exact Array.ext' h
theorem drop_bytes (s : ByteArray) (k : Nat) : (s.extract k s.size).data.toList = s.data.toList.drop k := Lib.extract_to_end s k
theorem drop_zeros {s : ByteArray} {k : Nat} (hz : (s.data.toList.take k).all (· == 0) = true) (h : ∀ c, s.data.toList[k]? = some c → c ≠ 0) : s.extract k s.size = bs (nv s) := by
  refine ext_bytes ?_
  rw [drop_bytes]
  unfold bs nv
  show _ = bytesOf _
  rw [← dropZ_eq]
  conv => rhs; rw [← List.take_append_drop k s.data.toList, dropZ_append, if_pos hz]
  rcases hd : s.data.toList.drop k with _ | ⟨c, l⟩
  · rfl
  · have hc : c ≠ 0 := h c (by rw [← List.head?_drop, hd]; rfl)
    simp [hc]
set_option maxHeartbeats 1000000 in
theorem normalize_any (s : ByteArray) (w : World) (hs : s.size ≤ 9223372036854775807) :
    Calls Tryz.prog 118 #[.string s] w fun e w' => e = .returned (.string (bs (nv s))) ∧ w = w' := by
  go_enter Tryz.func118, Tryz.ntmps118
  go_wp2_with fail
  go_loop [3] (fun vn => ∃ k : Nat, k ≤ s.size ∧ vn = .int .i64 k ∧ Hid ((s.data.toList.take k).all (· == 0) = true)) (fun vn => s.size - (intOf vn).toNat)
  case atStart => exact ⟨0, by omega, rfl, by show _ = _; simp⟩
  case round =>
    obtain ⟨k, hk, rfl, hz⟩ := hrel
    by_cases hlt : k < s.size
    · have HB := hide (get_byte hlt)
      cases h0 : (((s[k]).toNat : Int) == 0)
      · have hfin : Hid (s.extract k s.size = bs (nv s)) := by
          refine drop_zeros hz.out (fun c hc e => ?_)
          rw [HB.out] at hc
          injection hc with hc
          subst hc
          rw [e] at h0
          simp at h0
        go_wp2_with fail
        go_ret
        exact ⟨by rw [← hfin.out]; rfl, rfl⟩
      · have hz2 : Hid ((s.data.toList.take (k + 1)).all (· == 0) = true) := by
          show _ = _
          have : s[k] = 0 := UInt8.toNat_inj.1 (by simpa using h0)
          rw [List.take_add_one, HB.out, List.all_append, hz.out, this]; rfl
        go_wp2_with fail
        go_round
        case rel => exact ⟨k + 1, by omega, by go_num, hz2⟩
        case measure => simp [intOf]; omega
    · have hfin : Hid (s.extract k s.size = bs (nv s)) := by
        refine drop_zeros hz.out (fun c hc => ?_)
        rw [List.getElem?_eq_none (by simp; omega)] at hc
        cases hc
      go_wp2_with fail
      go_ret
      exact ⟨by rw [← hfin.out]; rfl, rfl⟩
end Go.Proofs.YthppojbabkljpaaGreatDoor.RoA
