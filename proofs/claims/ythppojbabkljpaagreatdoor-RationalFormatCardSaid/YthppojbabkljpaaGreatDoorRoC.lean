/- The walk of the reference's text. -/
import Derived.Test.YthppojbabkljpaaGreatDoorRoB
import Derived.Lib.SlBytesRow
namespace Go.Proofs.YthppojbabkljpaaGreatDoor.RoC
open Go.RowKit RnA RnB RnS RnC RnM RnL RnN RnW RoA RoB
theorem cells_new (w : World) (l : List Value) (t : TypeId) : ∀ j u, l[j]? = some u → (w.alloc (.cells l.toArray t)).cell? ((⟨w.heap.size, 0, none⟩ : Addr).add j) = some u := by
  intro j u h
  have e : (⟨w.heap.size, 0, none⟩ : Addr).add j = ⟨w.heap.size, j, none⟩ := by
    unfold Addr.add
    by_cases hj : j = 0 <;> simp [hj]
  rw [e]
  simp [h]
theorem bytes_of_own {w : World} {B g n c : Nat} {l : List UInt8} (h : w.ownsRow B 5 1 (.slice (some ⟨g, 0, none⟩) n c) n (bv l)) : Lib.Bytes w g 0 ⟨l.toArray⟩ := by
  have hn : n = l.length := by have := h.1; rw [bv_length] at this; omega
  subst hn
  intro k hk
  have hkl : k < l.length := by simpa [ByteArray.size] using hk
  rw [Nat.zero_add, h.cellAt k (by omega), bv_get (List.getElem?_eq_getElem hkl)]
  rfl
/-- a row of bytes of the call's own, turned into a string -/
theorem conv_own {w : World} {B n : Nat} {v : Value} {l : List UInt8} (h : w.ownsRow B 5 1 v n (bv l)) (hne : v ≠ .slice none 0 0) :
    ∃ g c, v = .slice (some ⟨g, 0, none⟩) l.length c ∧ (convert 57 9 (.slice (some ⟨g, 0, none⟩) l.length c)).run Tryz.prog w = .ok (.string ⟨l.toArray⟩) w := by
  have hn : n = l.length := by have := h.1; rw [bv_length] at this; omega
  subst hn
  rcases h.2 with ⟨h0, _⟩ | ⟨g, cap, cur, rfl, _⟩
  · exact absurd h0 hne
  · refine ⟨g, cap, rfl, ?_⟩
    have hcv := Lib.run_convert_whole (P := Tryz.prog) w 57 5 9 Tryz.underlying57 Tryz.underlying5 Tryz.underlying9 g 0 ⟨l.toArray⟩ (bytes_of_own h) cap
    have hcs : (⟨l.toArray⟩ : ByteArray).size = l.length := by simp [ByteArray.size]
    rw [hcs] at hcv
    exact hcv
theorem take_sz {l : List Nat} (h : Ok l) : l.take (sz (lval l)) = limbs (lval l) ∧ sz (lval l) ≤ l.length := by
  have hk : sz (lval l) ≤ l.length := sz_le (lval_lt h)
  refine ⟨?_, hk⟩
  have e := lval_split l (sz (lval l)) hk
  have hlt := sz_lt (lval l)
  have hz : lval (l.drop (sz (lval l))) = 0 := by
    rcases Nat.eq_zero_or_pos (lval (l.drop (sz (lval l)))) with h0 | h0
    · exact h0
    · have : 4294967296 ^ sz (lval l) * 1 ≤ 4294967296 ^ sz (lval l) * lval (l.drop (sz (lval l))) := Nat.mul_le_mul_left _ h0
      omega
  rw [hz] at e
  have e2 : lval (l.take (sz (lval l))) = lval l := by omega
  have := canon_of_len (h.take (sz (lval l))) (by rw [take_len hk, e2])
  rw [this, e2]
/-- the four bytes of a limb -/
def four (x : Nat) : List UInt8 := [UInt8.ofNat (x / 16777216), UInt8.ofNat (x / 65536 % 256), UInt8.ofNat (x / 256 % 256), UInt8.ofNat (x % 256)]
theorem bval_four {x : Nat} (h : x < 4294967296) : bval (four x) = x := by
  unfold four
  simp only [bval, List.length_cons, List.length_nil]
  rw [toNat_ofNat (by omega), toNat_ofNat (Nat.mod_lt _ (by omega)), toNat_ofNat (Nat.mod_lt _ (by omega)), toNat_ofNat (Nat.mod_lt _ (by omega))]
  omega
theorem bv_four {x : Nat} (h : x < 4294967296) : [Value.int .u8 ((x : Int) / 16777216), .int .u8 ((x : Int) / 65536 % 256), .int .u8 ((x : Int) / 256 % 256), .int .u8 ((x : Int) % 256)] = bv (four x) := by
  unfold four bv
  simp only [List.map_cons, List.map_nil]
  rw [toNat_ofNat (by omega), toNat_ofNat (Nat.mod_lt _ (by omega)), toNat_ofNat (Nat.mod_lt _ (by omega)), toNat_ofNat (Nat.mod_lt _ (by omega))]
  simp
theorem bval_four_app (l : List UInt8) {x : Nat} (h : x < 4294967296) : bval (l ++ four x) = x + 4294967296 * bval l := by
  rw [bval_append, bval_four h]
  have : (four x).length = 4 := rfl
  rw [this]
  omega
set_option maxHeartbeats 2000000 in
set_option maxRecDepth 100000 in
theorem rtext_any (l : List Nat) (A : Option Addr) (c : Nat) (w : World) (h : LAt w w.heap.size A l) (hc : l.length ≤ c) (hl : l.length ≤ 1000000) :
    Calls Tryz.prog 97 #[.slice A l.length c] w (SPost (bs (lval l)) w) := by
  obtain ⟨i0, hi0, hz0, hz1, hz2⟩ := info_parts u8Info
  have H := hide h
  obtain ⟨ht, hk⟩ := take_sz h.ok
  have hL := h.take (sz (lval l))
  rw [ht] at hL
  have HL := hide hL
  have hlen : (limbs (lval l)).length ≤ 1000000 := by have : (limbs (lval l)).length = sz (lval l) := rfl; omega
  clear h ht hL hk
  go_enter Tryz.func97, Tryz.ntmps97
  go_wp2_with fail
  refine (strip_any l A c _ H.out hc).mono ?_
  rintro e w1 ⟨rfl, rfl⟩
  have hlv := lval_limbs (lval l)
  have HLV := Lib.hid hlv
  clear hlv
  generalize limbs (lval l) = m at hlen HL HLV ⊢
  go_wp2_with (first
    | (at_make
       refine wpList_make_own _ rfl (.const (.int .i64 0)) (.tmp 10) 57 rfl w.heap.size 5 i0 _ 1 Tryz.underlying57 hi0 hz0 hz1 .i64 .i64 _ (4 * m.length) rfl rfl ?c1 ?c2 ?c3 ?c4 ?_
       case c1 => omega
       case c2 => rw [hz2]; omega
       case c3 => unfold maxLen; omega
       case c4 => exact Nat.le_refl _
       intro w2 hown hg))
  have hb2 : Below w.heap.size w w2 := (Below.refl _ _).grown hg (Nat.le_refl _) (by simp)
  clear hg
  go_loopw [3, 4] (fun vb vi wr => ∃ (k : Nat) (out : List UInt8), k ≤ m.length ∧ vi = .int .i64 ((k : Int) - 1) ∧ out.length + 4 * k = 4 * m.length ∧ Hid (bval out = lval (m.drop k)) ∧ wr.ownsRow w.heap.size 5 1 vb out.length (bv out) ∧ vb ≠ .slice none 0 0 ∧ Below w.heap.size w wr) (fun _ vi _ => (intOf vi + 1).toNat)
  case atStart => exact ⟨m.length, [], Nat.le_refl _, rfl, by simp, by show _ = _; rw [List.drop_length]; rfl, hown, by simp, hb2⟩
  case round =>
    obtain ⟨k, out, hk, rfl, hol, HV, hown, hne, hbr⟩ := hrel
    obtain ⟨B, cp, rfl⟩ := own_slice hown
    rcases Nat.eq_zero_or_pos k with h0 | h0
    · subst h0
      obtain ⟨g, c1, hv, hcv⟩ := conv_own hown hne
      injection hv with hv1 _ hv3
      subst hv1; subst hv3
      have hnv : Hid (bs (nv ⟨out.toArray⟩) = bs (lval l)) := by
        show _ = _
        congr 1
        show bval out = lval l
        rw [HV.out, List.drop_zero, HLV.out]
      have hsz : (⟨out.toArray⟩ : ByteArray).size ≤ 9223372036854775807 := by simp [ByteArray.size]; omega
      go_wp2_with fail
      refine (normalize_any _ _ hsz).mono ?_
      rintro e w3 ⟨rfl, rfl⟩
      rw [hnv.out]
      go_wp2_with fail
      go_ret
      exact ⟨rfl, hbr⟩
    · obtain ⟨j, rfl⟩ : ∃ j, k = j + 1 := ⟨k - 1, by omega⟩
      obtain ⟨x, hx⟩ : ∃ x, m[j]? = some x := ⟨_, List.getElem?_eq_getElem (by omega)⟩
      obtain ⟨b, off, rfl, hb, hcl⟩ := (HL.out.below hbr).2.2 (by omega)
      have c0 := hcl j x hx
      have hxl : x < 4294967296 := HL.out.ok.at_ hx
      have HX := hide hx
      have e1 : (((j + 1 : Nat) : Int) - 1) = j := by omega
      rw [e1]
      clear hcl hx
      go_wp2_with (first
        | (at_builtin
           refine wpList_append_own _ rfl (.tmp 23) (.tmp 35) 57 rfl w.heap.size 5 i0 _ 1 1 Tryz.underlying57 hi0 hz0 hz1 hz2 rfl (by decide) _ _ _ rfl (hown.alloc _) ⟨wr.heap.size, 0, none⟩ 4 4 [.int .u8 ((x : Int) / 16777216), .int .u8 ((x : Int) / 65536 % 256), .int .u8 ((x : Int) / 256 % 256), .int .u8 ((x : Int) % 256)] rfl rfl ?c1 ?c2 ?c3 ?c4 ?c5 ?_
           case c1 => exact cells_new _ [.int .u8 ((x : Int) / 16777216), .int .u8 ((x : Int) / 65536 % 256), .int .u8 ((x : Int) / 256 % 256), .int .u8 ((x : Int) % 256)] _
           case c2 => simp [Value.oneCell']
           case c3 => unfold maxLen; omega
           case c4 => omega
           case c5 => have := hbr.size; simp; omega
           intro v1 w1 hown1 hg1 hnil))
      rw [bv_four hxl, ← bv_append] at hown1
      have hlen4 : (out ++ four x).length = out.length + 4 := by rw [List.length_append]; rfl
      go_roundw
      case rel =>
        refine ⟨j, out ++ four x, by omega, by go_num, by rw [hlen4]; omega, ?_, by rw [hlen4]; exact hown1, ?_, ?_⟩
        · show _ = _
          rw [bval_four_app _ hxl, HV.out, ← lval_drop_at HX.out]
        · intro e
          have := hnil.1 e
          omega
        · refine (hbr.alloc hbr.size _).grown hg1 (by have := hbr.size; simp; omega) ?_
          intro g hg
          exact (hown.lt g hg).1
      case measure => simp [intOf] <;> omega
end Go.Proofs.YthppojbabkljpaaGreatDoor.RoC
