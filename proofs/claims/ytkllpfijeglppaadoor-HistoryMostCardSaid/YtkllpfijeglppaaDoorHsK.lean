/- The walks of the reference's digits. -/
import Derived.Test.YtkllpfijeglppaaDoorHsJ
import Derived.Lib.SlBytesRow
import Derived.Lib.ItoaMem
namespace Go.Proofs.YtkllpfijeglppaaDoor.HsK
open Go.RowKit Hs HsB HsC HsD HsF HsG HsH HsE HsI
def dig (m : Nat) : UInt8 := UInt8.ofNat (48 + m % 10)
/-- the digits of u are those of m and then those of a list, the last first -/
def Rest (u m : Nat) (bs : List UInt8) : Prop := Lib.decDigits u = (if m = 0 then [] else Lib.decDigits m) ++ bs.reverse
theorem Rest.step {u m : Nat} {bs : List UInt8} (h : Rest u m bs) (hm : m ≠ 0) : Rest u (m / 10) (bs ++ [dig m]) := by
  unfold Rest at h ⊢
  rw [h, if_neg hm]
  by_cases h1 : m / 10 = 0
  · rw [if_pos h1, Lib.decDigits, dif_pos (by omega)]
    have e : m % 10 = m := by omega
    simp [dig, e]
  · rw [if_neg h1, Lib.decDigits, dif_neg (by omega)]
    simp [dig]
theorem Rest.len {u m : Nat} {bs : List UInt8} (h : Rest u m bs) (hu : u < 9223372036854775808) : bs.length ≤ 21 := by
  have h1 := Lib.itoa_length_le (u : Int) (by omega) (by omega)
  rw [Lib.itoa_nonneg, h] at h1
  simp only [List.length_append, List.length_reverse] at h1
  omega
theorem dig_num (m : Nat) : ((dig m).toNat : Int) = 48 + (m : Int) % 10 := by
  unfold dig
  have : m % 10 < 10 := Nat.mod_lt _ (by decide)
  rw [UInt8.toNat_ofNat']
  omega
theorem bytes_of_own {w : World} {B b : Nat} {c : Nat} {l : List UInt8} (h : w.ownsRow B 5 1 (.slice (some ⟨b, 0, none⟩) l.length c) l.length (Lib.byteCells l)) : Lib.Bytes w b 0 ⟨l.toArray⟩ := by
  intro k hx
  have hk : k < l.length := by simpa [ByteArray.size] using hx
  rw [Nat.zero_add, h.cellAt k (by omega)]
  simp only [Lib.byteCells, List.getElem?_map, List.getElem?_eq_getElem hk, Option.map_some]
  rfl
set_option maxHeartbeats 2000000 in
set_option maxRecDepth 100000 in
theorem rdigits_any (u : Nat) (w : World) (hu : u < 9223372036854775808) :
    Calls Tryd.prog 54 #[.int .i64 u] w fun e w' => e = .returned (.string (tx u)) ∧ Below w.heap.size w w' := by
  obtain ⟨i0, hi, hz0, hz1, hz2⟩ := info_parts infoB
  have htx : Hid (tx (u : Int) = ⟨(Lib.decDigits u).toArray⟩) := by
    show tx (u : Int) = _
    unfold tx
    rw [Lib.itoa_nonneg]
  rcases Nat.eq_zero_or_pos u with rfl | hpos
  · go_enter Tryd.func54, Tryd.ntmps54
    go_wp2_with fail
    go_ret
    refine ⟨?_, Below.refl _ _⟩
    rw [htx.out, Lib.decDigits_one (by omega)]; rfl
  · go_enter Tryd.func54, Tryd.ntmps54
    go_wp2_with fail
    have hz7 : ((u : Int) == 0) = false := by simp; omega
    rw [hz7]
    clear hz7
    go_loopw [0, 3] (fun vn vo wr => ∃ (m : Nat) (bs : List UInt8), m ≤ u ∧ vn = .int .i64 m ∧ Rest u m bs ∧ wr.ownsRow w.heap.size 5 1 vo bs.length (Lib.byteCells bs) ∧ Below w.heap.size w wr) (fun vn _ _ => (intOf vn).toNat)
    case atStart => exact ⟨u, [], Nat.le_refl _, rfl, by unfold Rest; rw [if_neg (by omega)]; simp, World.ownsRow_nil _ _ _ _, Below.refl _ _⟩
    case round =>
      obtain ⟨m, bs, hm, rfl, hR, hown, hbr⟩ := hrel
      have hbl := hR.len hu
      have HR := hide hR
      clear hR
      obtain ⟨A, c, rfl⟩ := own_slice hown
      by_cases h0 : 0 < m
      · have hu8 : (Value.int .u8 (48 + (m : Int) % 10)) = .int .u8 (dig m).toNat := by rw [dig_num]
        go_wp2_with (first
            | (at_builtin
               rw [hu8]
               refine wpList_append_own _ rfl (.tmp 10) (.tmp 15) 29 rfl w.heap.size 5 i0 _ 1 1 Tryd.underlying29 hi hz0 hz1 hz2 rfl (by decide) _ _ _ rfl (hown.alloc _) ⟨wr.heap.size, 0, none⟩ 1 1 [.int .u8 (dig m).toNat] rfl rfl ?c1 ?c2 ?c3 ?c4 ?c5 ?_
               case c1 => exact cells_new _ [.int .u8 (dig m).toNat] _
               case c2 => simp [Value.oneCell']
               case c3 => unfold maxLen; omega
               case c4 => omega
               case c5 => have := hbr.size; simp; omega
               intro v1 w1 hown1 hg1 _))
        go_roundw
        case rel =>
          refine ⟨m / 10, bs ++ [dig m], by omega, by go_num, HR.out.step (by omega), ?_, ?_⟩
          · rw [Lib.byteCells_append, List.length_append]; exact hown1
          · refine (hbr.alloc hbr.size _).grown hg1 (by have := hbr.size; simp; omega) ?_
            intro g hg
            exact (hown.lt g hg).1
        case measure => simp [intOf]; omega
      · obtain rfl : m = 0 := by omega
        obtain ⟨w1, rfl⟩ : ∃ w1, w1 = wr := ⟨_, rfl⟩
        have hdec : Hid (Lib.decDigits u = bs.reverse) := by
          have := HR.out
          unfold Rest at this
          rw [if_pos rfl] at this
          exact this
        have hne : 0 < bs.length := by
          have h1 := congrArg List.length hdec.out
          rw [Lib.decDigits_length, List.length_reverse] at h1
          have := Lib.nDigits_pos u
          omega
        have HOWN := Lib.hid hown
        obtain ⟨g, cg, hA, _, _⟩ := hown.form hne
        cases hA
        have hbr1 := hbr
        clear hbr hown
        have e0 : ((0 : Nat) : Int) = 0 := rfl
        rw [e0]
        go_wp2_with fail
        go_loopw [4, 5] (fun vo vi wr => ∃ (k : Nat), k ≤ bs.length ∧ vi = .int .i64 ((k : Int) - 1) ∧ wr.ownsRow w1.heap.size 5 1 vo (bs.drop k).length (Lib.byteCells (bs.drop k).reverse) ∧ Below w1.heap.size w1 wr) (fun _ vi _ => (intOf vi + 1).toNat)
        case atStart => exact ⟨bs.length, Nat.le_refl _, by go_num, by rw [List.drop_length]; exact World.ownsRow_nil _ _ _ _, Below.refl _ _⟩
        case round =>
          obtain ⟨k, hk, rfl, hown, hbr⟩ := hrel
          obtain ⟨A, c, rfl⟩ := own_slice hown
          have hI := own_below HOWN.out hbr
          by_cases h0 : 0 < k
          · obtain ⟨j, rfl⟩ : ∃ j, k = j + 1 := ⟨k - 1, by omega⟩
            obtain ⟨x, hx⟩ : ∃ x, bs[j]? = some x := ⟨_, List.getElem?_eq_getElem (by omega)⟩
            have hcell : wr.cell? ⟨g, j, none⟩ = some (.int .u8 x.toNat) := by
              rw [hI.cellAt j (by omega)]; simp [Lib.byteCells, hx]
            have hdr : Hid ((bs.drop j).reverse = (bs.drop (j + 1)).reverse ++ [x]) := by
              show (bs.drop j).reverse = _
              rw [drop_get hx]; simp
            have hdl : (bs.drop (j + 1)).length ≤ 21 := by simp; omega
            clear hx
            have e1 : (((j + 1 : Nat) : Int) - 1) = j := by omega
            rw [e1]
            go_wp2_with (first
              | (at_builtin
                 refine wpList_append_own _ rfl (.tmp 26) (.tmp 31) 29 rfl w1.heap.size 5 i0 _ 1 1 Tryd.underlying29 hi hz0 hz1 hz2 rfl (by decide) _ _ _ rfl (hown.alloc _) ⟨wr.heap.size, 0, none⟩ 1 1 [.int .u8 x.toNat] rfl rfl ?c1 ?c2 ?c3 ?c4 ?c5 ?_
                 case c1 => exact cells_new _ [.int .u8 x.toNat] _
                 case c2 => simp [Value.oneCell']
                 case c3 => unfold maxLen; omega
                 case c4 => omega
                 case c5 => have := hbr.size; simp; omega
                 intro v2 w2 hown2 hg2 _))
            go_roundw
            case rel =>
              refine ⟨j, by omega, by go_num, ?_, ?_⟩
              · have e : (bs.drop j).length = (bs.drop (j + 1)).length + 1 := by simp; omega
                rw [hdr.out, Lib.byteCells_append, e]
                exact hown2
              · refine (hbr.alloc hbr.size _).grown hg2 (by have := hbr.size; simp; omega) ?_
                intro g' hg'
                exact (hown.lt g' hg').1
            case measure => simp [intOf] <;> omega
          · obtain rfl : k = 0 := by omega
            rw [List.drop_zero] at hown
            have hown' : wr.ownsRow w1.heap.size 5 1 (.slice A bs.reverse.length c) bs.reverse.length (Lib.byteCells bs.reverse) := by
              rw [List.length_reverse]; exact hown
            obtain ⟨g2, c2, hA2, _, _⟩ := hown.form hne
            cases hA2
            have hcv := Lib.run_convert_whole (P := Tryd.prog) wr 29 5 9 Tryd.underlying29 Tryd.underlying5 Tryd.underlying9 g2 0 ⟨bs.reverse.toArray⟩ (bytes_of_own hown') c
            have hcs : (⟨bs.reverse.toArray⟩ : ByteArray).size = bs.length := by simp [ByteArray.size]
            rw [hcs] at hcv
            go_wp2_with fail
            go_ret
            refine ⟨?_, hbr1.trans (hbr.mono hbr1.size)⟩
            rw [htx.out, hdec.out]; rfl
end Go.Proofs.YtkllpfijeglppaaDoor.HsK
