/- The walk of the reference's Parse. -/
import Derived.Test.YtkllpfijeglppaaDoorHsT
namespace Go.Proofs.YtkllpfijeglppaaDoor.HsU
open Go.RowKit Hs HsB HsC HsD HsF HsG HsH HsE HsI HsJ HsK HsL HsM HsN HsO HsP HsQ HsR HsS HsT
theorem index_none {c : UInt8} : ∀ {m : List UInt8}, (∀ x ∈ m, x ≠ c) → Lib.index m [c] = -1
  | [], _ => by simp [Lib.index]
  | y :: m, h => by rw [index_cons, if_neg (h y (by simp)), if_pos (index_none fun x hx => h x (by simp [hx]))]
theorem index_at {c : UInt8} : ∀ {m : List UInt8} {i : Nat}, (∀ x ∈ m.take i, x ≠ c) → m[i]? = some c → Lib.index m [c] = i
  | [], _, _, h => by simp at h
  | y :: m, 0, _, h => by
    have : y = c := by simpa using h
    rw [index_cons, if_pos this]; rfl
  | y :: m, i + 1, h, h2 => by
    have ih := index_at (c := c) (m := m) (i := i) (fun x hx => h x (by simp [hx])) (by simpa using h2)
    rw [index_cons, if_neg (h y (by simp)), ih, if_neg (by omega)]
    omega
/-- from k to j there is no line feed -/
def Clear (s : ByteArray) (k j : Nat) : Prop := ∀ x ∈ (s.data.toList.drop k).take (j - k), x ≠ (10 : UInt8)
theorem Clear.start (s : ByteArray) (k : Nat) : Clear s k k := by intro x hx; simp at hx
theorem Clear.next {s : ByteArray} {k j : Nat} (h : Clear s k j) (hk : k ≤ j) (hj : j < s.size) (hne : s[j] ≠ 10) : Clear s k (j + 1) := by
  intro x hx
  have e : j + 1 - k = (j - k) + 1 := by omega
  rw [e, List.take_add_one] at hx
  rcases List.mem_append.1 hx with hx | hx
  · exact h x hx
  · have h1 : (s.data.toList.drop k)[j - k]? = some s[j] := by
      rw [List.getElem?_drop]
      have : k + (j - k) = j := by omega
      rw [this, List.getElem?_eq_getElem (by simpa using hj)]
      rfl
    rw [h1] at hx
    obtain rfl : x = s[j] := by simpa using hx
    exact hne
theorem Clear.cut_end {s : ByteArray} {k : Nat} (h : Clear s k s.size) (_hk : k ≤ s.size) : Lib.cut (s.data.toList.drop k) [10] = ((s.extract k s.size).data.toList, [], false) := by
  have e : (s.data.toList.drop k).take (s.size - k) = s.data.toList.drop k := List.take_of_length_le (by simp)
  have h1 : Lib.index (s.data.toList.drop k) [10] = -1 := index_none (by rw [← e]; exact h)
  unfold Lib.cut
  rw [h1, if_neg (by omega), extract_L, List.take_of_length_le (by simp)]
theorem Clear.cut_at {s : ByteArray} {k j : Nat} (h : Clear s k j) (hk : k ≤ j) (hj : j < s.size) (he : s[j] = 10) : Lib.cut (s.data.toList.drop k) [10] = ((s.extract k j).data.toList, s.data.toList.drop (j + 1), true) := by
  have h1 : Lib.index (s.data.toList.drop k) [10] = ((j - k : Nat) : Int) := by
    refine index_at h ?_
    rw [List.getElem?_drop]
    have : k + (j - k) = j := by omega
    rw [this, List.getElem?_eq_getElem (by simpa using hj)]
    exact congrArg some he
  unfold Lib.cut
  rw [h1, if_pos (by omega), extract_L]
  have e1 : ((j - k : Nat) : Int).toNat = j - k := by omega
  rw [e1, List.drop_drop, List.drop_take]
  have e2 : k + (j - k + [(10 : UInt8)].length) = j + 1 := by simp; omega
  rw [e2]
theorem drop_ne {s : ByteArray} {k : Nat} (h : k < s.size) : s.data.toList.drop k ≠ [] := by
  intro e
  have := congrArg List.length e
  simp at this
  omega
set_option maxHeartbeats 4000000 in
set_option maxRecDepth 100000 in
theorem rparse_any (s : ByteArray) (w : World) (hs : s.size ≤ 1000000) :
    Calls Tryd.prog 39 #[.string s] w (ParsePost (parseOf s.data.toList) w) := by
  obtain ⟨i0, hi, hz0, hz1, hz2⟩ := info_parts HsD.info
  by_cases hlong : 8192 < s.size
  · have hp := hide (parse_long hlong)
    go_enter Tryd.func39, Tryd.ntmps39
    go_wp2_with fail
    go_ret3
    rw [hp.out]
    exact ⟨_, rfl, World.ownsRow_nil _ _ _ _, Below.refl _ _⟩
  · have hp := hide (parse_first hlong)
    go_enter Tryd.func39, Tryd.ntmps39
    go_wp2_with fail
    go_loopw [5, 6] (fun vo vi wr => ∃ (k : Nat) (rows : List HRow) (f : Nat), k ≤ s.size ∧ vi = .int .i64 k ∧ s.size < k + f ∧ parseOf s.data.toList = parseF f rows (s.data.toList.drop k) ∧ rows.length ≤ 256 ∧ wr.ownsRow w.heap.size 39 6 vo rows.length (rvals rows) ∧ Below w.heap.size w wr) (fun _ vi _ => s.size - (intOf vi).toNat)
    case atStart => exact ⟨0, [], s.size + 1, by omega, rfl, by omega, hp.out, by simp, World.ownsRow_nil _ _ _ _, Below.refl _ _⟩
    case round =>
      obtain ⟨k, rows, f, hk, rfl, hf, hpar, hrl, hown, hbr⟩ := hrel
      obtain ⟨A, c, rfl⟩ := own_slice hown
      have HP := hide hpar
      clear hpar hp
      obtain ⟨f, rfl⟩ : ∃ f', f = f' + 1 := ⟨f - 1, by omega⟩
      by_cases h0 : k < s.size
      · obtain ⟨wo, rfl⟩ : ∃ wo, wo = wr := ⟨_, rfl⟩
        have E1 := hide (drop_ne h0)
        go_wp2_with fail
        go_loop [7] (fun vj => ∃ j : Nat, k ≤ j ∧ j ≤ s.size ∧ vj = .int .i64 j ∧ Clear s k j) (fun vj => s.size - (intOf vj).toNat)
        case atStart => exact ⟨k, Nat.le_refl _, hk, rfl, Clear.start _ _⟩
        case round =>
          obtain ⟨j, hkj, hjs, rfl, hcl⟩ := hrel
          have HC := hide hcl
          clear hcl
          by_cases hj : j < s.size
          · by_cases h10 : s[j] = 10
            · have hb : ((s[j].toNat : Int) != 10) = false := by rw [h10]; rfl
              have hcut := HC.out.cut_at hkj hj h10
              have hne : ((j : Int) == (s.size : Int)) = false := by simp; omega
              have hE : (s.extract k j).size ≤ 8192 := by
                have := ByteArray.size_extract (a := s) (b := k) (e := j)
                omega
              have H10 := hide h10
              clear h10
              by_cases h256 : 256 ≤ rows.length
              · have hfin : Hid (parseOf s.data.toList = ([], rows.length + 1, 2)) := by
                  show _ = _
                  rw [HP.out]; exact parseF_many E1.out h256
                clear hcut
                go_wp2_with fail
                go_ret3
                rw [hfin.out]
                exact ⟨_, rfl, World.ownsRow_nil _ _ _ _, hbr⟩
              · cases hro : rowOf (s.extract k j).data.toList with
                | none =>
                  have hfin : Hid (parseOf s.data.toList = ([], rows.length + 1, 10)) := by
                    show _ = _
                    rw [HP.out]; exact parseF_bad E1.out h256 (by rw [hcut]; exact hro)
                  have HR : Hid (RowRet (rowOf (s.extract k j).data.toList) = RowRet none) := congrArg RowRet hro
                  clear hro hcut
                  go_wp2_with (go_at_call 55; refine (row_any _ _ hE).mono ?_; rw [HR.out]; unfold RowRet zeroRow; rintro e w3 ⟨rfl, hb3⟩)
                  go_ret3
                  rw [hfin.out]
                  exact ⟨_, rfl, World.ownsRow_nil _ _ _ _, (hbr.trans (hb3.mono hbr.size)).alloc (Nat.le_trans hbr.size hb3.size) _⟩
                | some x =>
                  have HR : Hid (RowRet (rowOf (s.extract k j).data.toList) = RowRet (some x)) := congrArg RowRet hro
                  have hnext : Hid (parseOf s.data.toList = parseF f (rows ++ [x]) (s.data.toList.drop (j + 1))) := by
                    show _ = _
                    rw [HP.out, parseF_go E1.out h256 (by rw [hcut]; exact hro) (by rw [hcut]), hcut]
                  clear hro hcut
                  go_wp2_with (first
                    | (go_at_call 55; refine (row_any _ _ hE).mono ?_; rw [HR.out]; unfold RowRet HRow.agg; rintro e w3 ⟨rfl, hb3⟩; have hown3 := own_below hown hb3; have hbr3 := hbr.trans (hb3.mono hbr.size))
                    | (at_builtin
                       refine wpList_append_own _ rfl (.tmp 55) (.tmp 57) 22 rfl w.heap.size 39 i0 _ 6 48 Tryd.underlying22 hi hz0 hz1 hz2 rfl (by decide) _ _ _ rfl ((hown3.alloc _).alloc _) ⟨w3.heap.size + 1, 0, none⟩ 1 1 x.vals rfl rfl ?c1 ?c2 ?c3 ?c4 ?c5 ?_
                       case c1 => exact cells_new2 _ _ x.vals _
                       case c2 => simp [HRow.vals, Value.oneCell']
                       case c3 => unfold maxLen; omega
                       case c4 => omega
                       case c5 => have := hbr3.size; simp; omega
                       intro v4 w4 hown4 hg4 _))
                  go_roundw
                  case rel =>
                    refine ⟨j + 1, rows ++ [x], f, by omega, by go_num, by omega, hnext.out, by simp; omega, ?_, ?_⟩
                    · rw [List.length_append, rvals_snoc]; exact hown4
                    · refine ((hbr3.alloc hbr3.size _).alloc (by have := hbr3.size; simp; omega) _).grown hg4 (by have := hbr3.size; simp; omega) ?_
                      intro g hg
                      exact (hown3.lt g hg).1
                  case measure => simp [intOf]; omega
            · have hb : ((s[j].toNat : Int) != 10) = true := by
                simp only [bne_iff_ne]
                intro e
                exact h10 (UInt8.toNat_inj.1 (by simpa using (by omega : s[j].toNat = 10)))
              have HN := hide (HC.out.next hkj hj h10)
              clear h10
              go_wp2_with fail
              go_round
              case rel => exact ⟨j + 1, by omega, by omega, by go_num, HN.out⟩
              case measure => simp [intOf]; omega
          · obtain rfl : j = s.size := by omega
            have hcut := HC.out.cut_end hk
            have hne : ((s.size : Int) == (s.size : Int)) = true := by simp
            have hE : (s.extract k s.size).size ≤ 8192 := by
              have := ByteArray.size_extract (a := s) (b := k) (e := s.size)
              omega
            by_cases h256 : 256 ≤ rows.length
            · have hfin : Hid (parseOf s.data.toList = ([], rows.length + 1, 2)) := by
                show _ = _
                rw [HP.out]; exact parseF_many E1.out h256
              clear hcut
              go_wp2_with fail
              go_ret3
              rw [hfin.out]
              exact ⟨_, rfl, World.ownsRow_nil _ _ _ _, hbr⟩
            · cases hro : rowOf (s.extract k s.size).data.toList with
              | none =>
                have hfin : Hid (parseOf s.data.toList = ([], rows.length + 1, 10)) := by
                  show _ = _
                  rw [HP.out]; exact parseF_bad E1.out h256 (by rw [hcut]; exact hro)
                have HR : Hid (RowRet (rowOf (s.extract k s.size).data.toList) = RowRet none) := congrArg RowRet hro
                clear hro hcut
                go_wp2_with (go_at_call 55; refine (row_any _ _ hE).mono ?_; rw [HR.out]; unfold RowRet zeroRow; rintro e w3 ⟨rfl, hb3⟩)
                go_ret3
                rw [hfin.out]
                exact ⟨_, rfl, World.ownsRow_nil _ _ _ _, (hbr.trans (hb3.mono hbr.size)).alloc (Nat.le_trans hbr.size hb3.size) _⟩
              | some x =>
                have HR : Hid (RowRet (rowOf (s.extract k s.size).data.toList) = RowRet (some x)) := congrArg RowRet hro
                have hfin : Hid (parseOf s.data.toList = ([], rows.length + 1, 10)) := by
                  show _ = _
                  rw [HP.out]; exact parseF_open E1.out h256 (by rw [hcut]; exact hro) (by rw [hcut])
                clear hro hcut
                go_wp2_with (go_at_call 55; refine (row_any _ _ hE).mono ?_; rw [HR.out]; unfold RowRet HRow.agg; rintro e w3 ⟨rfl, hb3⟩)
                go_ret3
                rw [hfin.out]
                exact ⟨_, rfl, World.ownsRow_nil _ _ _ _, (hbr.trans (hb3.mono hbr.size)).alloc (Nat.le_trans hbr.size hb3.size) _⟩
      · obtain rfl : k = s.size := by omega
        have hfin : Hid (parseOf s.data.toList = (rows, 0, 0)) := by
          show _ = _
          rw [HP.out, List.drop_eq_nil_of_le (by simp)]; exact parseF_end
        go_wp2_with fail
        go_ret3
        rw [hfin.out]
        exact ⟨_, rfl, hown, hbr⟩
end Go.Proofs.YtkllpfijeglppaaDoor.HsU
