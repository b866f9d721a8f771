/- The walks of number, the program's and the reference's. -/
import Derived.Test.YtkllpfijeglppaaDoorHsM
import Derived.Test.YtkllpfijeglppaaDoorHsN
namespace Go.Proofs.YtkllpfijeglppaaDoor.HsO
open Go.RowKit Hs HsB HsC HsD HsF HsG HsH HsE HsI HsJ HsK HsL HsM HsN
def NumRet (x : Option Nat) : Ending := .returned (.tuple #[.int .i64 ((x.getD 0 : Nat) : Int), .bool x.isSome])
theorem num_bad {s : ByteArray} (h : badHead s.data.toList = true) : NumRet (numOf s.data.toList) = .returned (.tuple #[.int .i64 0, .bool false]) := by
  unfold numOf; rw [if_pos (.inl h)]; rfl
theorem num_nodig {s : ByteArray} {k : Nat} (hk : k < s.size) (h : isDig s[k] = false) : NumRet (numOf s.data.toList) = .returned (.tuple #[.int .i64 0, .bool false]) := by
  unfold numOf
  rw [if_pos (.inr (by rw [List.all_eq_false]; exact ⟨s[k], by rw [ByteArray.getElem_eq_getElem_data]; exact Array.mem_toList_iff.2 (Array.getElem_mem _), by simp [h]⟩))]
  rfl
theorem num_good {s : ByteArray} (h : badHead s.data.toList = false) (hd : s.data.toList.all isDig = true) : NumRet (numOf s.data.toList) = .returned (.tuple #[.int .i64 (numVal s.data.toList : Nat), .bool true]) := by
  unfold numOf; rw [if_neg (by rw [h, hd]; simp)]; rfl
theorem take_byte (s : ByteArray) (k : Nat) (h : k < s.size) : s.data.toList.take (k + 1) = s.data.toList.take k ++ [s[k]] := by
  rw [List.take_succ_eq_append_getElem (by simpa using h)]; rfl
theorem dig_false {c : UInt8} (h : (c.toNat : Int) < 48 ∨ 57 < (c.toNat : Int)) : isDig c = false := by
  rw [Bool.eq_false_iff]; intro hc; have := (isDig_iff c).1 hc; omega
set_option maxHeartbeats 2000000 in
theorem number_any (s : ByteArray) (w : World) (hs : s.size ≤ 8192) :
    Calls Tryd.prog 58 #[.string s] w fun e w' => e = NumRet (numOf s.data.toList) ∧ w = w' := by
  have hl : s.data.toList.length = s.size := by simp
  by_cases h0 : s.size = 0
  · have hb : Hid (badHead s.data.toList = true) := by
      show badHead _ = true
      have : s.data.toList = [] := List.eq_nil_of_length_eq_zero (by omega)
      rw [this]; rfl
    have hn : s.data.toList = [] := List.eq_nil_of_length_eq_zero (by omega)
    have hn2 : s.toList.isEmpty = true := by rw [ByteArray.toList_eq, hn]; rfl
    have hn3 : s.toList = [] := by rw [ByteArray.toList_eq, hn]
    clear h0
    go_enter Tryd.func58, Tryd.ntmps58
    go_wp2_with fail
    go_ret2
    exact ⟨(num_bad hb.out).symm, rfl⟩
  · have he : s.toList.isEmpty = false := by
      rw [ByteArray.toList_eq]
      cases h : s.data.toList with
      | nil => rw [h] at hl; simp at hl; omega
      | cons a b => rfl
    by_cases h18 : 18 < s.size
    · have hb : Hid (badHead s.data.toList = true) := by
        show badHead _ = true
        simp [badHead]; omega
      clear hl
      go_enter Tryd.func58, Tryd.ntmps58
      go_wp2_with fail
      go_ret2
      exact ⟨(num_bad hb.out).symm, rfl⟩
    · have hpos : 0 < s.size := by omega
      have hhead : s.data.toList.head? = some s[0] := by
        rw [List.head?_eq_getElem?, List.getElem?_eq_getElem (by simpa using hpos)]; rfl
      have hnil : s.data.toList ≠ [] := by intro e; rw [e] at hl; simp at hl; omega
      by_cases hz : ((s[0].toNat : Int) = 48 ∧ 1 < s.size)
      · have hb : Hid (badHead s.data.toList = true) := by
          show badHead _ = true
          have h1 : s[0] = 48 := UInt8.toNat_inj.1 (by have := hz.1; simpa using (by omega : s[0].toNat = 48))
          simp only [badHead, hhead, h1]
          have h2 := hz.2
          simp; omega
        obtain ⟨hz1, hz2⟩ := hz
        have hz3 : ((s[0].toNat : Int) == 48) = true := by simp [hz1]
        clear hl hhead hnil hz1
        go_enter Tryd.func58, Tryd.ntmps58
        go_wp2_with fail
        go_ret2
        exact ⟨(num_bad hb.out).symm, rfl⟩
      · have hb : Hid (badHead s.data.toList = false) := by
          show badHead _ = false
          have h2 : ¬ (s[0] = 48 ∧ 1 < s.size) := fun h => hz ⟨by rw [h.1]; rfl, h.2⟩
          simp only [badHead, hhead]
          have h3 : decide (s.data.toList = []) = false := by simpa using hnil
          rw [h3]
          simp
          refine ⟨by omega, fun h => ?_⟩
          have h4 : ¬ 1 < s.size := fun h' => h2 ⟨h, h'⟩
          omega
        clear hl hhead hnil
        by_cases hz1 : 1 < s.size
        all_goals
          have hzz : (1 < s.size → ((s[0].toNat : Int) == 48) = false) := fun h => by
            simp only [beq_eq_false_iff_ne]; exact fun e => hz ⟨e, h⟩
          cases hz2 : ((s[0].toNat : Int) == 48)
          all_goals first | (exfalso; have := hzz hz1; rw [hz2] at this; exact Bool.noConfusion this) | skip
          all_goals
            clear hzz hz
            go_enter Tryd.func58, Tryd.ntmps58
            go_wp2_with fail
            go_loop [4, 25] (fun vn vi => ∃ k : Nat, k ≤ s.size ∧ vi = .int .i64 k ∧ vn = .int .i64 (numVal (s.data.toList.take k) : Nat) ∧ (s.data.toList.take k).all isDig = true) (fun _ vi => s.size - (intOf vi).toNat)
            case atStart => exact ⟨0, by omega, rfl, rfl, rfl⟩
            case round =>
              obtain ⟨k, hk, rfl, rfl, hd⟩ := hrel
              by_cases hlt : k < s.size
              · have hle := numVal_le (l := s.data.toList.take k) (by simp; omega) hd
                have HD := hide hd
                clear hd
                have hts := hide (take_byte s k hlt)
                by_cases h1 : (s[k].toNat : Int) < 48
                · have hr := hide (num_nodig hlt (dig_false (.inl h1)))
                  go_wp2_with fail
                  go_ret2
                  exact ⟨hr.out.symm, rfl⟩
                · by_cases h2 : 57 < (s[k].toNat : Int)
                  · have hr := hide (num_nodig hlt (dig_false (.inr h2)))
                    go_wp2_with fail
                    go_ret2
                    exact ⟨hr.out.symm, rfl⟩
                  · go_wp2_with fail
                    go_round
                    case rel =>
                      refine ⟨k + 1, by omega, by go_num, ?_, ?_⟩
                      · rw [hts.out, numVal_snoc]; go_num
                      · rw [hts.out, List.all_append, HD.out]
                        have := (isDig_iff s[k]).2 ⟨by omega, by omega⟩
                        simp [this]
                    case measure => simp [intOf]; omega
              · obtain rfl : k = s.size := by omega
                have htake : s.data.toList.take s.size = s.data.toList := List.take_of_length_le (by simp)
                rw [htake] at hd ⊢
                have hr := hide (num_good hb.out hd)
                clear hd htake
                go_wp2_with fail
                go_ret2
                exact ⟨hr.out.symm, rfl⟩
set_option maxHeartbeats 2000000 in
theorem rnumber_any (s : ByteArray) (w : World) (hs : s.size ≤ 8192) :
    Calls Tryd.prog 64 #[.string s] w fun e w' => e = NumRet (numOf s.data.toList) ∧ w = w' := by
  have hl : s.data.toList.length = s.size := by simp
  by_cases h0 : s.size = 0
  · have hb : Hid (badHead s.data.toList = true) := by
      show badHead _ = true
      have : s.data.toList = [] := List.eq_nil_of_length_eq_zero (by omega)
      rw [this]; rfl
    have hn : s.data.toList = [] := List.eq_nil_of_length_eq_zero (by omega)
    have hn2 : s.toList.isEmpty = true := by rw [ByteArray.toList_eq, hn]; rfl
    have hn3 : s.toList = [] := by rw [ByteArray.toList_eq, hn]
    clear h0
    go_enter Tryd.func64, Tryd.ntmps64
    go_wp2_with fail
    go_ret2
    exact ⟨(num_bad hb.out).symm, rfl⟩
  · have he : s.toList.isEmpty = false := by
      rw [ByteArray.toList_eq]
      cases h : s.data.toList with
      | nil => rw [h] at hl; simp at hl; omega
      | cons a b => rfl
    by_cases h18 : 18 < s.size
    · have hb : Hid (badHead s.data.toList = true) := by
        show badHead _ = true
        simp [badHead]; omega
      clear hl
      go_enter Tryd.func64, Tryd.ntmps64
      go_wp2_with fail
      go_ret2
      exact ⟨(num_bad hb.out).symm, rfl⟩
    · have hpos : 0 < s.size := by omega
      have hhead : s.data.toList.head? = some s[0] := by
        rw [List.head?_eq_getElem?, List.getElem?_eq_getElem (by simpa using hpos)]; rfl
      have hnil : s.data.toList ≠ [] := by intro e; rw [e] at hl; simp at hl; omega
      by_cases hz : ((s[0].toNat : Int) = 48 ∧ 1 < s.size)
      · have hb : Hid (badHead s.data.toList = true) := by
          show badHead _ = true
          have h1 : s[0] = 48 := UInt8.toNat_inj.1 (by have := hz.1; simpa using (by omega : s[0].toNat = 48))
          simp only [badHead, hhead, h1]
          have h2 := hz.2
          simp; omega
        obtain ⟨hz1, hz2⟩ := hz
        have hz3 : ((s[0].toNat : Int) == 48) = true := by simp [hz1]
        clear hl hhead hnil hz1
        go_enter Tryd.func64, Tryd.ntmps64
        go_wp2_with fail
        go_ret2
        exact ⟨(num_bad hb.out).symm, rfl⟩
      · have hb : Hid (badHead s.data.toList = false) := by
          show badHead _ = false
          have h2 : ¬ (s[0] = 48 ∧ 1 < s.size) := fun h => hz ⟨by rw [h.1]; rfl, h.2⟩
          simp only [badHead, hhead]
          have h3 : decide (s.data.toList = []) = false := by simpa using hnil
          rw [h3]
          simp
          refine ⟨by omega, fun h => ?_⟩
          have h4 : ¬ 1 < s.size := fun h' => h2 ⟨h, h'⟩
          omega
        clear hl hhead hnil
        by_cases hz1 : 1 < s.size
        all_goals
          have hzz : (1 < s.size → ((s[0].toNat : Int) == 48) = false) := fun h => by
            simp only [beq_eq_false_iff_ne]; exact fun e => hz ⟨e, h⟩
          cases hz2 : ((s[0].toNat : Int) == 48)
          all_goals first | (exfalso; have := hzz hz1; rw [hz2] at this; exact Bool.noConfusion this) | skip
          all_goals
            clear hzz hz
            go_enter Tryd.func64, Tryd.ntmps64
            go_wp2_with fail
            go_loop [4, 5] (fun vn vi => ∃ k : Nat, k ≤ s.size ∧ vi = .int .i64 k ∧ vn = .int .i64 (numVal (s.data.toList.take k) : Nat) ∧ (s.data.toList.take k).all isDig = true) (fun _ vi => s.size - (intOf vi).toNat)
            case atStart => exact ⟨0, by omega, rfl, rfl, rfl⟩
            case round =>
              obtain ⟨k, hk, rfl, rfl, hd⟩ := hrel
              by_cases hlt : k < s.size
              · have hle := numVal_le (l := s.data.toList.take k) (by simp; omega) hd
                have HD := hide hd
                clear hd
                have hts := hide (take_byte s k hlt)
                by_cases h1 : (s[k].toNat : Int) < 48
                · have hr := hide (num_nodig hlt (dig_false (.inl h1)))
                  go_wp2_with fail
                  go_ret2
                  exact ⟨hr.out.symm, rfl⟩
                · by_cases h2 : 57 < (s[k].toNat : Int)
                  · have hr := hide (num_nodig hlt (dig_false (.inr h2)))
                    go_wp2_with fail
                    go_ret2
                    exact ⟨hr.out.symm, rfl⟩
                  · go_wp2_with fail
                    go_round
                    case rel =>
                      refine ⟨k + 1, by omega, by go_num, ?_, ?_⟩
                      · rw [hts.out, numVal_snoc]; go_num
                      · rw [hts.out, List.all_append, HD.out]
                        have := (isDig_iff s[k]).2 ⟨by omega, by omega⟩
                        simp [this]
                    case measure => simp [intOf]; omega
              · obtain rfl : k = s.size := by omega
                have htake : s.data.toList.take s.size = s.data.toList := List.take_of_length_le (by simp)
                rw [htake] at hd ⊢
                have hr := hide (num_good hb.out hd)
                clear hd htake
                go_wp2_with fail
                go_ret2
                exact ⟨hr.out.symm, rfl⟩
end Go.Proofs.YtkllpfijeglppaaDoor.HsO
