/- Names: the walks of IsName, program and reference. -/
import Derived.Test.YtpbgmpjnfndfjaaGreatDoorLxR
namespace Go.Proofs.YtpbgmpjnfndfjaaGreatDoor.NmA
theorem here : True := trivial
open Go.RowKit Lx LxW LxR
theorem nret {a b : Bool} (h : a = b) : Ending.returned (.bool a) = Ending.returned (.bool b) := by rw [h]
/-- is a string a name? -/
def nmB (s : ByteArray) : Bool := decide (1 ≤ s.size) && (decide (s.size ≤ 32) && (isLetter (bt s 0) && decide (skip inName s 0 = s.size)))
theorem nm_no {s : ByteArray} (h : ¬ (1 ≤ s.size ∧ s.size ≤ 32)) : nmB s = false := by
  unfold nmB
  by_cases h1 : 1 ≤ s.size
  · rw [decide_eq_false (p := s.size ≤ 32) (by omega)]; simp
  · rw [decide_eq_false h1]; rfl
theorem nm_letter {s : ByteArray} (h : isLetter (bt s 0) = false) : nmB s = false := by
  unfold nmB; rw [h]; simp
theorem nm_body {s : ByteArray} (h1 : 1 ≤ s.size) (h2 : s.size ≤ 32) (h : isLetter (bt s 0) = true) : nmB s = decide (skip inName s 0 = s.size) := by
  unfold nmB; rw [h, decide_eq_true h1, decide_eq_true h2]; rfl
theorem tl_len (s : ByteArray) : s.toList.length = s.size := by rw [ByteArray.toList_eq]; exact s.size_data.symm ▸ Array.length_toList
theorem not_empty {s : ByteArray} (h : 1 ≤ s.size) : s.toList.isEmpty = false := by
  cases e : s.toList with
  | nil => have := tl_len s; rw [e] at this; simp at this; omega
  | cons => rfl
theorem is_empty {s : ByteArray} (h : s.size = 0) : s.toList = [] := List.eq_nil_of_length_eq_zero (by rw [tl_len, h])
theorem pletter_any (c : Int) (w : World) : Calls Tryz.prog 221 #[.int .u8 c] w fun e w' => e = .returned (.bool (isLetter c)) ∧ w = w' := by
  by_cases h1 : 97 ≤ c <;> by_cases h2 : c ≤ 122 <;> by_cases h3 : 65 ≤ c <;> by_cases h4 : c ≤ 90
  all_goals
    go_enter Tryz.func221, Tryz.ntmps221
    go_wp2
    go_ret
    exact ⟨by simp [isLetter, h1, h2, h3, h4], rfl⟩
theorem pdigit_any (c : Int) (w : World) : Calls Tryz.prog 222 #[.int .u8 c] w fun e w' => e = .returned (.bool (isDigit c)) ∧ w = w' := by
  by_cases h1 : 48 ≤ c <;> by_cases h2 : c ≤ 57
  all_goals
    go_enter Tryz.func222, Tryz.ntmps222
    go_wp2
    go_ret
    exact ⟨by simp [isDigit, h1, h2], rfl⟩
set_option maxHeartbeats 1000000 in
theorem nm_any (s : ByteArray) (w : World) (hs : s.size ≤ maxLen) :
    Calls Tryz.prog 180 #[.string s] w fun e w' => e = .returned (.bool (nmB s)) ∧ w = w' := by
  unfold maxLen at hs
  by_cases h1 : 1 ≤ s.size ∧ s.size ≤ 32
  · obtain ⟨h1, h2⟩ := h1
    have h0 := not_empty h1
    have hb := hide (bt_at s 0 h1)
    cases hp : isLetter (bt s 0)
    · have HR := hide (nm_letter hp)
      have Hp := hide hp
      clear hp
      go_enter Tryz.func180, Tryz.ntmps180
      go_wp2_with (go_at_call 221; refine (pletter_any _ _).mono ?_; rintro e w' ⟨rfl, rfl⟩; rw [hb.out, Hp.out])
      go_ret
      exact ⟨nret HR.out.symm, rfl⟩
    · have HR := hide (nm_body h1 h2 hp)
      have Hp := hide hp
      clear hp
      go_enter Tryz.func180, Tryz.ntmps180
      go_wp2_with (go_at_call 221; refine (pletter_any _ _).mono ?_; rintro e w' ⟨rfl, rfl⟩; rw [hb.out, Hp.out])
      go_loop [19] (fun v => ∃ k : Nat, k ≤ s.size ∧ v = .int .i64 k ∧ Hid (skip inName s 0 = skip inName s k)) (fun v => s.size - (intOf v).toNat)
      case atStart => exact ⟨0, Nat.zero_le _, rfl, hide rfl⟩
      case round =>
        obtain ⟨k, hk, rfl, HS⟩ := hrel
        clear hb
        by_cases hlt : k < s.size
        · have hb := hide (bt_at s k hlt)
          cases a1 : isLetter (bt s k) <;> cases a2 : isDigit (bt s k) <;> cases a3 : (bt s k == 45) <;> cases a4 : (bt s k == 95)
          all_goals
            have H1 := hide a1
            have H2 := hide a2
            have H0 := hide (show inName (bt s k) = _ by simp only [inName, a1, a2, a3, a4]; rfl)
            rw [← hb.out] at a3 a4
            have b3 : ((s[k].toNat : Int) != 45) = !((s[k].toNat : Int) == 45) := rfl
            have b4 : ((s[k].toNat : Int) != 95) = !((s[k].toNat : Int) == 95) := rfl
            rw [a3] at b3
            rw [a4] at b4
            simp only [Bool.not_true, Bool.not_false] at b3 b4
            clear a1 a2 a3 a4
            go_wp2_with (first | (go_at_call 221; refine (pletter_any _ _).mono ?_; rintro e w' ⟨rfl, rfl⟩; rw [hb.out, H1.out]) | (go_at_call 222; refine (pdigit_any _ _).mono ?_; rintro e w' ⟨rfl, rfl⟩; rw [hb.out, H2.out]))
            first
              | (go_ret
                 exact ⟨nret (by rw [HR.out, HS.out, skip_stop H0.out]; exact (decide_eq_false (show ¬ k = s.size by omega)).symm), rfl⟩)
              | (go_round
                 case rel => exact ⟨k + 1, by omega, by go_num, hide (by rw [HS.out, skip_go hlt H0.out])⟩
                 case measure => simp [intOf]; omega)
        · go_wp2_with fail
          go_ret
          exact ⟨nret (by rw [HR.out, HS.out, skip_end (by omega)]; exact (decide_eq_true (show k = s.size by omega)).symm), rfl⟩
  · have HR := hide (nm_no h1)
    by_cases h2 : s.size ≤ 32
    · have h3 : s.size = 0 := by omega
      have h0 := is_empty h3
      clear h1 h2
      go_enter Tryz.func180, Tryz.ntmps180
      go_wp2_with fail
      go_ret
      exact ⟨nret HR.out.symm, rfl⟩
    · have h0 := not_empty (s := s) (by omega)
      go_enter Tryz.func180, Tryz.ntmps180
      go_wp2_with fail
      go_ret
      exact ⟨nret HR.out.symm, rfl⟩
end Go.Proofs.YtpbgmpjnfndfjaaGreatDoor.NmA
