/- The walks of the lexer: reserved words, words, blanks, numbers. -/
import Derived.Test.YtnbdckfnohagbaaGreatDoorLxW
namespace Go.Proofs.YtnbdckfnohagbaaGreatDoor.LxB
theorem here : True := trivial
open Go.RowKit Lx LxW
theorem reserved_any (s : ByteArray) (w : World) :
    Calls Tryz.prog 71 #[.string s] w fun e w' => e = .returned (.bool (resv s)) ∧ w = w' := by
  cases h1 : (s.toList == [99, 108, 97, 115, 115]) <;> cases h2 : (s.toList == [98, 101, 102, 111, 114, 101]) <;> cases h3 : (s.toList == [108, 105, 109, 105, 116]) <;> cases h4 : (s.toList == [115, 117, 98, 111, 114, 100, 105, 110, 97, 116, 101])
  all_goals
    go_enter Tryz.func71, Tryz.ntmps71
    go_wp2
    go_ret
    exact ⟨by simp [resv, h1, h2, h3, h4], rfl⟩
theorem word_any (t : ByteArray) (i : Int) (w : World) :
    Calls Tryz.prog 43 #[.string t, .int .i64 i] w fun e w' => e = .returned (.agg #[.int .i64 (wordKind t), .string t, .int .i64 i]) ∧ w.alloc (.cells #[.int .i64 (wordKind t), .string t, .int .i64 i] 66) = w' := by
  cases h : resv t
  all_goals
    have H := hide h
    clear h
    go_enter Tryz.func43, Tryz.ntmps43
    go_wp2_with (go_at_call 71; refine (reserved_any _ _).mono ?_; rintro e w' ⟨rfl, rfl⟩; rw [H.out])
    refine bodyPost_ret (v := .agg #[.int .i64 (wordKind t), .string t, .int .i64 i]) (by simp [results, Tryz.results43, go_sem, wordKind, H.out]) rfl ⟨rfl, ?_⟩
    simp [wordKind, H.out]
set_option maxHeartbeats 400000 in
theorem blank_any (s : ByteArray) (i : Nat) (w : World) (hs : s.size ≤ maxLen) (hi : i ≤ s.size) :
    Calls Tryz.prog 39 #[.string s, .int .i64 i] w fun e w' => e = .returned (.int .i64 (blanks s i : Nat)) ∧ w = w' := by
  unfold maxLen at hs
  go_enter Tryz.func39, Tryz.ntmps39
  go_wp2
  go_loop [1] (fun v => ∃ k : Nat, i ≤ k ∧ k ≤ s.size ∧ v = .int .i64 k ∧ blanks s i = blanks s k) (fun v => s.size - (intOf v).toNat)
  case atStart => exact ⟨i, Nat.le_refl _, hi, rfl, rfl⟩
  case round =>
    obtain ⟨k, hik, hk, rfl, hsk⟩ := hrel
    have HS := hide hsk
    clear hsk
    by_cases hlt : k < s.size
    · have hb := hide (bt_at s k hlt)
      cases h1 : ((s[k].toNat : Int) == 32) <;> cases h2 : ((s[k].toNat : Int) == 9) <;> cases h3 : ((s[k].toNat : Int) == 10) <;> cases h4 : ((s[k].toNat : Int) == 13) <;> cases h5 : ((s[k].toNat : Int) == 35)
      case false.false.false.false.false =>
        go_wp2_with fail
        go_ret
        rw [hb.out] at h1 h2 h3 h4 h5
        exact ⟨by rw [HS.out, blank_stop (by simp [isBlank, h1, h2, h3, h4]) h5]; rfl, rfl⟩
      case false.false.false.false.true =>
        have h6 : (bt s k == 35) = true := by rw [← hb.out]; exact h5
        have h7 := skip_hash hlt h6
        have h8 : skip notLf s k ≤ s.size := skip_le hk
        have H6 := hide h6
        clear h6
        go_wp2_with (go_at_call 41; refine (skip_notLf _ _ _ (by unfold maxLen; omega) (by omega)).mono ?_; rintro e w' ⟨rfl, rfl⟩)
        go_round
        case rel => exact ⟨skip notLf s k, by omega, by omega, by go_num, by rw [HS.out, blank_hash hlt H6.out]⟩
        case measure => simp [intOf]; omega
      all_goals
        have h6 : isBlank (bt s k) = true := by rw [← hb.out]; simp [isBlank, h1, h2, h3, h4]
        have H6 := hide h6
        clear h6
        go_wp2_with fail
        go_round
        case rel => exact ⟨k + 1, by omega, by omega, by go_num, by rw [HS.out, blank_sp hlt H6.out]⟩
        case measure => simp [intOf]; omega
    · go_wp2_with fail
      go_ret
      exact ⟨by rw [HS.out, blank_end (by omega)]; rfl, rfl⟩
set_option maxHeartbeats 400000 in
theorem number_any (s : ByteArray) (i : Nat) (w : World) (hs : s.size ≤ maxLen) (hi : i ≤ s.size) :
    Calls Tryz.prog 45 #[.string s, .int .i64 i] w fun e w' => e = .returned (.int .i64 (number s i : Nat)) ∧ w = w' := by
  unfold maxLen at hs
  have hle : skip isDigit s i ≤ s.size := skip_le hi
  obtain ⟨e, he⟩ : ∃ e, skip isDigit s i = e := ⟨_, rfl⟩
  have HE := hide he
  rw [he] at hle
  clear he
  by_cases hlt : e < s.size
  · have hb := hide (bt_at s e hlt)
    have hr : skip isDigit s (e + 1) ≤ s.size := skip_le (by omega)
    have hge : e + 1 ≤ skip isDigit s (e + 1) := skip_ge
    obtain ⟨r, hr0⟩ : ∃ r, skip isDigit s (e + 1) = r := ⟨_, rfl⟩
    have HR := hide hr0
    rw [hr0] at hr hge
    clear hr0
    cases h1 : ((s[e].toNat : Int) == 46) <;> cases h2 : ((s[e].toNat : Int) == 47) <;> by_cases h3 : e + 1 < r
    all_goals
      have H1 := hide h1
      have H2 := hide h2
      rw [hb.out] at H1 H2
      have HN : Hid (number s i = if (bt s e == 46) = false ∧ (bt s e == 47) = false then e else if e + 1 < r then r else e) := number_eq HE.out HR.out hlt
      go_enter Tryz.func45, Tryz.ntmps45
      go_wp2_with fail
      refine (skip_isDigit _ _ _ (by unfold maxLen; omega) (by omega)).mono ?_
      rintro e w' ⟨rfl, rfl⟩
      rw [HE.out]
      go_wp2_with (go_at_call 41; refine (skip_isDigit _ (e + 1) _ (by unfold maxLen; omega) (by omega)).mono ?_; rintro e w' ⟨rfl, rfl⟩; rw [HR.out])
      go_ret
      refine ⟨?_, rfl⟩
      rw [HN.out, H1.out, H2.out]
      simp [h3]
  · go_enter Tryz.func45, Tryz.ntmps45
    go_wp2_with fail
    refine (skip_isDigit _ _ _ (by unfold maxLen; omega) (by omega)).mono ?_
    rintro e w' ⟨rfl, rfl⟩
    rw [HE.out]
    go_wp2_with fail
    go_ret
    exact ⟨by rw [number_no1 (by rw [HE.out]; omega), HE.out]; rfl, rfl⟩
end Go.Proofs.YtnbdckfnohagbaaGreatDoor.LxB
