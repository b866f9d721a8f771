/- The walks of the reference's lexer: its small functions and its token. -/
import Derived.Test.YtnbdckfnohagbaaGreatDoorLxB
import Derived.Deep.DeepCutAuto
import Derived.Deep.CutBlock
namespace Go.Proofs.YtnbdckfnohagbaaGreatDoor.LxR
theorem here : True := trivial
open Go.RowKit Lx LxW
theorem letter_any (c : Int) (w : World) : Calls Tryz.prog 76 #[.int .u8 c] w fun e w' => e = .returned (.bool (isLetter c)) ∧ w = w' := by
  by_cases h1 : 97 ≤ c <;> by_cases h2 : c ≤ 122 <;> by_cases h3 : 65 ≤ c <;> by_cases h4 : c ≤ 90
  all_goals
    go_enter Tryz.func76, Tryz.ntmps76
    go_wp2
    go_ret
    exact ⟨by simp [isLetter, h1, h2, h3, h4], rfl⟩
theorem digit_any (c : Int) (w : World) : Calls Tryz.prog 74 #[.int .u8 c] w fun e w' => e = .returned (.bool (isDigit c)) ∧ w = w' := by
  by_cases h1 : 48 ≤ c <;> by_cases h2 : c ≤ 57
  all_goals
    go_enter Tryz.func74, Tryz.ntmps74
    go_wp2
    go_ret
    exact ⟨by simp [isDigit, h1, h2], rfl⟩
theorem within_any (c : Int) (w : World) : Calls Tryz.prog 77 #[.int .u8 c] w fun e w' => e = .returned (.bool (inName c)) ∧ w = w' := by
  cases h1 : isLetter c <;> cases h2 : isDigit c <;> cases h3 : (c == 45) <;> cases h4 : (c == 95)
  all_goals
    have H1 := Lib.hid h1
    have H2 := Lib.hid h2
    clear h1 h2
    go_enter Tryz.func77, Tryz.ntmps77
    go_wp2_with fail
    refine (letter_any _ _).mono ?_
    rintro e w' ⟨rfl, rfl⟩
    rw [H1.out]
    go_wp2_with (go_at_call 74; refine (digit_any _ _).mono ?_; rintro e w' ⟨rfl, rfl⟩; rw [H2.out])
    go_ret
    exact ⟨by simp [inName, H1.out, H2.out, h3, h4], rfl⟩
theorem reserved_any (s : ByteArray) (w : World) :
    Calls Tryz.prog 78 #[.string s] w fun e w' => e = .returned (.bool (resv s)) ∧ w = w' := by
  cases h1 : (s.toList == [99, 108, 97, 115, 115]) <;> cases h2 : (s.toList == [98, 101, 102, 111, 114, 101]) <;> cases h3 : (s.toList == [108, 105, 109, 105, 116]) <;> cases h4 : (s.toList == [115, 117, 98, 111, 114, 100, 105, 110, 97, 116, 101])
  all_goals
    go_enter Tryz.func78, Tryz.ntmps78
    go_wp2
    go_ret
    exact ⟨by simp [resv, h1, h2, h3, h4], rfl⟩
theorem blank1_any (c : Int) (w : World) : Calls Tryz.prog 51 #[.int .u8 c] w fun e w' => e = .returned (.bool (isBlank c)) ∧ w = w' := by
  cases h1 : (c == 32) <;> cases h2 : (c == 9) <;> cases h3 : (c == 10) <;> cases h4 : (c == 13)
  all_goals
    go_enter Tryz.func51, Tryz.ntmps51
    go_wp2
    go_ret
    exact ⟨by simp [isBlank, h1, h2, h3, h4], rfl⟩
set_option maxHeartbeats 400000 in
theorem digits_any (s : ByteArray) (i : Nat) (w : World) (hs : s.size ≤ maxLen) (hi : i ≤ s.size) :
    Calls Tryz.prog 75 #[.string s, .int .i64 i] w fun e w' => e = .returned (.int .i64 (skip isDigit s i : Nat)) ∧ w = w' := by
  unfold maxLen at hs
  go_enter Tryz.func75, Tryz.ntmps75
  go_wp2
  go_loop [1] (fun v => ∃ k : Nat, i ≤ k ∧ k ≤ s.size ∧ v = .int .i64 k ∧ skip isDigit s i = skip isDigit s k) (fun v => s.size - (intOf v).toNat)
  case atStart => exact ⟨i, Nat.le_refl _, hi, rfl, rfl⟩
  case round =>
    obtain ⟨k, hik, hk, rfl, hsk⟩ := hrel
    have HS := hide hsk
    clear hsk
    by_cases hlt : k < s.size
    · have hb := hide (bt_at s k hlt)
      cases hp : isDigit (bt s k)
      · have Hp := hide hp
        clear hp
        go_wp2_with (go_at_call 74; refine (digit_any _ _).mono ?_; rintro e w' ⟨rfl, rfl⟩; rw [hb.out, Hp.out])
        go_ret
        exact ⟨by rw [HS.out, skip_stop Hp.out]; rfl, rfl⟩
      · have Hp := hide hp
        clear hp
        go_wp2_with (go_at_call 74; refine (digit_any _ _).mono ?_; rintro e w' ⟨rfl, rfl⟩; rw [hb.out, Hp.out])
        go_round
        case rel => exact ⟨k + 1, by omega, by omega, by go_num, by rw [HS.out, skip_go hlt Hp.out]⟩
        case measure => simp [intOf]; omega
    · go_wp2_with fail
      go_ret
      exact ⟨by rw [HS.out, skip_end (by omega)]; rfl, rfl⟩
end Go.Proofs.YtnbdckfnohagbaaGreatDoor.LxR
