/- The walks of the lexer's small functions. -/
import Derived.Test.YtnbdckfnohagbaaGreatDoorProg
import Derived.Test.YtnbdckfnohagbaaGreatDoorLxA
import Derived.WalkKit
import Derived.WalkSpells
import Derived.LoopTactic
import Derived.IntWalk
import Derived.Lib.Hide
import Derived.Outline
namespace Go.Proofs.YtnbdckfnohagbaaGreatDoor.LxW
theorem here : True := trivial
open Go.RowKit Lx
theorem hide {p : Prop} (h : p) : Hid p := h
theorem isLetter_any (c : Int) (w : World) : Calls Tryz.prog 40 #[.int .u8 c] w fun e w' => e = .returned (.bool (isLetter c)) ∧ w = w' := by
  by_cases h1 : 97 ≤ c <;> by_cases h2 : c ≤ 122 <;> by_cases h3 : 65 ≤ c <;> by_cases h4 : c ≤ 90
  all_goals
    go_enter Tryz.func40, Tryz.ntmps40
    go_wp2
    go_ret
    exact ⟨by simp [isLetter, h1, h2, h3, h4], rfl⟩
theorem isDigit_any (c : Int) (w : World) : Calls Tryz.prog 44 #[.int .u8 c] w fun e w' => e = .returned (.bool (isDigit c)) ∧ w = w' := by
  by_cases h1 : 48 ≤ c <;> by_cases h2 : c ≤ 57
  all_goals
    go_enter Tryz.func44, Tryz.ntmps44
    go_wp2
    go_ret
    exact ⟨by simp [isDigit, h1, h2], rfl⟩
theorem inName_any (c : Int) (w : World) : Calls Tryz.prog 42 #[.int .u8 c] w fun e w' => e = .returned (.bool (inName c)) ∧ w = w' := by
  cases h1 : isLetter c <;> cases h2 : isDigit c <;> cases h3 : (c == 45) <;> cases h4 : (c == 95)
  all_goals
    have H1 := Lib.hid h1
    have H2 := Lib.hid h2
    clear h1 h2
    go_enter Tryz.func42, Tryz.ntmps42
    go_wp2_with fail
    refine (isLetter_any _ _).mono ?_
    rintro e w' ⟨rfl, rfl⟩
    rw [H1.out]
    go_wp2_with (go_at_call 44; refine (isDigit_any _ _).mono ?_; rintro e w' ⟨rfl, rfl⟩; rw [H2.out])
    go_ret
    exact ⟨by simp [inName, H1.out, H2.out, h3, h4], rfl⟩
theorem notLf_any (c : Int) (w : World) : Calls Tryz.prog 70 #[.int .u8 c] w fun e w' => e = .returned (.bool (notLf c)) ∧ w = w' := by
  cases h : (c == 10)
  all_goals
    go_enter Tryz.func70, Tryz.ntmps70
    go_wp2
    go_ret
    exact ⟨by simp only [notLf, bne, h]; rfl, rfl⟩
set_option maxHeartbeats 400000 in
theorem skip_inName (s : ByteArray) (i : Nat) (w : World) (hs : s.size ≤ maxLen) (hi : i ≤ s.size) :
    Calls Tryz.prog 41 #[.string s, .int .i64 i, .func (.func 42) #[] #[]] w fun e w' => e = .returned (.int .i64 (skip inName s i : Nat)) ∧ w = w' := by
  unfold maxLen at hs
  go_enter Tryz.func41, Tryz.ntmps41
  go_wp2
  go_loop [1] (fun v => ∃ k : Nat, i ≤ k ∧ k ≤ s.size ∧ v = .int .i64 k ∧ skip inName s i = skip inName s k) (fun v => s.size - (intOf v).toNat)
  case atStart => exact ⟨i, Nat.le_refl _, hi, rfl, rfl⟩
  case round =>
    obtain ⟨k, hik, hk, rfl, hsk⟩ := hrel
    have HS := hide hsk
    clear hsk
    by_cases hlt : k < s.size
    · have hb := hide (bt_at s k hlt)
      cases hp : inName (bt s k)
      · have Hp := hide hp
        clear hp
        go_wp2_with (go_at_call 42; refine (inName_any _ _).mono ?_; rintro e w' ⟨rfl, rfl⟩; rw [hb.out, Hp.out])
        go_ret
        exact ⟨by rw [HS.out, skip_stop Hp.out]; rfl, rfl⟩
      · have Hp := hide hp
        clear hp
        go_wp2_with (go_at_call 42; refine (inName_any _ _).mono ?_; rintro e w' ⟨rfl, rfl⟩; rw [hb.out, Hp.out])
        go_round
        case rel => exact ⟨k + 1, by omega, by omega, by go_num, by rw [HS.out, skip_go hlt Hp.out]⟩
        case measure => simp [intOf]; omega
    · go_wp2_with fail
      go_ret
      exact ⟨by rw [HS.out, skip_end (by omega)]; rfl, rfl⟩
set_option maxHeartbeats 400000 in
theorem skip_isDigit (s : ByteArray) (i : Nat) (w : World) (hs : s.size ≤ maxLen) (hi : i ≤ s.size) :
    Calls Tryz.prog 41 #[.string s, .int .i64 i, .func (.func 44) #[] #[]] w fun e w' => e = .returned (.int .i64 (skip isDigit s i : Nat)) ∧ w = w' := by
  unfold maxLen at hs
  go_enter Tryz.func41, Tryz.ntmps41
  go_wp2
  go_loop [1] (fun v => ∃ k : Nat, i ≤ k ∧ k ≤ s.size ∧ v = .int .i64 k ∧ skip isDigit s i = skip isDigit s k) (fun v => s.size - (intOf v).toNat)
  case atStart => exact ⟨i, Nat.le_refl _, hi, rfl, rfl⟩
  case round =>
    obtain ⟨k, hik, hk, rfl, hsk⟩ := hrel
    have HS := hide hsk
    clear hsk
    by_cases hlt : k < s.size
    · have hb := hide (bt_at s k hlt)
      cases hp : isDigit (bt s k)
      · have Hp := hide hp
        clear hp
        go_wp2_with (go_at_call 44; refine (isDigit_any _ _).mono ?_; rintro e w' ⟨rfl, rfl⟩; rw [hb.out, Hp.out])
        go_ret
        exact ⟨by rw [HS.out, skip_stop Hp.out]; rfl, rfl⟩
      · have Hp := hide hp
        clear hp
        go_wp2_with (go_at_call 44; refine (isDigit_any _ _).mono ?_; rintro e w' ⟨rfl, rfl⟩; rw [hb.out, Hp.out])
        go_round
        case rel => exact ⟨k + 1, by omega, by omega, by go_num, by rw [HS.out, skip_go hlt Hp.out]⟩
        case measure => simp [intOf]; omega
    · go_wp2_with fail
      go_ret
      exact ⟨by rw [HS.out, skip_end (by omega)]; rfl, rfl⟩
set_option maxHeartbeats 400000 in
theorem skip_notLf (s : ByteArray) (i : Nat) (w : World) (hs : s.size ≤ maxLen) (hi : i ≤ s.size) :
    Calls Tryz.prog 41 #[.string s, .int .i64 i, .func (.func 70) #[] #[]] w fun e w' => e = .returned (.int .i64 (skip notLf s i : Nat)) ∧ w = w' := by
  unfold maxLen at hs
  go_enter Tryz.func41, Tryz.ntmps41
  go_wp2
  go_loop [1] (fun v => ∃ k : Nat, i ≤ k ∧ k ≤ s.size ∧ v = .int .i64 k ∧ skip notLf s i = skip notLf s k) (fun v => s.size - (intOf v).toNat)
  case atStart => exact ⟨i, Nat.le_refl _, hi, rfl, rfl⟩
  case round =>
    obtain ⟨k, hik, hk, rfl, hsk⟩ := hrel
    have HS := hide hsk
    clear hsk
    by_cases hlt : k < s.size
    · have hb := hide (bt_at s k hlt)
      cases hp : notLf (bt s k)
      · have Hp := hide hp
        clear hp
        go_wp2_with (go_at_call 70; refine (notLf_any _ _).mono ?_; rintro e w' ⟨rfl, rfl⟩; rw [hb.out, Hp.out])
        go_ret
        exact ⟨by rw [HS.out, skip_stop Hp.out]; rfl, rfl⟩
      · have Hp := hide hp
        clear hp
        go_wp2_with (go_at_call 70; refine (notLf_any _ _).mono ?_; rintro e w' ⟨rfl, rfl⟩; rw [hb.out, Hp.out])
        go_round
        case rel => exact ⟨k + 1, by omega, by omega, by go_num, by rw [HS.out, skip_go hlt Hp.out]⟩
        case measure => simp [intOf]; omega
    · go_wp2_with fail
      go_ret
      exact ⟨by rw [HS.out, skip_end (by omega)]; rfl, rfl⟩
end Go.Proofs.YtnbdckfnohagbaaGreatDoor.LxW
