/- The walks of the reference's lexer: its small functions and its token. -/
import Derived.Test.YtghbhchkdomfhaaGreatDoorLxB
import Derived.Deep.DeepCutAuto
import Derived.Deep.CutBlock
namespace Go.Proofs.YtghbhchkdomfhaaGreatDoor.LxR
theorem here : True := trivial
open Go.RowKit Lx LxW
theorem letter_any (c : Int) (w : World) : Calls Tryz.prog 28 #[.int .u8 c] w fun e w' => e = .returned (.bool (isLetter c)) ∧ w = w' := by
  by_cases h1 : 97 ≤ c <;> by_cases h2 : c ≤ 122 <;> by_cases h3 : 65 ≤ c <;> by_cases h4 : c ≤ 90
  all_goals
    go_enter Tryz.func28, Tryz.ntmps28
    go_wp2
    go_ret
    exact ⟨by simp [isLetter, h1, h2, h3, h4], rfl⟩
theorem digit_any (c : Int) (w : World) : Calls Tryz.prog 51 #[.int .u8 c] w fun e w' => e = .returned (.bool (isDigit c)) ∧ w = w' := by
  by_cases h1 : 48 ≤ c <;> by_cases h2 : c ≤ 57
  all_goals
    go_enter Tryz.func51, Tryz.ntmps51
    go_wp2
    go_ret
    exact ⟨by simp [isDigit, h1, h2], rfl⟩
theorem within_any (c : Int) (w : World) : Calls Tryz.prog 29 #[.int .u8 c] w fun e w' => e = .returned (.bool (inName c)) ∧ w = w' := by
  cases h1 : isLetter c <;> cases h2 : isDigit c <;> cases h3 : (c == 45) <;> cases h4 : (c == 95)
  all_goals
    have H1 := Lib.hid h1
    have H2 := Lib.hid h2
    clear h1 h2
    go_enter Tryz.func29, Tryz.ntmps29
    go_wp2_with fail
    refine (letter_any _ _).mono ?_
    rintro e w' ⟨rfl, rfl⟩
    rw [H1.out]
    go_wp2_with (go_at_call 51; refine (digit_any _ _).mono ?_; rintro e w' ⟨rfl, rfl⟩; rw [H2.out])
    go_ret
    exact ⟨by simp [inName, H1.out, H2.out, h3, h4], rfl⟩
end Go.Proofs.YtghbhchkdomfhaaGreatDoor.LxR
