/- The walks of the laws LexerReserved and LexerSplit. -/
import Derived.Test.YthcimodihgcjaaaLxG
import Derived.Laws.OwnMore
import Derived.Deep.Draws
namespace Go.Proofs.Ythcimodihgcjaaa.LxH
open Go.RowKit Lx LxW LxB LxD LxF LxG
set_option maxHeartbeats 1000000 in
theorem reserved_law (s : ByteArray) (w : World) : Calls Try.prog 3 #[.string s] w fun e w' => e = .returned (.bool true) ∧ Below w.heap.size w w' := by
  cases hr : resv s
  all_goals
    have HR := hide hr
    clear hr
    go_enter Try.func3, Try.ntmps3
    go_wp2_with fail
    refine (awake_any _).mono ?_
    rintro e w1 ⟨rfl, hb1⟩
    go_wp2_with (first | (go_at_call 10; refine (reserved_any _ _).mono ?_; rintro e w' ⟨rfl, rfl⟩; rw [HR.out]) | (go_at_call 11; refine (LxR.reserved_any _ _).mono ?_; rintro e w' ⟨rfl, rfl⟩; rw [HR.out]))
    go_ret
    exact ⟨rfl, hb1⟩
end Go.Proofs.Ythcimodihgcjaaa.LxH
