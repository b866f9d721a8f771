/- The walks of the laws LexerReserved and LexerSplit. -/
import Derived.Test.YthcimodihgcjaaaLxI
import Derived.Laws.OwnMore
import Derived.Deep.Draws
namespace Go.Proofs.Ythcimodihgcjaaa.LxH
open Go.RowKit Lx LxW LxB LxD LxF LxG LxI
set_option maxHeartbeats 1000000 in
theorem reserved_law (s : ByteArray) (w : World) : Calls Try.prog 3 #[.string s] w fun e w' => e = .returned (.bool true) ∧ Below w.heap.size w w' := by
  cases hr : resv s
  all_goals
    have HR := hide hr
    clear hr
    go_enter Try.func3, Try.ntmps3
    go_wp2_with fail
    refine (awake_any _).mono ?_
    rintro e w1 ⟨rfl, hb1⟩
    go_wp2_with (first | (go_at_call 10; refine (reserved_any _ _).mono ?_; rintro e w' ⟨rfl, rfl⟩; rw [HR.out]) | (go_at_call 11; refine (LxR.reserved_any _ _).mono ?_; rintro e w' ⟨rfl, rfl⟩; rw [HR.out]))
    go_ret
    exact ⟨rfl, hb1⟩
set_option maxHeartbeats 1000000 in
theorem split_law (s : ByteArray) (w : World) (hs : s.size ≤ maxLen) : Calls Try.prog 4 #[.string s] w fun e w' => e = .returned (.bool true) ∧ Below w.heap.size w w' := by
  by_cases h : 1200 < s.size
  · unfold maxLen at hs
    go_enter Try.func4, Try.ntmps4
    go_wp2_with fail
    refine (awake_any _).mono ?_
    rintro e w1 ⟨rfl, hb1⟩
    go_wp2_with fail
    go_ret
    exact ⟨rfl, hb1⟩
  · obtain ⟨r, hr⟩ : ∃ r, lex s = r := ⟨_, rfl⟩
    obtain ⟨toks, p, er⟩ := r
    have HR := hide hr
    clear hr
    go_enter Try.func4, Try.ntmps4
    go_wp2_with fail
    refine (split_all _ _ (by unfold maxLen; omega)).mono ?_
    rw [HR.out]
    rintro e w1 ⟨v1, rfl, hown1, hb1⟩
    go_wp2_with fail
    refine (rsplit_all _ _ (by unfold maxLen; omega)).mono ?_
    rw [HR.out]
    rintro e w2 ⟨v2, rfl, hown2, hb2⟩
    go_wp2_with fail
    refine (awake_any _).mono ?_
    rintro e w3 ⟨rfl, hb3⟩
    have hown1' := own_below (own_below hown1 hb2) hb3
    have hown2' := own_below hown2 hb3
    go_wp2_with fail
    refine (same_any toks _ _ _ _ _ _ hown1' hown2').mono ?_
    rintro e w4 ⟨rfl, n, rfl⟩
    go_wp2_with fail
    go_ret
    exact ⟨rfl, below_drewN (hb1.trans ((hb2.mono hb1.size).trans (hb3.mono (Nat.le_trans hb1.size hb2.size)))) n⟩
end Go.Proofs.Ythcimodihgcjaaa.LxH
