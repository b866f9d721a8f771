/- The walk of the law LexerPieces. -/
import Derived.Test.YthcimodihgcjaaaLxJ
import Derived.Deep.Draws
namespace Go.Proofs.Ythcimodihgcjaaa.LxK
open Go.RowKit Lx LxW LxB LxD LxF LxG LxI LxJ
set_option maxHeartbeats 1000000 in
theorem pieces_law (a : Option Addr) (len cap : Nat) (zs : List Int) (w : World) (h : IsRow .u8 w a len cap zs) :
    Calls Try.prog 5 #[.slice a len cap] w fun e w' => e = .returned (.bool true) ∧ Below w.heap.size w w' := by
  have H := hide h
  clear h
  go_enter Try.func5, Try.ntmps5
  go_wp2_with fail
  refine (pieces_any _ _ _ _ _ H.out).mono ?_
  rintro e w0 ⟨s, rfl, hsz, hb0⟩
  obtain ⟨r, hr⟩ : ∃ r, lex s = r := ⟨_, rfl⟩
  obtain ⟨toks, p, er⟩ := r
  have HR := hide hr
  clear hr
  go_wp2_with fail
  refine (split_all _ _ (by unfold maxLen; omega)).mono ?_
  rw [HR.out]
  rintro e w1 ⟨v1, rfl, hown1, hb1⟩
  go_wp2_with fail
  refine (rsplit_all _ _ (by unfold maxLen; omega)).mono ?_
  rw [HR.out]
  rintro e w2 ⟨v2, rfl, hown2, hb2⟩
  go_wp2_with fail
  refine (awake_any _).mono ?_
  rintro e w3 ⟨rfl, hb3⟩
  have hown1' := own_below (own_below hown1 hb2) hb3
  have hown2' := own_below hown2 hb3
  go_wp2_with fail
  refine (same_any toks _ _ _ _ _ _ hown1' hown2').mono ?_
  rintro e w4 ⟨rfl, n, rfl⟩
  go_wp2_with fail
  go_ret
  exact ⟨rfl, below_drewN (hb0.trans ((hb1.mono hb0.size).trans ((hb2.mono (Nat.le_trans hb0.size hb1.size)).trans (hb3.mono (Nat.le_trans hb0.size (Nat.le_trans hb1.size hb2.size)))))) n⟩
end Go.Proofs.Ythcimodihgcjaaa.LxK
