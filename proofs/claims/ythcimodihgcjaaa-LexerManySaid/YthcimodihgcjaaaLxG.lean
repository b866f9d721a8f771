/- The examples of the chapter (awake), and the comparison of two lists of tokens. -/
import Derived.Test.YthcimodihgcjaaaLxF
import Derived.KernelRfl
import Derived.Deep.AppendLies
import Derived.Deep.QuietTactic
import Derived.BigQuiet
namespace Go.Proofs.Ythcimodihgcjaaa.LxG
open Go.RowKit Lx LxW LxB LxD LxF
theorem lex1 : lex ⟨#[97, 32, 98, 101, 102, 111, 114, 101, 32, 98, 50, 59, 32, 35, 32, 114, 101, 115, 116]⟩ =
    ([⟨1, ⟨#[97]⟩, 0⟩, ⟨3, ⟨#[98, 101, 102, 111, 114, 101]⟩, 2⟩, ⟨1, ⟨#[98, 50]⟩, 9⟩, ⟨4, ⟨#[59]⟩, 11⟩, ⟨5, ⟨#[]⟩, 19⟩], 0, 0) := by kernel_rfl
theorem lex2 : lex ⟨#[49, 46, 53, 46, 50]⟩ = ([], 3, 10) := by kernel_rfl
set_option maxHeartbeats 1000000 in
theorem awake_any (w : World) : Calls Try.prog 9 #[] w fun e w' => e = .returned (.bool true) ∧ Below w.heap.size w w' := by
  go_enter Try.func9, Try.ntmps9
  go_wp2_with fail
  refine (split_all _ _ (by unfold maxLen; decide)).mono ?_
  rintro e w1 ⟨v, rfl, hown, hb1⟩
  rw [lex1] at hown ⊢
  obtain ⟨g, cap, rfl, hg, hlt⟩ := hown.form (by decide)
  go_wp2_with fail
  refine (split_all _ _ (by unfold maxLen; decide)).mono ?_
  rintro e w2 ⟨v2, rfl, hown2, hb2⟩
  rw [lex2] at hown2 ⊢
  have c3 : w2.cell? ⟨g, 3, none⟩ = some (.int .i64 3) := (hb2.cell (p := ⟨g, 3, none⟩) hlt).trans ((hown.cellAt 3 (by decide)).trans rfl)
  have c7 : w2.cell? ⟨g, 7, none⟩ = some (.string ⟨#[98, 50]⟩) := (hb2.cell (p := ⟨g, 7, none⟩) hlt).trans ((hown.cellAt 7 (by decide)).trans rfl)
  have c12 : w2.cell? ⟨g, 12, none⟩ = some (.int .i64 5) := (hb2.cell (p := ⟨g, 12, none⟩) hlt).trans ((hown.cellAt 12 (by decide)).trans rfl)
  have c14 : w2.cell? ⟨g, 14, none⟩ = some (.int .i64 19) := (hb2.cell (p := ⟨g, 14, none⟩) hlt).trans ((hown.cellAt 14 (by decide)).trans rfl)
  go_wp2_with fail
  go_ret
  exact ⟨rfl, hb1.trans (hb2.mono hb1.size)⟩
end Go.Proofs.Ythcimodihgcjaaa.LxG
