/- What a row of this seat gives of the package-level variables at its first world. -/
import Derived.Test.YtkllpfijeglppaaDoorRows
import Derived.Test.YtkllpfijeglppaaDoorHsY
import Derived.MakeChecks
import Derived.Deep.DeepHandedRow
import Derived.Lay
namespace Go.Proofs.YtkllpfijeglppaaDoor.HsZ
open Go.RowKit Go.ChangeShapes Go.WideShapes Go.ChangeAt Go.Deep Hs HsB HsC HsD HsF HsG HsX HsY
/-- the variables that each row of this seat lists -/
def laid : List (String × DataW Unit) := [("math/bits.deBruijn32tab", Rows.laid_math_bits_deBruijn32tab), ("math/bits.deBruijn64tab", Rows.laid_math_bits_deBruijn64tab), ("internal/strconv.uint64pow10", Rows.laid_internal_strconv_uint64pow10), ("unicode/utf8.acceptRanges", Rows.laid_unicode_utf8_acceptRanges), ("unicode/utf8.first", Rows.laid_unicode_utf8_first)]
set_option maxRecDepth 100000 in
theorem plain : (laid.all fun x => x.2.handleName?.isNone) = true := by kernel_rfl
set_option maxRecDepth 100000 in
theorem pow : (Rows.laid_internal_strconv_uint64pow10 : DataW Unit) = Lib.tabData .u64 Lib.pow10Tab := by kernel_rfl
set_option maxRecDepth 100000 in
theorem gPowT : (Tryd.prog.globals[1]?).map (·.type) = some 129 := by kernel_rfl
set_option maxRecDepth 100000 in
theorem u64cells : Tryd.prog.cellsOf 116 = 1 := by kernel_rfl
set_option maxRecDepth 100000 in
theorem powcells : Tryd.prog.cellsOf 129 = 20 := by kernel_rfl
set_option maxRecDepth 100000 in
theorem env_of {W : World} (hs : W.ShapedOpen Tryd.prog) (hL : laidMetH Tryd.prog laid W) : Env W := by
  rw [Go.MakeChecks.laidMetH_plain _ _ _ plain] at hL
  have h2 : laidMet Tryd.prog (("internal/strconv.uint64pow10", Lib.tabData .u64 Lib.pow10Tab) :: [("unicode/utf8.acceptRanges", Rows.laid_unicode_utf8_acceptRanges), ("unicode/utf8.first", Rows.laid_unicode_utf8_first)]) W := by
    rw [← pow]; exact hL.tail.tail
  refine ⟨?_, Go.Proofs.cell_of_shapedOpen_int (zero := #[.int .i64 0]) (t := 3) hs (of_decide_eq_true (by kernel_rfl)) (by kernel_rfl) rfl (by kernel_rfl) (by kernel_rfl) Tryd.underlying3, Lib.tabIs_of_head gPow gPowT Tryd.underlying129 Tryd.underlying116 u64cells powcells h2⟩
  obtain ⟨o, _, ho, _, _⟩ := hs.2 6 (of_decide_eq_true (by kernel_rfl)) (of_decide_eq_true (by kernel_rfl))
  exact Nat.le_of_lt (Array.getElem?_eq_some_iff.1 ho).1
end Go.Proofs.YtkllpfijeglppaaDoor.HsZ
