/- What a row of this seat gives of the package-level variables at its first world. -/
import Derived.Test.YtghbhchkdomfhaaGreatDoorPFC
import Derived.Test.YtghbhchkdomfhaaGreatDoorRK
namespace Go.Proofs.YtghbhchkdomfhaaGreatDoor.PgZ
open Go.RowKit Go.ChangeShapes Go.WideShapes Go.ChangeAt Go.Deep RpF PfQ
set_option maxRecDepth 100000 in
theorem pow : (Rows.laid_internal_strconv_uint64pow10 : DataW Unit) = Lib.tabData .u64 Lib.pow10Tab := by kernel_rfl
set_option maxRecDepth 100000 in
theorem gPowT : (Tryz.prog.globals[3]?).map (·.type) = some 181 := by kernel_rfl
set_option maxRecDepth 100000 in
theorem u64cells : Tryz.prog.cellsOf 106 = 1 := by kernel_rfl
set_option maxRecDepth 100000 in
theorem powcells : Tryz.prog.cellsOf 181 = 20 := by kernel_rfl
set_option maxRecDepth 100000 in
theorem env_all {W : World} (hs : W.ShapedOpen Tryz.prog) (hL : laidMetH Tryz.prog RsX.laid W) : EnvT W := by
  rw [Go.MakeChecks.laidMetH_plain _ _ _ RsX.plain] at hL
  have h2 : laidMet Tryz.prog (("internal/strconv.uint64pow10", Lib.tabData .u64 Lib.pow10Tab) :: [("unicode/utf8.acceptRanges", Rows.laid_unicode_utf8_acceptRanges), ("unicode/utf8.first", Rows.laid_unicode_utf8_first)]) W := by
    rw [← pow]; exact hL.tail.tail
  refine ⟨?_, RsX.env_of hs, Lib.tabIs_of_head gPow gPowT Tryz.underlying181 Tryz.underlying106 u64cells powcells h2⟩
  obtain ⟨o, _, ho, _, _⟩ := hs.2 6 (of_decide_eq_true (by kernel_rfl)) (of_decide_eq_true (by kernel_rfl))
  have := (Array.getElem?_eq_some_iff.1 ho).1
  omega
end Go.Proofs.YtghbhchkdomfhaaGreatDoor.PgZ
