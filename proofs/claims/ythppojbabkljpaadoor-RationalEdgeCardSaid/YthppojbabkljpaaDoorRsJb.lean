/- Closed facts of the program that each row of this seat forces. -/
import Derived.Test.YthppojbabkljpaaDoorCards
import Derived.WalkKit
import Derived.ProofKit
namespace Go.Proofs.YthppojbabkljpaaDoor.RsJb
theorem here : True := trivial
open Go.ChangeShapes Go.WideShapes Go.ChangeAt Go.RowKit
set_option maxRecDepth 100000 in
theorem plainKeys : (Rows.rationalValidRow.plainKeys == Tryd.pinned.checked.prog.plainKeys) = true := by kernel_rfl
set_option maxRecDepth 100000 in
theorem lifts : (Rows.rationalValidRow.lifted == Tryd.pinned.checked.prog.liftsFinal) = true := by kernel_rfl
set_option maxRecDepth 100000 in
theorem make : (Tryd.pinned.checked.prog.make == some Rows.rationalValidRow.make) = true := by kernel_rfl
set_option maxRecDepth 100000 in
theorem stops : (Tryd.pinned.checked.prog.stops == []) = true := by kernel_rfl
set_option maxRecDepth 100000 in
theorem knobs : (Tryd.pinned.checked.prog.stopKnobs == []) = true := by kernel_rfl
end Go.Proofs.YthppojbabkljpaaDoor.RsJb
