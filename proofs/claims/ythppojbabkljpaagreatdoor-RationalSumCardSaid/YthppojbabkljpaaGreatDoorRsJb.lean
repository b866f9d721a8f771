/- Closed facts of the program that each row of this seat forces. -/
import Derived.Test.YthppojbabkljpaaGreatDoorCards
import Derived.WalkKit
import Derived.ProofKit
namespace Go.Proofs.YthppojbabkljpaaGreatDoor.RsJb
open Go.ChangeShapes Go.WideShapes Go.ChangeAt Go.RowKit
set_option maxRecDepth 100000 in
theorem plainKeys : (Rows.rationalFractionRow.plainKeys == Tryz.pinned.checked.prog.plainKeys) = true := by kernel_rfl
set_option maxRecDepth 100000 in
theorem lifts : (Rows.rationalFractionRow.lifted == Tryz.pinned.checked.prog.liftsFinal) = true := by kernel_rfl
set_option maxRecDepth 100000 in
theorem make : (Tryz.pinned.checked.prog.make == some Rows.rationalFractionRow.make) = true := by kernel_rfl
set_option maxRecDepth 100000 in
theorem stops : (Tryz.pinned.checked.prog.stops == []) = true := by kernel_rfl
set_option maxRecDepth 100000 in
theorem knobs : (Tryz.pinned.checked.prog.stopKnobs == []) = true := by kernel_rfl
end Go.Proofs.YthppojbabkljpaaGreatDoor.RsJb
