/- Closed facts of the program that each row of this seat forces. -/
import Derived.Test.YtpbgmpjnfndfjaaGreatDoorCards
import Derived.WalkKit
import Derived.ProofKit
namespace Go.Proofs.YtpbgmpjnfndfjaaGreatDoor.RsJb
theorem here : True := trivial
open Go.ChangeShapes Go.WideShapes Go.ChangeAt Go.RowKit
set_option maxRecDepth 100000 in
theorem plainKeys : (Rows.topLateRow.plainKeys == Tryz.pinned.checked.prog.plainKeys) = true := by kernel_rfl
set_option maxRecDepth 100000 in
theorem lifts : (Rows.topLateRow.lifted == Tryz.pinned.checked.prog.liftsFinal) = true := by kernel_rfl
set_option maxRecDepth 100000 in
theorem make : (Tryz.pinned.checked.prog.make == some Rows.topLateRow.make) = true := by kernel_rfl
set_option maxRecDepth 100000 in
theorem stops : (Tryz.pinned.checked.prog.stops == []) = true := by kernel_rfl
set_option maxRecDepth 100000 in
theorem knobs : (Tryz.pinned.checked.prog.stopKnobs == []) = true := by kernel_rfl
end Go.Proofs.YtpbgmpjnfndfjaaGreatDoor.RsJb
