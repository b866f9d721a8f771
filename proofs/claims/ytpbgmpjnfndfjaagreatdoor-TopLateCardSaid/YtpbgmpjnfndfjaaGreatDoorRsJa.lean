/- A closed fact of the program that each row of this seat forces. -/
import Derived.Test.YtpbgmpjnfndfjaaGreatDoorCards
import Derived.WalkKit
import Derived.ProofKit
namespace Go.Proofs.YtpbgmpjnfndfjaaGreatDoor.RsJa
theorem here : True := trivial
open Go.ChangeShapes Go.WideShapes Go.ChangeAt Go.RowKit
set_option maxRecDepth 100000 in
theorem mayEnter : (Tryz.pinned.checked.prog.mayEnter) = true := by kernel_rfl
end Go.Proofs.YtpbgmpjnfndfjaaGreatDoor.RsJa
