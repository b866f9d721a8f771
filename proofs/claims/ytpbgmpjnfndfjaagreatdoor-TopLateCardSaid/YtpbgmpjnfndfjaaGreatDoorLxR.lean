/- The walks of the reference's lexer: its small functions and its token. -/
import Derived.Test.YtpbgmpjnfndfjaaGreatDoorLxB
import Derived.Deep.DeepCutAuto
import Derived.Deep.CutBlock
namespace Go.Proofs.YtpbgmpjnfndfjaaGreatDoor.LxR
theorem here : True := trivial
open Go.RowKit Lx LxW
end Go.Proofs.YtpbgmpjnfndfjaaGreatDoor.LxR
