/- The walks of the lexer: reserved words, words, blanks, numbers. -/
import Derived.Test.YtpbgmpjnfndfjaaGreatDoorLxW
namespace Go.Proofs.YtpbgmpjnfndfjaaGreatDoor.LxB
theorem here : True := trivial
open Go.RowKit Lx LxW
end Go.Proofs.YtpbgmpjnfndfjaaGreatDoor.LxB
