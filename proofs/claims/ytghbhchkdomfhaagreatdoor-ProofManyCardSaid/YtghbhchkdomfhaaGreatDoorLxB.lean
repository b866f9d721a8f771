/- The walks of the lexer: reserved words, words, blanks, numbers. -/
import Derived.Test.YtghbhchkdomfhaaGreatDoorLxW
namespace Go.Proofs.YtghbhchkdomfhaaGreatDoor.LxB
theorem here : True := trivial
open Go.RowKit Lx LxW
end Go.Proofs.YtghbhchkdomfhaaGreatDoor.LxB
