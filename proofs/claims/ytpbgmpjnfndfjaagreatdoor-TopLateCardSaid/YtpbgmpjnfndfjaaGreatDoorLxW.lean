/- The walks of the lexer's small functions. -/
import Derived.Test.YtpbgmpjnfndfjaaGreatDoorProg
import Derived.Test.YtpbgmpjnfndfjaaGreatDoorLxA
import Derived.WalkKit
import Derived.WalkSpells
import Derived.LoopTactic
import Derived.IntWalk
import Derived.Lib.Hide
import Derived.Outline
namespace Go.Proofs.YtpbgmpjnfndfjaaGreatDoor.LxW
theorem here : True := trivial
open Go.RowKit Lx
theorem hide {p : Prop} (h : p) : Hid p := h
end Go.Proofs.YtpbgmpjnfndfjaaGreatDoor.LxW
