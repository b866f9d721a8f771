/- The walks of the Builder's writing at this program (its panic is not translated here, so the shelf's body is another). -/
import Derived.Test.YtpbgmpjnfndfjaaGreatDoorProg
import Derived.Shelf.Strings.Builder1
import Derived.Shelf.Strings.Builder2
import Derived.WalkKit
import Derived.WalkSpells
import Derived.OwnWalk
import Derived.Outline
namespace Go.Proofs.YtpbgmpjnfndfjaaGreatDoor.HsE
theorem here : True := trivial
open Go.RowKit
theorem infoB : (Tryz.prog.info? 5).map (fun i => (i.zero, i.size, i.bytes)) = some (some (.int .u8 0), 1, 1) := by kernel_rfl
end Go.Proofs.YtpbgmpjnfndfjaaGreatDoor.HsE
