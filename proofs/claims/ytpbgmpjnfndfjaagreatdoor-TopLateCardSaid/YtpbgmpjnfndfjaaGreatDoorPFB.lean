/- PfJ, PfK, PfL, PfM, PfN, in one text. -/
import Derived.Test.YtpbgmpjnfndfjaaGreatDoorPFA
import Derived.Test.YtpbgmpjnfndfjaaGreatDoorQmu
import Derived.BigQuiet
import Derived.Test.YtpbgmpjnfndfjaaGreatDoorQmt
namespace Go.Proofs.YtpbgmpjnfndfjaaGreatDoor.PfJ
theorem here : True := trivial
open Go.RowKit Wd RoL RnW RpF PqB PfS PfB PfA PfD PfE PfH PfI
end Go.Proofs.YtpbgmpjnfndfjaaGreatDoor.PfJ
namespace Go.Proofs.YtpbgmpjnfndfjaaGreatDoor.PfK
theorem here : True := trivial
open Go.RowKit Wd RoL RnW RpF PqB PfS PfB PfA PfD PfE PfH PfI PfJ
end Go.Proofs.YtpbgmpjnfndfjaaGreatDoor.PfK
namespace Go.Proofs.YtpbgmpjnfndfjaaGreatDoor.PfL
theorem here : True := trivial
open Go.RowKit Wd RoL RnW RpF PqB PfS PfB PfA PfC PfD PfE PfF PfG PfH PfI PfJ PfK
end Go.Proofs.YtpbgmpjnfndfjaaGreatDoor.PfL
namespace Go.Proofs.YtpbgmpjnfndfjaaGreatDoor.PfM
theorem here : True := trivial
open Go.RowKit Wd RoL RnW RpF PqB PfS PfB PfA PfC PfD PfE PfF PfG PfH PfI PfJ PfK PfL
end Go.Proofs.YtpbgmpjnfndfjaaGreatDoor.PfM
namespace Go.Proofs.YtpbgmpjnfndfjaaGreatDoor.PfN
theorem here : True := trivial
open Go.RowKit Wd RoL RnW RpF PqB PfS PfB PfA PfC PfD PfE PfF PfG PfH PfI PfJ PfK PfL PfM
end Go.Proofs.YtpbgmpjnfndfjaaGreatDoor.PfN
