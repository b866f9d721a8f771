/- Lemmas that TopSolvent leans on, without conditions: RsJa RsJb. -/
import Derived.Test.YtpbgmpjnfndfjaaGreatDoorKAE
import Derived.Test.YtpbgmpjnfndfjaaGreatDoorCards
import Derived.WalkKit
import Derived.ProofKit
set_option maxRecDepth 100000
set_option linter.all false
namespace Go.Proofs.YtpbgmpjnfndfjaaGreatDoor
open Go.ChangeAt Go.ChangeShapes Go.RowKit Go.WideShapes
namespace M1
theorem here:True:=trivial
theorem mayEnter:(Tryz.pinned.checked.prog.mayEnter)=true:=Ox
end M1
namespace M3
theorem here:True:=trivial
theorem plainKeys:(Rows.topLateRow.plainKeys==Tryz.pinned.checked.prog.plainKeys)=true:=Ox
theorem lifts:(Rows.topLateRow.lifted==Tryz.pinned.checked.prog.liftsFinal)=true:=Ox
theorem make:(Tryz.pinned.checked.prog.make==some Rows.topLateRow.make)=true:=Ox
theorem stops:(Tryz.pinned.checked.prog.stops==[])=true:=Ox
theorem knobs:(Tryz.pinned.checked.prog.stopKnobs==[])=true:=Ox
end M3
