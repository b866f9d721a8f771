/- The walk of the reference's Format. -/
import Derived.Test.YthppojbabkljpaaDoorRK
namespace Go.Proofs.YthppojbabkljpaaDoor.RtD
theorem here : True := trivial
open Go.RowKit RnA RnB RnS RnC RnK RnM RnL RnN RnD RnE RnQ RnR RnP RnW RnX RoA RoB RoC RoD RoE RoF RoG RoH RoI RoJ RoK RoL RoM RoN PnA PnB PnC PnD PnE PnF PnG PnH PnI PnJ PnK PnL RtA RtB RtC RpA RpB RpC RpD RpE RpF RpG RpH
end Go.Proofs.YthppojbabkljpaaDoor.RtD
