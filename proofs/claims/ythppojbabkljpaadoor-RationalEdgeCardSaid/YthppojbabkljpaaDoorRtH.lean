/- The walks of the reference's Signum, Sign, Opposite, Negate, Int64. -/
import Derived.Test.YthppojbabkljpaaDoorRtG
namespace Go.Proofs.YthppojbabkljpaaDoor.RtH
theorem here : True := trivial
open Go.RowKit RnA RnB RnS RnC RnK RnM RnL RnN RnD RnE RnQ RnR RnG RnP RnW RnX RoA RoB RoC RoD RoE RoF RoG RoH RoI RoJ RoK RoL RoM RoN PnA PnB PnC PnD PnE PnF PnG PnH PnI PnJ PnK PnL RtA RtB RtC RtE RtG RpA RpB RpC RpD RpE RpF RpG RpH RnY RpI RpJ RpK RpL
end Go.Proofs.YthppojbabkljpaaDoor.RtH
