/- The walks of the reference's Minus, Add, Subtract, Multiply, Divide, Less, Lesser, Greater, Compare, Min, Max. -/
import Derived.Test.YthppojbabkljpaaDoorRtI
namespace Go.Proofs.YthppojbabkljpaaDoor.RtJ
theorem here : True := trivial
open Go.RowKit RnA RnB RnS RnC RnK RnM RnL RnN RnD RnE RnQ RnR RnG RnP RnW RnX RoA RoB RoC RoD RoE RoF RoG RoH RoI RoJ RoK RoL RoM RoN PnA PnB PnC PnD PnE PnF PnG PnH PnI PnJ PnK PnL RtA RtB RtC RtE RtG RtH RtI RpA RpB RpC RpD RpE RpF RpG RpH RnY RpI RpJ RpK RpL
theorem minQ_b {a b : Rat} (h : cmpQ b a < 0) : minQ a b = b := by
  unfold minQ
  rw [if_neg]
  unfold cmpQ at h ⊢
  split at h
  · split
    · grind
    · split <;> grind
  · split at h <;> omega
theorem minQ_a {a b : Rat} (h : ¬ cmpQ b a < 0) : minQ a b = a := by
  unfold minQ
  rw [if_pos]
  unfold cmpQ at h ⊢
  split at h
  · omega
  · split
    · omega
    · split
      · omega
      · grind
theorem maxQ_b {a b : Rat} (h : cmpQ a b < 0) : maxQ a b = b := by unfold maxQ; rw [if_neg (by omega)]
theorem maxQ_a {a b : Rat} (h : ¬ cmpQ a b < 0) : maxQ a b = a := by unfold maxQ; rw [if_pos (by omega)]
end Go.Proofs.YthppojbabkljpaaDoor.RtJ
