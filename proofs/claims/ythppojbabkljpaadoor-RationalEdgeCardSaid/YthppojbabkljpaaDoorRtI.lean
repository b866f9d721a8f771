/- The walk of the reference's Plus. -/
import Derived.Test.YthppojbabkljpaaDoorRtH
namespace Go.Proofs.YthppojbabkljpaaDoor.RtI
theorem here : True := trivial
open Go.RowKit RnA RnB RnS RnC RnK RnM RnL RnN RnD RnE RnQ RnR RnG RnP RnW RnX RoA RoB RoC RoD RoE RoF RoG RoH RoI RoJ RoK RoL RoM RoN PnA PnB PnC PnD PnE PnF PnG PnH PnI PnJ PnK PnL RtA RtB RtC RtE RtG RtH RpA RpB RpC RpD RpE RpF RpG RpH RnY RpI RpJ RpK RpL
theorem rorderq {x y : Nat} {A B : Option Addr} {c c' : Nat} {w : World} (ha : NAt w A c x) (hb : NAt w B c' y) :
    Calls Tryd.prog 87 #[.slice A (limbs x).length c, .slice B (limbs y).length c'] w fun e w' => e = .returned (.int .i64 (cmpN x y)) ∧ Below w.heap.size w w' := rorder_any x y A B c c' w ha.1 hb.1
theorem over_same {a b : Rat} (h : negB a = negB b) : mk (negB a) (nm a * b.den + nm b * a.den) (a.den * b.den) = a + b := by
  rw [← mk_add_eq _ _ _ _ (Nat.mul_ne_zero a.den_nz b.den_nz), (over_prod a b).1, h, (over_prod a b).2]
theorem over_ge {a b : Rat} (h : negB a ≠ negB b) (hle : nm b * a.den ≤ nm a * b.den) : mk (negB a) (nm a * b.den - nm b * a.den) (a.den * b.den) = a + b := by
  rw [← mk_add_ge h _ _ _ (Nat.mul_ne_zero a.den_nz b.den_nz) hle, (over_prod a b).1, (over_prod a b).2]
theorem over_lt {a b : Rat} (h : negB a ≠ negB b) (hlt : nm a * b.den < nm b * a.den) : mk (negB b) (nm b * a.den - nm a * b.den) (a.den * b.den) = a + b := by
  rw [← mk_add_lt h _ _ _ (Nat.mul_ne_zero a.den_nz b.den_nz) hlt, (over_prod a b).1, (over_prod a b).2]
theorem sz_sub {x y k : Nat} (h : sz x ≤ k) : sz (x - y) ≤ k := sz_le (Nat.lt_of_le_of_lt (Nat.sub_le x y) (Nat.lt_of_lt_of_le (sz_lt x) (Nat.pow_le_pow_right (by omega) h)))
theorem sz_add1 {x y k : Nat} (h1 : sz x ≤ k) (h2 : sz y ≤ k) : sz (x + y) ≤ k + 1 := by
  have e1 := Nat.lt_of_lt_of_le (sz_lt x) (Nat.pow_le_pow_right (n := 4294967296) (by omega) h1)
  have e2 := Nat.lt_of_lt_of_le (sz_lt y) (Nat.pow_le_pow_right (n := 4294967296) (by omega) h2)
  refine sz_le ?_
  rw [Nat.pow_succ]
  omega
end Go.Proofs.YthppojbabkljpaaDoor.RtI
