/- The walks of the reference's Times and Over. -/
import Derived.Test.YthppojbabkljpaaDoorRpL
import Derived.Test.YthppojbabkljpaaDoorRtE
import Derived.Test.YthppojbabkljpaaDoorQmx
namespace Go.Proofs.YthppojbabkljpaaDoor.RtG
theorem here : True := trivial
open Go.RowKit RnA RnB RnS RnC RnK RnM RnL RnN RnD RnE RnQ RnR RnG RnP RnW RnX RoA RoB RoC RoD RoE RoF RoG RoH RoI RoJ RoK RoL RoM RoN PnA PnB PnC PnD PnE PnF PnG PnH PnI PnJ PnK PnL RtA RtB RtC RtE RpA RpB RpC RpD RpE RpF RpG RpH RnY RpI RpJ RpK RpL
theorem rlimbsq (x : Nat) (w : World) (h : (bs x).size ≤ 1000000) : Calls Tryd.prog 31 #[.string (bs x)] w (LPost (limbs x) w) := by
  have h1 := rlimbs_any (bs x) w h
  rwa [nv_bs] at h1
theorem rredq {s : Bool} {x y : Nat} {q : Rat} (hq : mk s x y = q) {A B : Option Addr} {c c' : Nat} {w : World} (ha : NAt w A c x) (hb : NAt w B c' y) (hx : sz x ≤ 100000) (hy : sz y ≤ 100000) (h0 : y ≠ 0) :
    Calls Tryd.prog 32 #[.bool s, .slice A (limbs x).length c, .slice B (limbs y).length c'] w fun e w' => e = .returned (.agg #[.bool (negB q), .string (bs (nm q)), .string (dstr q)]) ∧ Below w.heap.size w w' := by
  have h := rreduced_any s x y A B c c' w ha hb hx hy h0
  rw [hq] at h
  exact h
theorem LPost.out {x : Nat} {w : World} {e : Ending} {w' : World} (h : LPost (limbs x) w e w') : ∃ A c, e = .returned (.slice A (limbs x).length c) ∧ Hid (NAt w' A c x) ∧ (limbs x).length ≤ 9223372036854775807 ∧ Below w.heap.size w w' := by
  obtain ⟨A, c, h1, h2, h3, h4, h5⟩ := h
  exact ⟨A, c, h1, ⟨h4, h2, h3⟩, h4.len, h5⟩
theorem sz_bs {x k : Nat} (h : (bs x).size ≤ 4 * k) : sz x ≤ k := by have := nv_le h; rwa [nv_bs] at this
/-- the worlds behind a world -/
abbrev Beh (W : World) (w' : World) : Prop := ∃ x : Qin.In (Below W.heap.size W), w' = x.val
theorem beh {W w' : World} (h : Below W.heap.size W w') : Beh W w' := ⟨⟨w', h⟩, rfl⟩
theorem draw_below (W : World) : Below W.heap.size W { W with drawn := W.drawn + 1 } := Qin.start _ W
end Go.Proofs.YthppojbabkljpaaDoor.RtG
