/- The walk of the reference's den. -/
import Derived.Test.YthppojbabkljpaaGreatDoorRK
namespace Go.Proofs.YthppojbabkljpaaGreatDoor.RtE
open Go.RowKit RnA RnB RnS RnC RnK RnM RnL RnN RnD RnE RnQ RnR RnP RnW RnX RoA RoB RoC RoD RoE RoF RoG RoH RoI RoJ RoK RoL RoM RoN PnA PnB PnC PnD PnE PnF PnG PnH PnI PnJ PnK PnL RtA RtB RtC RpA RpB RpC RpD RpE RpF RpG RpH
set_option maxHeartbeats 2000000 in
set_option maxRecDepth 100000 in
theorem rden_any (q : Rat) (w : World) (hd : (dstr q).size ≤ 100000) :
    Calls Tryz.prog 81 #[.agg #[.bool (negB q), .string (bs (nm q)), .string (dstr q)]] w (LPost (limbs q.den) w) := by
  obtain ⟨V0, hV0, HX0, hc0, hl0⟩ := box_new w (.bool (negB q)) (.string (bs (nm q))) (.string (dstr q))
  obtain ⟨c0, c1, c2, _⟩ := HX0.out
  have HC0 := hide hc0
  clear hc0
  by_cases h1 : q.den = 1
  · have hds := dstr_one h1
    rw [hds] at c2 hV0 ⊢
    have hl : Hid (limbs q.den = [1]) := by show _ = _; rw [h1]; exact limbs_one (by decide) (by decide)
    generalize bs (nm q) = A at *
    generalize negB q = b at *
    clear h1 hds hd HX0
    go_enter Tryz.func81, Tryz.ntmps81
    go_wp2_with fail
    go_ret
    rw [hl.out]
    refine ⟨some ⟨V0.heap.size, 0, none⟩, 1, rfl, Nat.le_refl _, by decide, ⟨fun x hx => by simp at hx; omega, by decide, fun _ => ⟨V0.heap.size, 0, rfl, by simp, fun k x hk => ?_⟩⟩, HC0.out.alloc HC0.out.size _⟩
    match k, hk with
    | 0, hk =>
      simp at hk
      subst hk
      simp [go_sem]
    | k + 1, hk => simp at hk
  · have hds := dstr_big h1
    have HL := Lib.hid (fun w => rlimbs_any (dstr q) w (by omega))
    rw [hds] at HL
    rw [nv_bs] at HL
    rw [hds] at c2 hV0 ⊢
    obtain ⟨e1, e2⟩ := str_ne (bytes_ne_nil q.den_nz)
    generalize bs (nm q) = A at *
    generalize negB q = b at *
    generalize hdd : bs q.den = D at *
    clear h1 hds hd HX0 hdd
    go_enter Tryz.func81, Tryz.ntmps81
    go_wp2_with fail
    refine (HL.out _).mono ?_
    rintro e w1 ⟨B, c, rfl, h1, h2, h3, h4⟩
    go_wp2_with fail
    go_ret
    exact ⟨B, c, rfl, h1, h2, h3, HC0.out.trans (h4.mono HC0.out.size)⟩
end Go.Proofs.YthppojbabkljpaaGreatDoor.RtE
