/- PgA, PgB, PgC, PgD, in one text. -/
import Derived.Test.YtpbgmpjnfndfjaaGreatDoorPFC
import Derived.Test.YtpbgmpjnfndfjaaGreatDoorPFB
import Derived.Test.YtpbgmpjnfndfjaaGreatDoorQin
namespace Go.Proofs.YtpbgmpjnfndfjaaGreatDoor.PgA
theorem here : True := trivial
open Go.RowKit Wd RoL RnW RpF PqB PfS PfB PfA PfD PfE PfG PfH PfI PfJ
end Go.Proofs.YtpbgmpjnfndfjaaGreatDoor.PgA
namespace Go.Proofs.YtpbgmpjnfndfjaaGreatDoor.PgB
theorem here : True := trivial
open Go.RowKit Wd RoL RnW RpF PqB PfS PfB PfA PfD PfE PfG PfH PfI PfJ PgA
end Go.Proofs.YtpbgmpjnfndfjaaGreatDoor.PgB
namespace Go.Proofs.YtpbgmpjnfndfjaaGreatDoor.PgC
theorem here : True := trivial
open Go.RowKit Wd RoL RnW RpF PqB PfS PfB PfA PfD PfE PfG PfH PfI PfJ PfL PfM PfN PgA PgB
theorem at_in {w : World} {p : Addr} {x : Value} (hp : p.block < w.heap.size) (h : w.cell? p = some x) (v : Qin.In (Below w.heap.size w)) : v.val.cell? p = some x := (v.ok.cell hp).trans h
theorem set3 {w : World} {K : Nat} {T : TypeId} {x y z : Value} (h : BlkT w K T [x, y, z]) (a b c : Value) : BlkT (((w.setCell ⟨K, 0, none⟩ a).setCell ⟨K, 1, none⟩ b).setCell ⟨K, 2, none⟩ c) K T [a, b, c] := ((h.set 0 a).set 1 b).set 2 c
theorem heap_set {w : World} {K j : Nat} {T : TypeId} {l : List Value} (h : BlkT w K T l) (hj : K ≠ j) (i : Nat) (v : Value) : BlkT (w.setCell ⟨j, i, none⟩ v) K T l := (Below.heap_setCell _ _ _ _ hj).trans h
end Go.Proofs.YtpbgmpjnfndfjaaGreatDoor.PgC
namespace Go.Proofs.YtpbgmpjnfndfjaaGreatDoor.PgD
theorem here : True := trivial
open Go.RowKit Wd RoL RnW RnQ RnR RnP RnY RtA RpB RpC RpF RpH PqB PfS PfB PfA PfC PfD PfE PfF PfG PfH PfI PfJ PfL PfM PfN PgA PgB PgC
theorem neg_sgn (q : Rat) : (negB q = true → sgnQ q < 0) ∧ (negB q = false → ¬ sgnQ q < 0) := by
  rw [sgnQ_eq]
  constructor
  · intro h
    have hn : nm q ≠ 0 := by
      unfold negB at h
      have := of_decide_eq_true h
      unfold nm
      omega
    rw [if_neg hn, if_pos h]
    omega
  · intro h
    split
    · omega
    · rw [h, if_neg (by simp)]; omega
/-- the cells of a box that holds a line -/
theorem set_cell {w : World} {g K j : Nat} {T : TypeId} {l : List Value} (h : BlkT w K T l) (hj : K ≠ g) (v : Value) : BlkT (w.setCell ⟨g, j, none⟩ v) K T l := heap_set h hj _ _
end Go.Proofs.YtpbgmpjnfndfjaaGreatDoor.PgD
