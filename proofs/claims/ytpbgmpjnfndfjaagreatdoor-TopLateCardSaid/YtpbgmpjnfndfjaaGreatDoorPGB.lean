/- PgE, PgF, PgG, PgH, in one text. -/
import Derived.Test.YtpbgmpjnfndfjaaGreatDoorPGA
import Derived.Test.YtpbgmpjnfndfjaaGreatDoorQmt
import Derived.Test.YtpbgmpjnfndfjaaGreatDoorRK
import Derived.BigQuiet
import Derived.Test.YtpbgmpjnfndfjaaGreatDoorQin
namespace Go.Proofs.YtpbgmpjnfndfjaaGreatDoor.PgE
theorem here : True := trivial
open Go.RowKit Wd RoL RnW RnQ RnR RnP RtA RpB RpC RpF PqB PfS PfB PfA PfC PfD PfE PfF PfG PfH PfI PfJ PfL PfM PfN PgA PgB PgC PgD
end Go.Proofs.YtpbgmpjnfndfjaaGreatDoor.PgE
namespace Go.Proofs.YtpbgmpjnfndfjaaGreatDoor.PgF
theorem here : True := trivial
open Go.RowKit Wd RoL RnW RnQ RnR RnP RtA RpB RpC RpF PqB PfS PfB PfA PfC PfD PfE PfF PfG PfH PfI PfJ PfL PfM PfN PgA PgB PgC PgD PgE
end Go.Proofs.YtpbgmpjnfndfjaaGreatDoor.PgF
namespace Go.Proofs.YtpbgmpjnfndfjaaGreatDoor.PgG
theorem here : True := trivial
open Go.RowKit Wd RoL RnW RpF RsX PqB PfS PfB PfA PfD PfE PfG PfH PfI PfJ
end Go.Proofs.YtpbgmpjnfndfjaaGreatDoor.PgG
namespace Go.Proofs.YtpbgmpjnfndfjaaGreatDoor.PgH
theorem here : True := trivial
open Go.RowKit Wd RnA RnB RnW RnQ RnR RnP RtA RtC RpB RpC RpF RpH RsX RoA RoC RoL PqB PfS PfB PfA PfD PfE PfG PfH PfI PfJ PfN PfO PfQ PfU PgC PgG
set_option maxHeartbeats 2000000 in
set_option maxRecDepth 100000 in
theorem ratio_any (a b : Nat) (w : World) (ha : a ≤ 1000000) (hb : b ≤ 1000000) (h0 : b ≠ 0) :
    Calls Tryz.prog 36 #[.int .i64 (a : Int), .int .i64 (b : Int)] w (RPost (mk false a b) w) := by
  have HF := Lib.hid (fun w => rfraction_any (a : Int) (b : Int) w ⟨by omega, by omega⟩ ⟨by omega, by omega⟩)
  have hm : makeQ (decide ((a : Int) < 0) != decide ((b : Int) < 0)) (a : Int).natAbs (b : Int).natAbs = (mk false a b, true) := by
    rw [decide_eq_false (by omega), decide_eq_false (by omega)]
    unfold makeQ
    rw [if_neg (by omega)]
    rfl
  rw [hm] at HF
  unfold RBPost at HF
  unfold RPost
  generalize mk false a b = q at *
  simp only [enc_open] at HF
  rw [enc_open]
  obtain ⟨V0, hV0, HJ, hB0, hl0⟩ := box_new w (.bool false) (.string ⟨#[]⟩) (.string ⟨#[]⟩)
  have HB0 := hide hB0
  clear hm hB0
  go_enter Tryz.func36, Tryz.ntmps36
  go_wp2_with fail
  refine (HF.out _).mono ?_
  rintro e w1 ⟨rfl, hb1⟩
  obtain ⟨V2, hV2, HX, hB2, hl2⟩ := box_new w1 (.bool (negB q)) (.string (bs (nm q))) (.string (dstr q))
  have hj2 := hb1.trans (hB2.mono hb1.size)
  have HJ2 := hide (HJ.out.keep hj2 hl0)
  have HBF := hide (HB0.out.trans (hj2.mono (Nat.le_of_lt hl0)))
  obtain ⟨m0, m1, m2, _⟩ := HX.out
  obtain ⟨c0, c1, c2, f0, f1, f2⟩ := HJ2.out
  clear hj2 hb1 hB2 hl2
  go_wp2_with fail
  refine bodyPost_ret (results_rat rfl _ rfl (HJ2.out.set3 _ _ _)) rfl ?_
  exact ⟨rfl, below_set3 HBF.out (Nat.le_refl _) _ _ _⟩
instance dcDec : DecidableEq Dc := fun a b => decidable_of_iff (a.id = b.id ∧ a.est = b.est ∧ a.cred = b.cred ∧ a.code = b.code ∧ a.neg = b.neg ∧ a.num = b.num ∧ a.den = b.den ∧ a.inc = b.inc ∧ a.rank = b.rank ∧ a.rneg = b.rneg ∧ a.rnum = b.rnum ∧ a.rden = b.rden ∧ a.rfrom = b.rfrom ∧ a.sec = b.sec) (by
  obtain ⟨_, _, _, _, _, _, _, _, _, _, _, _, _, _⟩ := a
  obtain ⟨_, _, _, _, _, _, _, _, _, _, _, _, _, _⟩ := b
  simp)
end Go.Proofs.YtpbgmpjnfndfjaaGreatDoor.PgH
