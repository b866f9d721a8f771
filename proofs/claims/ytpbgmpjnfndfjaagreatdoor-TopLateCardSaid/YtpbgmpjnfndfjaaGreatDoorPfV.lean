/- Plain: Parse inverts Format on documents. -/
import Derived.Test.YtpbgmpjnfndfjaaGreatDoorPFC
import Derived.Test.YtpbgmpjnfndfjaaGreatDoorPFB
import Derived.Lib.ItoaLen
namespace Go.Proofs.YtpbgmpjnfndfjaaGreatDoor.PfV
theorem here : True := trivial
open Lx RnQ RnR RnP PfS PfB PfA PfO PfP PfQ PfT PfU
/-- a document that can be written and read back -/
structure Good (d : Dc) : Prop where
  chk : checkD d = 0
  v1 : validB d.neg d.num.data.toList d.den.data.toList = true
  v2 : validB d.rneg d.rnum.data.toList d.rden.data.toList = true
  n1 : nm d.amt < 10000
  n2 : d.amt.den < 10000
  n3 : nm d.rate < 10000
  n4 : d.rate.den < 10000
theorem in_iff {n m : Int} : inB n m = true ↔ 0 ≤ n ∧ n ≤ m := by simp [inB]
theorem check_all {d : Dc} (h : checkD d = 0) : NmA.nmB d.id = true ∧ (0 ≤ d.est ∧ d.est ≤ 7) ∧ (0 ≤ d.cred ∧ d.cred ≤ 31) ∧ codeB d.code.data.toList = true ∧ ¬ sgnQ d.amt < 0 ∧ (0 ≤ d.inc ∧ d.inc ≤ 1048576) ∧ (0 ≤ d.rank ∧ d.rank ≤ 7)
    ∧ ¬ sgnQ d.rate < 0 ∧ (0 ≤ d.rfrom ∧ d.rfrom ≤ 1048576) ∧ (sgnQ d.rate = 0 → d.rfrom = 0) ∧ (-1 ≤ d.sec ∧ d.sec ≤ 7) := by
  unfold checkD at h
  split at h
  · omega
  split at h
  · omega
  split at h
  · omega
  split at h
  · omega
  split at h
  · omega
  split at h
  · omega
  split at h
  · omega
  split at h
  · omega
  split at h
  · omega
  split at h
  · omega
  split at h
  · omega
  rename_i h1 h2 h3 h4 h5 h6 h7 h8 h9 h10 h11
  rw [Bool.not_eq_false] at h1 h2 h3 h4 h6 h7 h9 h11
  have k := in_iff.1 h11
  exact ⟨h1, in_iff.1 h2, in_iff.1 h3, h4, h5, in_iff.1 h6, in_iff.1 h7, h8, in_iff.1 h9, fun e => Classical.byContradiction fun hn => h10 ⟨e, hn⟩, by omega, by omega⟩
end Go.Proofs.YtpbgmpjnfndfjaaGreatDoor.PfV
