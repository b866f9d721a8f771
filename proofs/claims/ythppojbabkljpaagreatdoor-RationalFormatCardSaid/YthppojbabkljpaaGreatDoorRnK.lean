/- Plain: Knuth's division, one digit of the quotient. -/
import Derived.Test.YthppojbabkljpaaGreatDoorRnB
namespace Go.Proofs.YthppojbabkljpaaGreatDoor.RnK
open RnA
/-- the estimate of a digit by three limbs over two -/
def est (top u v1 v2 : Nat) : Nat := min 4294967295 ((top * 4294967296 + u) / (v1 * 4294967296 + v2))
theorem est_lt (top u v1 v2 : Nat) : est top u v1 v2 < 4294967296 := by unfold est; omega
theorem est_mul (top u v1 v2 : Nat) : est top u v1 v2 * (v1 * 4294967296 + v2) ≤ top * 4294967296 + u :=
  Nat.le_trans (Nat.mul_le_mul_right _ (Nat.min_le_right _ _)) (Nat.div_mul_le_self _ _)
theorem le_est {top u v1 v2 g : Nat} (hv : 0 < v1) (h : g < 4294967296) (hg : g * (v1 * 4294967296 + v2) ≤ top * 4294967296 + u) : g ≤ est top u v1 v2 := by
  unfold est
  have := (Nat.le_div_iff_mul_le (by omega : 0 < v1 * 4294967296 + v2)).2 hg
  omega
theorem est_start {top u v1 v2 : Nat} (hv : 0 < v1) (hu : u < 4294967296) : est top u v1 v2 ≤ top / v1 := by
  rw [Nat.le_div_iff_mul_le hv]
  have h := est_mul top u v1 v2
  have e : est top u v1 v2 * (v1 * 4294967296 + v2) = est top u v1 v2 * v1 * 4294967296 + est top u v1 v2 * v2 := by grind
  omega
theorem start_le {top v1 : Nat} (hv : 2147483648 ≤ v1) (ht : top < (v1 + 1) * 4294967296) : top / v1 ≤ 4294967297 := by
  have : top / v1 < 4294967298 := (Nat.div_lt_iff_lt_mul (by omega)).2 (by omega)
  omega
/-- a guess that is too great is greater than the estimate -/
theorem est_down {top u v1 v2 g r : Nat} (he : g * v1 + r = top) (hc : 4294967296 ≤ g ∨ r * 4294967296 + u < g * v2) : est top u v1 v2 ≤ g - 1 ∧ 1 ≤ g := by
  rcases hc with hc | hc
  · have := est_lt top u v1 v2
    omega
  · have hm := est_mul top u v1 v2
    have e : g * (v1 * 4294967296 + v2) = g * v1 * 4294967296 + g * v2 := by grind
    have hlt : est top u v1 v2 * (v1 * 4294967296 + v2) < g * (v1 * 4294967296 + v2) := by omega
    have := Nat.lt_of_mul_lt_mul_right hlt
    omega
/-- the loop ends: its guess is not too great -/
theorem est_stop {top u v1 v2 g r : Nat} (hv : 0 < v1) (he : g * v1 + r = top) (h1 : g < 4294967296) (hc : g * v2 ≤ r * 4294967296 + u) : g ≤ est top u v1 v2 := by
  refine le_est hv h1 ?_
  have e : g * (v1 * 4294967296 + v2) = g * v1 * 4294967296 + g * v2 := by grind
  omega
/-- the loop breaks: its guess is not too great -/
theorem est_break {top u v1 v2 g r : Nat} (hv : 0 < v1) (ht : top < (v1 + 1) * 4294967296) (hv2 : v2 < 4294967296) (hg : g ≤ 4294967296) (he : g * v1 + r = top) (hr : 4294967296 ≤ r) : g ≤ est top u v1 v2 := by
  have h1 : g < 4294967296 := by
    rcases (by omega : g < 4294967296 ∨ g = 4294967296) with h | h
    · exact h
    · subst h; omega
  refine est_stop hv he h1 ?_
  have h2 : g * v2 ≤ 4294967296 * 4294967296 := Nat.mul_le_mul (by omega) (by omega)
  omega
/-- the estimate is the digit or one more -/
theorem est_quot {top u v1 v2 P Ul Dl T D2 : Nat} (hT : top * 4294967296 + u = T) (hD : v1 * 4294967296 + v2 = D2) (hP : 0 < P) (hv : 0 < v1) (hUl : Ul < P) (hDl : Dl < P) (hlt : T * P + Ul < (D2 * P + Dl) * 4294967296) :
    (T * P + Ul) / (D2 * P + Dl) ≤ est top u v1 v2 ∧ est top u v1 v2 ≤ (T * P + Ul) / (D2 * P + Dl) + 1 := by
  have hD2 : 4294967296 ≤ D2 := by omega
  have hDP : 0 < D2 * P + Dl := by have := Nat.mul_pos (by omega : 0 < D2) hP; omega
  have hm := est_mul top u v1 v2
  have hl := est_lt top u v1 v2
  rw [hT, hD] at hm
  constructor
  · have hq : (T * P + Ul) / (D2 * P + Dl) * (D2 * P + Dl) ≤ T * P + Ul := Nat.div_mul_le_self _ _
    have hqb : (T * P + Ul) / (D2 * P + Dl) < 4294967296 := (Nat.div_lt_iff_lt_mul hDP).2 (by rw [Nat.mul_comm 4294967296]; exact hlt)
    generalize (T * P + Ul) / (D2 * P + Dl) = q at *
    refine le_est hv hqb ?_
    rw [hT, hD]
    have e : q * (D2 * P + Dl) = q * D2 * P + q * Dl := by grind
    have h2 : q * D2 * P < (T + 1) * P := by rw [Nat.succ_mul]; omega
    have := Nat.lt_of_mul_lt_mul_right h2
    omega
  · generalize est top u v1 v2 = g at *
    rcases Nat.eq_zero_or_pos g with h0 | h0
    · rw [h0]; exact Nat.zero_le _
    · obtain ⟨g', rfl⟩ : ∃ g', g = g' + 1 := ⟨g - 1, by omega⟩
      have : g' ≤ (T * P + Ul) / (D2 * P + Dl) := by
        rw [Nat.le_div_iff_mul_le hDP]
        have h1 : g' * Dl ≤ D2 * P := by
          have := Nat.mul_le_mul (by omega : g' ≤ D2) (by omega : Dl ≤ P)
          exact this
        have h2 : (g' + 1) * D2 * P ≤ T * P := Nat.mul_le_mul_right _ hm
        have e1 : g' * (D2 * P + Dl) = g' * D2 * P + g' * Dl := by grind
        have e2 : (g' + 1) * D2 * P = g' * D2 * P + D2 * P := by grind
        omega
      exact Nat.succ_le_succ this
/-- what the subtraction leaves: no borrow, the digit was right; a borrow, it was one too great, and adding the divisor again gives the rest -/
theorem sub_right {U D q u' M g b : Nat} (hD : 0 < D) (hq : U / D = q) (hg : g = q ∨ g = q + 1) (h : u' + g * D = U + b * M) (hb : b = 0) : g = q ∧ u' = U % D := by
  subst hb
  have e := Nat.div_add_mod U D
  have hm := Nat.mod_lt U hD
  rw [hq] at e
  rcases hg with rfl | rfl
  · refine ⟨rfl, ?_⟩
    have : g * D = D * g := Nat.mul_comm _ _
    omega
  · have : (q + 1) * D = D * q + D := by grind
    omega
theorem sub_over {U D q u' M g b : Nat} (hD : 0 < D) (hq : U / D = q) (hg : g = q ∨ g = q + 1) (hu : u' < M) (h : u' + g * D = U + b * M) (hb : b = 1) : g = q + 1 ∧ u' + D = U % D + M := by
  subst hb
  have e := Nat.div_add_mod U D
  have hm := Nat.mod_lt U hD
  rw [hq] at e
  rcases hg with rfl | rfl
  · have : g * D = D * g := Nat.mul_comm _ _
    omega
  · have : (q + 1) * D = D * q + D := by grind
    omega
end Go.Proofs.YthppojbabkljpaaGreatDoor.RnK
