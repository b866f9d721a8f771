/- Plain: the arithmetic of rational numbers by signs and natural numbers. -/
import Derived.Test.YthppojbabkljpaaGreatDoorRnQ
namespace Go.Proofs.YthppojbabkljpaaGreatDoor.RnR
open RnA RnB RnQ
/-- the numerator's absolute value -/
def nm (q : Rat) : Nat := q.num.natAbs
/-- the number of a sign, a numerator and a denominator -/
def mk (s : Bool) (n d : Nat) : Rat := mkRat (sg s n) d
theorem mk_nm (q : Rat) : mk (negB q) (nm q) q.den = q := mk_self q
theorem mk_scale (s : Bool) (n d : Nat) {k : Nat} (hk : k ≠ 0) : mk s (n * k) (d * k) = mk s n d := by
  unfold mk
  have e : sg s (n * k) = sg s n * (k : Int) := by cases s <;> simp [sg, Int.neg_mul]
  rw [e, Rat.mkRat_mul_right hk]
theorem nm_mk (s : Bool) (n d : Nat) (hd : d ≠ 0) : nm (mk s n d) = n / n.gcd d := mk_abs s n d hd
theorem den_mk (s : Bool) (n d : Nat) (hd : d ≠ 0) : (mk s n d).den = d / n.gcd d := mk_den s n d hd
theorem neg_mk (s : Bool) (n d : Nat) (hd : d ≠ 0) : negB (mk s n d) = (s && decide (n ≠ 0)) := mk_neg s n d hd
theorem nm_zero {q : Rat} : nm q = 0 ↔ q = 0 := by unfold nm; rw [Int.natAbs_eq_zero, Rat.num_eq_zero]
theorem nm_neg {q : Rat} (h : negB q = true) : nm q ≠ 0 := by
  unfold negB at h; unfold nm
  have : q.num < 0 := by simpa using h
  omega
theorem mk_add_same (s t : Bool) (x y d : Nat) (hd : d ≠ 0) : mk s x d + mk t y d = mkRat (sg s x + sg t y) d := by
  unfold mk
  rw [Rat.mkRat_add_mkRat _ _ hd hd, ← Int.add_mul, Rat.mkRat_mul_right hd]
theorem mk_add_eq (s : Bool) (x y d : Nat) (hd : d ≠ 0) : mk s x d + mk s y d = mk s (x + y) d := by
  rw [mk_add_same _ _ _ _ _ hd, mk]
  congr 1
  cases s <;> simp [sg] <;> omega
theorem mk_add_ge {s t : Bool} (hst : s ≠ t) (x y d : Nat) (hd : d ≠ 0) (h : y ≤ x) : mk s x d + mk t y d = mk s (x - y) d := by
  rw [mk_add_same _ _ _ _ _ hd, mk]
  congr 1
  cases s <;> cases t <;> simp [sg] at * <;> omega
theorem mk_add_lt {s t : Bool} (hst : s ≠ t) (x y d : Nat) (hd : d ≠ 0) (h : x < y) : mk s x d + mk t y d = mk t (y - x) d := by
  rw [mk_add_same _ _ _ _ _ hd, mk]
  congr 1
  cases s <;> cases t <;> simp [sg] at * <;> omega
/-- two numbers over the product of their denominators -/
theorem over_prod (a b : Rat) : mk (negB a) (nm a * b.den) (a.den * b.den) = a ∧ mk (negB b) (nm b * a.den) (a.den * b.den) = b := by
  constructor
  · rw [mk_scale _ _ _ b.den_nz, mk_nm]
  · rw [Nat.mul_comm a.den, mk_scale _ _ _ a.den_nz, mk_nm]
theorem mk_mul (s t : Bool) (x y d e : Nat) : mk s x d * mk t y e = mk (s != t) (x * y) (d * e) := by
  unfold mk
  rw [Rat.mkRat_mul_mkRat]
  congr 1
  cases s <;> cases t <;> simp [sg, Int.neg_mul, Int.mul_neg]
theorem mul_eq (a b : Rat) : mk (negB a != negB b) (nm a * nm b) (a.den * b.den) = a * b := by
  rw [← mk_mul, mk_nm, mk_nm]
theorem mk_neg_eq (s : Bool) (x d : Nat) : mk (!s) x d = - mk s x d := by
  unfold mk
  rw [Rat.neg_mkRat]
  congr 1
  cases s <;> simp [sg]
theorem mk_zero (s : Bool) (d : Nat) : mk s 0 d = 0 := by unfold mk; cases s <;> simp [sg, Rat.zero_mkRat]
theorem mk_one (s : Bool) (n : Nat) : mk s n 1 = ((sg s n : Int) : Rat) := by unfold mk; rw [Rat.mkRat_one]
theorem eq_div {a b c : Rat} (hb : b ≠ 0) (h : c * b = a) : c = a / b := by grind
theorem div_eq (a b : Rat) (hb : b ≠ 0) : mk (negB a != negB b) (nm a * b.den) (a.den * nm b) = a / b := by
  have h0 : nm b ≠ 0 := fun e => hb (nm_zero.1 e)
  have h1 : mk (negB a != negB b) (nm a * b.den) (a.den * nm b) * b = a := by
    conv => lhs; rhs; rw [← mk_nm b]
    rw [mk_mul]
    have e : ((negB a != negB b) != negB b) = negB a := by cases negB a <;> cases negB b <;> rfl
    rw [e, Nat.mul_assoc, Nat.mul_assoc, show b.den * nm b = nm b * b.den from Nat.mul_comm _ _, mk_scale _ _ _ (Nat.mul_ne_zero h0 b.den_nz), mk_nm]
  exact eq_div hb h1
/-- the sign of a comparison -/
def cmpQ (a b : Rat) : Int := if a < b then -1 else if a = b then 0 else 1
def sgnQ (a : Rat) : Int := cmpQ a 0
theorem sgnQ_eq (a : Rat) : sgnQ a = if nm a = 0 then 0 else if negB a then -1 else 1 := by
  unfold sgnQ cmpQ
  by_cases h0 : a = 0
  · subst h0
    rw [if_pos (nm_zero.2 rfl)]
    have h1 : ¬ ((0 : Rat) < 0) := by grind
    rw [if_neg h1, if_pos rfl]
  · rw [if_neg (fun e => h0 (nm_zero.1 e)), if_neg h0]
    have h1 : a < 0 ↔ a.num < 0 := by rw [Rat.lt_iff]; simp
    unfold negB
    by_cases h2 : a.num < 0
    · rw [if_pos (h1.2 h2)]; simp [h2]
    · rw [if_neg (fun e => h2 (h1.1 e))]; simp [h2]
/-- of two numbers of one sign the one with the greater product is farther from 0 -/
theorem cmpQ_eq (a b : Rat) : cmpQ a b = if a.num * b.den < b.num * a.den then -1 else if a.num * b.den = b.num * a.den then 0 else 1 := by
  unfold cmpQ
  by_cases h : a.num * b.den < b.num * a.den
  · rw [if_pos ((Rat.lt_iff a b).2 h), if_pos h]
  · rw [if_neg (fun e => h ((Rat.lt_iff a b).1 e)), if_neg h]
    by_cases h2 : a = b
    · subst h2; simp
    · have h3 : a.num * b.den ≠ b.num * a.den := by
        intro e
        apply h2
        have ha := Rat.mkRat_self a
        have hb := Rat.mkRat_self b
        rw [← ha, ← hb, Rat.mkRat_eq_iff a.den_nz b.den_nz]
        exact e
      rw [if_neg h2, if_neg h3]
theorem sgnQ_cmp (a b : Rat) (h : sgnQ a < sgnQ b) : cmpQ a b = -1 := by
  unfold sgnQ cmpQ at *
  split at h <;> split at h <;> (try split at h) <;> (try split at h) <;> first | omega | (rw [if_pos]; grind)
theorem sgnQ_cmp' (a b : Rat) (h : sgnQ b < sgnQ a) : cmpQ a b = 1 := by
  unfold sgnQ cmpQ at *
  split at h <;> split at h <;> (try split at h) <;> (try split at h) <;> first | omega | (rw [if_neg, if_neg] <;> grind)
/-- numbers of the same sign are compared by their absolute values -/
theorem cmpQ_same (a b : Rat) (h : sgnQ a = sgnQ b) : cmpQ a b = (if negB a then -1 else 1) * (if nm a * b.den < nm b * a.den then -1 else if nm a * b.den = nm b * a.den then 0 else 1) := by
  rw [cmpQ_eq]
  rw [sgnQ_eq, sgnQ_eq] at h
  have ea := sg_num a
  have eb := sg_num b
  have hs : nm a = 0 ∧ nm b = 0 ∨ negB a = negB b := by
    by_cases h1 : nm a = 0 <;> by_cases h2 : nm b = 0 <;> cases h3 : negB a <;> cases h4 : negB b <;> simp [h1, h2, h3, h4] at h ⊢
  have ka : a.num = sg (negB a) (nm a) := ea.symm
  have kb : b.num = sg (negB b) (nm b) := eb.symm
  rw [ka, kb]
  rcases hs with ⟨h1, h2⟩ | hs
  · have n1 : negB a = false := by
      cases hn : negB a
      · rfl
      · exact absurd h1 (nm_neg hn)
    have n2 : negB b = false := by
      cases hn : negB b
      · rfl
      · exact absurd h2 (nm_neg hn)
    rw [h1, h2, n1, n2]
    simp [sg]
  · rw [← hs]
    cases negB a
    · simp only [sg, Bool.false_eq_true, if_false, ← Int.natCast_mul]
      generalize nm a * b.den = x
      generalize nm b * a.den = y
      by_cases h1 : x < y
      · rw [if_pos (by omega), if_pos h1]; rfl
      · rw [if_neg (by omega), if_neg h1]
        by_cases h2 : x = y
        · rw [if_pos (by omega), if_pos h2]; rfl
        · rw [if_neg (by omega), if_neg h2]; rfl
    · simp only [sg, if_true, Int.neg_mul, ← Int.natCast_mul]
      generalize nm a * b.den = x
      generalize nm b * a.den = y
      by_cases h1 : x < y
      · rw [if_neg (by omega), if_neg (by omega), if_pos h1]; rfl
      · by_cases h2 : x = y
        · rw [if_neg (by omega), if_pos (by omega), if_neg h1, if_pos h2]; rfl
        · rw [if_pos (by omega), if_neg h1, if_neg h2]; rfl
/-- the integer that is not greater -/
theorem floor_eq (q : Rat) : ((q.floor : Int) : Rat) = mk (negB q) (nm q / q.den + (if negB q = true ∧ nm q % q.den ≠ 0 then 1 else 0)) 1 := by
  rw [mk_one]
  congr 1
  rw [Rat.floor_def]
  have e := sg_num q
  have hd : (0 : Int) < q.den := by have := q.den_pos; omega
  have hk : q.num = sg (negB q) (nm q) := e.symm
  rw [hk]
  cases negB q
  · simp [sg]
  · simp only [sg, if_true, true_and]
    exact floor_neg (nm q) q.den q.den_pos
where
  floor_neg (n d : Nat) (hd : 0 < d) : (-(n : Int)) / (d : Int) = -(((n / d + if n % d ≠ 0 then 1 else 0 : Nat)) : Int) := by
    have h1 := Nat.div_add_mod n d
    have h2 := Nat.mod_lt n hd
    generalize n % d = r at *
    generalize n / d = k at *
    by_cases h0 : r = 0
    · subst h0
      rw [if_neg (by simp), ← h1]
      have e : (-((d * k + 0 : Nat) : Int)) = (-(k : Int)) * (d : Int) := by push_cast; grind
      rw [e, Int.mul_ediv_cancel _ (by omega)]
      simp
    · rw [if_pos h0, ← h1]
      have e : (-((d * k + r : Nat) : Int)) = ((d : Int) - r) + (d : Int) * (-((k : Int) + 1)) := by push_cast; grind
      rw [e, Int.add_mul_ediv_left _ _ (by omega), Int.ediv_eq_zero_of_lt (by omega) (by omega)]
      simp
end Go.Proofs.YthppojbabkljpaaGreatDoor.RnR
