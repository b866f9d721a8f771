/- Plain: rational numbers as a sign and two strings of bytes. -/
import Derived.Test.YthppojbabkljpaaGreatDoorRnB
namespace Go.Proofs.YthppojbabkljpaaGreatDoor.RnQ
open RnA RnB
def sg (neg : Bool) (n : Nat) : Int := if neg then -(n : Int) else n
theorem sg_abs (neg : Bool) (n : Nat) : (sg neg n).natAbs = n := by cases neg <;> simp [sg]
def negB (q : Rat) : Bool := decide (q.num < 0)
def encN (q : Rat) : List UInt8 := bytesOf q.num.natAbs
def encD (q : Rat) : List UInt8 := if q.den = 1 then [] else bytesOf q.den
def dval (den : List UInt8) : Nat := if den = [] then 1 else bval den
def validB (neg : Bool) (num den : List UInt8) : Bool :=
  decide (num = bytesOf (bval num)) && decide (den = bytesOf (bval den)) && (if num = [] then !neg && decide (den = []) else decide (den = []) || (decide (den ≠ [1]) && decide ((bval num).gcd (bval den) = 1)))
def fixQ (neg : Bool) (num den : List UInt8) : Rat := if validB neg num den then mkRat (sg neg (bval num)) (dval den) else 0
theorem mk_abs (neg : Bool) (n d : Nat) (hd : d ≠ 0) : (mkRat (sg neg n) d).num.natAbs = n / n.gcd d := by
  rw [Rat.num_mkRat, if_neg hd, sg_abs, Nat.gcd_comm]
  cases neg
  · simp only [sg, Bool.false_eq_true, if_false, ← Int.natCast_ediv, Int.natAbs_natCast]
  · have h : ((n.gcd d : Nat) : Int) ∣ (n : Int) := Int.natCast_dvd_natCast.2 (Nat.gcd_dvd_left _ _)
    simp only [sg, if_true, Int.neg_ediv_of_dvd h, Int.natAbs_neg, ← Int.natCast_ediv, Int.natAbs_natCast]
theorem mk_den (neg : Bool) (n d : Nat) (hd : d ≠ 0) : (mkRat (sg neg n) d).den = d / n.gcd d := by
  rw [Rat.den_mkRat, if_neg hd, sg_abs, Nat.gcd_comm]
theorem div_gcd_pos {n d : Nat} (hn : n ≠ 0) : n / n.gcd d ≠ 0 := by
  have h1 := Nat.gcd_pos_of_pos_left d (Nat.pos_of_ne_zero hn)
  have h2 := Nat.gcd_le_left d (Nat.pos_of_ne_zero hn)
  exact Nat.pos_iff_ne_zero.1 (Nat.div_pos h2 h1)
theorem mk_neg (neg : Bool) (n d : Nat) (hd : d ≠ 0) : negB (mkRat (sg neg n) d) = (neg && decide (n ≠ 0)) := by
  have ha := mk_abs neg n d hd
  by_cases hn : n = 0
  · subst hn
    have : (mkRat (sg neg 0) d) = 0 := by cases neg <;> simp [sg, Rat.zero_mkRat]
    rw [this]
    cases neg <;> rfl
  · have hp := div_gcd_pos (d := d) hn
    have h1 : (mkRat (sg neg n) d).num = (sg neg n) / ((n.gcd d : Nat) : Int) := by
      rw [Rat.num_mkRat, if_neg hd, sg_abs, Nat.gcd_comm]
    unfold negB
    cases neg
    · have : ¬ ((mkRat (sg false n) d).num < 0) := by
        rw [h1]
        simp only [sg, Bool.false_eq_true, if_false, ← Int.natCast_ediv]
        omega
      simp [this]
    · have h : ((n.gcd d : Nat) : Int) ∣ (n : Int) := Int.natCast_dvd_natCast.2 (Nat.gcd_dvd_left _ _)
      have : (mkRat (sg true n) d).num < 0 := by
        rw [h1]
        simp only [sg, if_true, Int.neg_ediv_of_dvd h, ← Int.natCast_ediv]
        omega
      simp [this, hn]
theorem sg_num (q : Rat) : sg (negB q) q.num.natAbs = q.num := by
  unfold sg negB
  by_cases h : q.num < 0
  · simp [h]; omega
  · simp [h]; omega
theorem mk_self (q : Rat) : mkRat (sg (negB q) q.num.natAbs) q.den = q := by rw [sg_num, Rat.mkRat_self]
theorem dval_encD (q : Rat) : dval (encD q) = q.den := by
  unfold dval encD
  by_cases h : q.den = 1
  · simp [h]
  · rw [if_neg h, if_neg (by rw [bytesOf_nil]; exact q.den_nz), bval_bytesOf]
theorem valid_enc (q : Rat) : validB (negB q) (encN q) (encD q) = true := by
  have hr : q.num.natAbs.gcd q.den = 1 := q.reduced
  unfold validB
  simp only [Bool.and_eq_true, decide_eq_true_eq]
  refine ⟨⟨?_, ?_⟩, ?_⟩
  · unfold encN; rw [bval_bytesOf]
  · unfold encD
    by_cases h : q.den = 1
    · simp [h, bval, bytesOf_zero]
    · rw [if_neg h, bval_bytesOf]
  · by_cases h : encN q = []
    · rw [if_pos h]
      have h0 : q.num.natAbs = 0 := bytesOf_nil.1 h
      rw [h0, Nat.gcd_zero_left] at hr
      have h1 : ¬ q.num < 0 := by omega
      simp [negB, encD, hr, h1]
    · rw [if_neg h]
      by_cases h1 : q.den = 1
      · simp [encD, h1]
      · have h2 : encD q = bytesOf q.den := by unfold encD; rw [if_neg h1]
        have h3 : bytesOf q.den ≠ [1] := fun e => h1 (bytesOf_inj (e.trans bytesOf_one.symm))
        rw [h2]
        simp [h3, encN, bval_bytesOf, hr]
theorem fix_enc (q : Rat) : fixQ (negB q) (encN q) (encD q) = q := by
  unfold fixQ
  rw [if_pos (valid_enc q), dval_encD]
  unfold encN
  rw [bval_bytesOf, mk_self]
theorem enc_fix {neg : Bool} {num den : List UInt8} (h : validB neg num den = true) : negB (fixQ neg num den) = neg ∧ encN (fixQ neg num den) = num ∧ encD (fixQ neg num den) = den := by
  have e : fixQ neg num den = mkRat (sg neg (bval num)) (dval den) := by unfold fixQ; rw [if_pos h]
  rw [e]
  unfold validB at h
  simp only [Bool.and_eq_true, decide_eq_true_eq] at h
  obtain ⟨⟨h1, h2⟩, h3⟩ := h
  have hd0 : dval den ≠ 0 := by
    unfold dval
    split
    · omega
    · intro e0
      rw [e0, bytesOf_zero] at h2
      contradiction
  rw [mk_neg _ _ _ hd0]
  unfold encN encD
  rw [mk_abs _ _ _ hd0, mk_den _ _ _ hd0]
  by_cases hn : num = []
  · rw [if_pos hn] at h3
    subst hn
    simp only [Bool.and_eq_true, decide_eq_true_eq, Bool.not_eq_true'] at h3
    obtain ⟨rfl, rfl⟩ := h3
    simp [bval, dval, bytesOf_zero]
  · rw [if_neg hn] at h3
    have hb : bval num ≠ 0 := fun e0 => by rw [e0, bytesOf_zero] at h1; exact hn h1
    refine ⟨by simp [hb], ?_⟩
    by_cases hdn : den = []
    · subst hdn
      simp only [dval, if_true, Nat.gcd_one_right, Nat.div_one]
      exact ⟨h1.symm, trivial⟩
    · have e2 : dval den = bval den := by unfold dval; rw [if_neg hdn]
      simp only [hdn, decide_false, Bool.false_or, Bool.and_eq_true, decide_eq_true_eq] at h3
      rw [e2, h3.2, Nat.div_one, Nat.div_one]
      refine ⟨h1.symm, ?_⟩
      rw [if_neg (fun e3 => h3.1 (by rw [h2, e3, bytesOf_one]))]
      exact h2.symm
theorem enc_inj {a b : Rat} (h1 : negB a = negB b) (h2 : encN a = encN b) (h3 : encD a = encD b) : a = b := by
  rw [← fix_enc a, ← fix_enc b, h1, h2, h3]
/-- the fields of a quotient -/
theorem encN_mk (neg : Bool) (n d : Nat) (hd : d ≠ 0) : encN (mkRat (sg neg n) d) = bytesOf (n / n.gcd d) := by unfold encN; rw [mk_abs _ _ _ hd]
theorem encD_mk (neg : Bool) (n d : Nat) (hd : d ≠ 0) : encD (mkRat (sg neg n) d) = if d / n.gcd d = 1 then [] else bytesOf (d / n.gcd d) := by unfold encD; rw [mk_den _ _ _ hd]
theorem enc_zero : negB 0 = false ∧ encN 0 = [] ∧ encD 0 = [] := by
  refine ⟨rfl, ?_, rfl⟩
  show bytesOf 0 = []
  exact bytesOf_zero
end Go.Proofs.YthppojbabkljpaaGreatDoor.RnQ
