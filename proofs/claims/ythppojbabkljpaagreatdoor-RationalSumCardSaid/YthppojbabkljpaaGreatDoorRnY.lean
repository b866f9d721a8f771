/- Plain: how long rational numbers grow; the parts of a sum, of a negative, of an integer. -/
import Derived.Test.YthppojbabkljpaaGreatDoorRQ
namespace Go.Proofs.YthppojbabkljpaaGreatDoor.RnY
open RnA RnB RnQ RnR RnG RnW RoL RtA RpA RpB RpC RpE RpH
/-- numerator and denominator take at most k bytes -/
def Lt (q : Rat) (k : Nat) : Prop := nm q < 256 ^ k ∧ q.den < 256 ^ k
theorem lt_bs {n k : Nat} : n < 256 ^ k ↔ (bs n).size ≤ k := by
  rw [bs_size]
  constructor
  · exact bytesOf_len_le
  · intro h
    have h1 := bval_lt (bytesOf n)
    rw [bval_bytesOf] at h1
    exact Nat.lt_of_lt_of_le h1 (Nat.pow_le_pow_right (by omega) h)
theorem pow_mono {i j : Nat} (h : i ≤ j) : 256 ^ i ≤ 256 ^ j := Nat.pow_le_pow_right (by omega) h
theorem Lt.mono {q : Rat} {i j : Nat} (h : Lt q i) (hij : i ≤ j) : Lt q j :=
  ⟨Nat.lt_of_lt_of_le h.1 (pow_mono hij), Nat.lt_of_lt_of_le h.2 (pow_mono hij)⟩
theorem Lt.num {q : Rat} {k : Nat} (h : Lt q k) : (bs (nm q)).size ≤ k := lt_bs.1 h.1
theorem Lt.den {q : Rat} {k : Nat} (h : Lt q k) : (bs q.den).size ≤ k := lt_bs.1 h.2
theorem Lt.dstr {q : Rat} {k : Nat} (h : Lt q k) : (dstr q).size ≤ k := by
  by_cases h1 : q.den = 1
  · rw [dstr_one h1]; exact Nat.zero_le _
  · rw [dstr_big h1]; exact h.den
theorem mk_lt {s : Bool} {n d k : Nat} (hd : d ≠ 0) (h1 : n < 256 ^ k) (h2 : d < 256 ^ k) : Lt (mk s n d) k := by
  unfold Lt
  rw [nm_mk s n d hd, den_mk s n d hd]
  exact ⟨Nat.lt_of_le_of_lt (Nat.div_le_self _ _) h1, Nat.lt_of_le_of_lt (Nat.div_le_self _ _) h2⟩
theorem mul_lt {x y i j : Nat} (h1 : x < 256 ^ i) (h2 : y < 256 ^ j) : x * y < 256 ^ (i + j) := by
  rw [Nat.pow_add]
  exact Nat.mul_lt_mul'' h1 h2
theorem add_lt {x y k : Nat} (h1 : x < 256 ^ k) (h2 : y < 256 ^ k) : x + y < 256 ^ (k + 1) := by
  rw [Nat.pow_succ]; omega
/-- a sum over the product of the denominators -/
theorem add_form (a b : Rat) : ∃ s n, n ≤ nm a * b.den + nm b * a.den ∧ a + b = mk s n (a.den * b.den) := by
  have hd : a.den * b.den ≠ 0 := Nat.mul_ne_zero a.den_nz b.den_nz
  obtain ⟨h1, h2⟩ := over_prod a b
  by_cases hs : negB a = negB b
  · refine ⟨negB a, nm a * b.den + nm b * a.den, Nat.le_refl _, ?_⟩
    rw [← mk_add_eq _ _ _ _ hd, h1, hs, h2]
  · rcases Nat.lt_or_ge (nm a * b.den) (nm b * a.den) with h | h
    · refine ⟨negB b, nm b * a.den - nm a * b.den, by omega, ?_⟩
      rw [← mk_add_lt hs _ _ _ hd h, h1, h2]
    · refine ⟨negB a, nm a * b.den - nm b * a.den, by omega, ?_⟩
      rw [← mk_add_ge hs _ _ _ hd h, h1, h2]
theorem Lt.add {a b : Rat} {i j : Nat} (ha : Lt a i) (hb : Lt b j) : Lt (a + b) (i + j + 1) := by
  obtain ⟨s, n, hn, e⟩ := add_form a b
  rw [e]
  have h1 := mul_lt ha.1 hb.2
  have h2 := mul_lt hb.1 ha.2
  rw [Nat.add_comm j i] at h2
  have h3 := add_lt h1 h2
  have h4 := Nat.lt_of_lt_of_le (mul_lt ha.2 hb.2) (pow_mono (Nat.le_succ (i + j)))
  exact mk_lt (Nat.mul_ne_zero a.den_nz b.den_nz) (Nat.lt_of_le_of_lt hn h3) h4
theorem Lt.mul {a b : Rat} {i j : Nat} (ha : Lt a i) (hb : Lt b j) : Lt (a * b) (i + j) := by
  rw [← mul_eq]
  exact mk_lt (Nat.mul_ne_zero a.den_nz b.den_nz) (mul_lt ha.1 hb.1) (mul_lt ha.2 hb.2)
theorem nm_neg_eq (q : Rat) : nm (-q) = nm q := by unfold nm; rw [Rat.neg_num, Int.natAbs_neg]
theorem den_neg_eq (q : Rat) : (-q).den = q.den := Rat.neg_den q
theorem negB_neg (q : Rat) : negB (-q) = (!negB q && decide (nm q ≠ 0)) := by
  unfold negB nm
  rw [Rat.neg_num]
  generalize q.num = m
  by_cases h1 : m < 0
  · rw [decide_eq_false (by omega : ¬ -m < 0), decide_eq_true h1]; rfl
  · by_cases h2 : m = 0
    · subst h2; rfl
    · rw [decide_eq_true (by omega : -m < 0), decide_eq_false h1, decide_eq_true (by omega : m.natAbs ≠ 0)]; rfl
theorem dstr_neg (q : Rat) : dstr (-q) = dstr q := by unfold dstr encD; rw [den_neg_eq]
theorem Lt.neg {q : Rat} {k : Nat} (h : Lt q k) : Lt (-q) k := by unfold Lt; rw [nm_neg_eq, den_neg_eq]; exact h
theorem Lt.div {a b : Rat} {i j : Nat} (ha : Lt a i) (hb : Lt b j) (h0 : b ≠ 0) : Lt (a / b) (i + j) := by
  rw [← div_eq a b h0]
  exact mk_lt (Nat.mul_ne_zero a.den_nz (fun e => h0 (nm_zero.1 e))) (mul_lt ha.1 hb.2) (mul_lt ha.2 hb.1)
theorem Lt.zero : Lt 0 1 := ⟨by decide, by decide⟩
theorem lt_raw {n : Bool} {a d : ByteArray} {k : Nat} (h1 : a.size ≤ k) (h2 : d.size ≤ k) (hk : 1 ≤ k) : Lt (fixQ n a.data.toList d.data.toList) k := by
  obtain ⟨hs1, hs2⟩ := fix_size (n := n) (a := a) (d := d)
  refine ⟨lt_bs.2 (by omega), ?_⟩
  generalize fixQ n a.data.toList d.data.toList = q at *
  by_cases h : q.den = 1
  · rw [h]
    exact Nat.lt_of_lt_of_le (by decide : 1 < 256 ^ 1) (pow_mono hk)
  · rw [dstr_big h] at hs2
    exact lt_bs.2 (by omega)
theorem dstr_eq {a b : Rat} : dstr a = dstr b ↔ a.den = b.den := by
  constructor
  · intro h
    have e : encD a = encD b := congrArg (fun s : ByteArray => s.data.toList) h
    have := congrArg dval e
    rwa [dval_encD, dval_encD] at this
  · intro h
    unfold dstr encD
    rw [h]
/-- the common denominator and the numerators of a sum -/
def comD (a b : Rat) : Nat := if a.den = b.den then a.den else a.den * b.den
def comX (a b : Rat) : Nat := if a.den = b.den then nm a else nm a * b.den
def comY (a b : Rat) : Nat := if a.den = b.den then nm b else nm b * a.den
theorem com_nz (a b : Rat) : comD a b ≠ 0 := by
  unfold comD
  split
  · exact a.den_nz
  · exact Nat.mul_ne_zero a.den_nz b.den_nz
theorem com_mk (a b : Rat) : mk (negB a) (comX a b) (comD a b) = a ∧ mk (negB b) (comY a b) (comD a b) = b := by
  unfold comX comY comD
  by_cases h : a.den = b.den
  · rw [if_pos h, if_pos h, if_pos h]
    exact ⟨mk_nm a, by rw [h]; exact mk_nm b⟩
  · rw [if_neg h, if_neg h, if_neg h]
    exact over_prod a b
theorem com_same {a b : Rat} (h : negB a = negB b) : mk (negB a) (comX a b + comY a b) (comD a b) = a + b := by
  rw [← mk_add_eq _ _ _ _ (com_nz a b), (com_mk a b).1, h, (com_mk a b).2]
theorem com_ge {a b : Rat} (h : negB a ≠ negB b) (hle : comY a b ≤ comX a b) : mk (negB a) (comX a b - comY a b) (comD a b) = a + b := by
  rw [← mk_add_ge h _ _ _ (com_nz a b) hle, (com_mk a b).1, (com_mk a b).2]
theorem com_lt {a b : Rat} (h : negB a ≠ negB b) (hlt : comX a b < comY a b) : mk (negB b) (comY a b - comX a b) (comD a b) = a + b := by
  rw [← mk_add_lt h _ _ _ (com_nz a b) hlt, (com_mk a b).1, (com_mk a b).2]
theorem com_sz {a b : Rat} {i j : Nat} (ha : Lt a i) (hb : Lt b j) : (bs (comX a b)).size ≤ i + j ∧ (bs (comY a b)).size ≤ i + j ∧ (bs (comD a b)).size ≤ i + j := by
  unfold comX comY comD
  by_cases h : a.den = b.den
  · rw [if_pos h, if_pos h, if_pos h]
    have h1 := ha.num
    have h2 := hb.num
    have h3 := ha.den
    exact ⟨by omega, by omega, by omega⟩
  · rw [if_neg h, if_neg h, if_neg h]
    refine ⟨lt_bs.1 (mul_lt ha.1 hb.2), ?_, lt_bs.1 (mul_lt ha.2 hb.2)⟩
    rw [Nat.add_comm]
    exact lt_bs.1 (mul_lt hb.1 ha.2)
/-- the sign as the code reads it -/
def sgnB (n : Bool) (t : ByteArray) : Int := if t.size = 0 then 0 else if n then -1 else 1
theorem sgnB_eq (q : Rat) : sgnB (negB q) (bs (nm q)) = sgnQ q := by
  rw [sgnQ_eq]
  unfold sgnB
  by_cases h : nm q = 0
  · rw [if_pos h, h, bs0, if_pos (by rfl)]
  · have := bytes_ne_nil h
    rw [if_neg h, if_neg (by omega)]
theorem sgn_sub (a b : Rat) : sgnQ (a - b) = cmpQ a b := by
  have h := cmp_add a b (-b)
  have e : a + -b = a - b := by grind
  have e2 : b + -b = 0 := by grind
  rw [e, e2] at h
  exact h
/-- the int64 that a number is, if it is one -/
instance (n : Int) : Decidable (In64 n) := inferInstanceAs (Decidable (_ ∧ _))
def int64Q (q : Rat) : Int × Bool := if q.den = 1 ∧ In64 q.num then (q.num, true) else (0, false)
theorem intQ_eq (n : Int) : intQ n = (n : Rat) := by
  unfold intQ
  rw [mk_one]
  congr 1
  unfold sg
  split
  · rename_i h; simp at h; omega
  · rename_i h; simp at h; omega
theorem int64_int {n : Int} (h : In64 n) : int64Q (intQ n) = (n, true) := by
  rw [intQ_eq]
  unfold int64Q
  have h1 : ((n : Int) : Rat).den = 1 := by simp
  have h2 : ((n : Int) : Rat).num = n := by simp
  rw [if_pos ⟨h1, by rw [h2]; exact h⟩, h2]
theorem lt_int {n : Int} (h : In64 n) : Lt (intQ n) 8 := by
  unfold intQ
  obtain ⟨h1, h2⟩ := h
  exact mk_lt (by decide) (Nat.lt_of_lt_of_le (m := 18446744073709551616) (by omega) (by decide)) (by decide)
end Go.Proofs.YthppojbabkljpaaGreatDoor.RnY
