/- Plain: the rounds of the loops over limbs. -/
import Derived.Test.YthppojbabkljpaaGreatDoorRnS
namespace Go.Proofs.YthppojbabkljpaaGreatDoor.RnC
open RnA RnB RnS
theorem canon_of_len {l : List Nat} (h : Ok l) (hl : l.length = sz (lval l)) : l = limbs (lval l) :=
  lval_inj h (limbs_ok _) hl (by rw [lval_limbs])
theorem canon_of_ge {l : List Nat} (h : Ok l) (hl : l = [] ∨ 4294967296 ^ (l.length - 1) ≤ lval l) : l = limbs (lval l) := by
  refine canon_of_len h ?_
  have h1 : sz (lval l) ≤ l.length := sz_le (lval_lt h)
  rcases hl with rfl | hl
  · simp at h1; simp; omega
  · rcases Nat.lt_or_ge (sz (lval l)) l.length with h2 | h2
    · have h3 := sz_lt (lval l)
      have h4 : 4294967296 ^ sz (lval l) ≤ 4294967296 ^ (l.length - 1) := Nat.pow_le_pow_right (by omega) (by omega)
      omega
    · omega
theorem limbs_ge {n : Nat} (h : n ≠ 0) : 4294967296 ^ (sz n - 1) ≤ n := by
  rcases Nat.lt_or_ge n (4294967296 ^ (sz n - 1)) with h1 | h1
  · have := sz_le h1
    have := sz_pos h
    omega
  · exact h1
theorem pow_pos (k : Nat) : 0 < 4294967296 ^ k := Nat.pow_pos (by omega)
theorem lval_take_all {l : List Nat} {k : Nat} (h : l.length ≤ k) : lval (l.take k) = lval l := by rw [List.take_of_length_le h]
theorem lval_take_none {l : List Nat} {k : Nat} (h : l.length ≤ k) : lval (l.take (k + 1)) = lval (l.take k) := by rw [lval_take_all h, lval_take_all (by omega)]
/-- a limb, or 0 behind the end -/
def dig (l : List Nat) (k : Nat) : Nat := l.getD k 0
theorem dig_at {l : List Nat} {k x : Nat} (h : l[k]? = some x) : dig l k = x := by unfold dig; rw [List.getD_eq_getElem?_getD, h]; rfl
theorem dig_out {l : List Nat} {k : Nat} (h : l.length ≤ k) : dig l k = 0 := by unfold dig; rw [List.getD_eq_getElem?_getD, List.getElem?_eq_none h]; rfl
theorem dig_lt {l : List Nat} (h : Ok l) (k : Nat) : dig l k < 4294967296 := by
  by_cases hk : k < l.length
  · rw [dig_at (List.getElem?_eq_getElem hk)]; exact h _ (List.getElem_mem hk)
  · rw [dig_out (by omega)]; omega
theorem lval_take_dig (l : List Nat) (k : Nat) : lval (l.take (k + 1)) = lval (l.take k) + 4294967296 ^ k * dig l k := by
  by_cases hk : k < l.length
  · rw [lval_take_at (List.getElem?_eq_getElem hk), dig_at (List.getElem?_eq_getElem hk)]
  · rw [lval_take_none (by omega), dig_out (by omega)]; simp
theorem take_len {l : List Nat} {k : Nat} (h : k ≤ l.length) : (l.take k).length = k := by rw [List.length_take, Nat.min_eq_left h]
/-- a round of an addition -/
theorem add_round {a b out : List Nat} {i c : Nat} (h : lval out + c * 4294967296 ^ i = lval (a.take i) + lval (b.take i)) (hl : out.length = i) :
    lval (out ++ [(dig a i + dig b i + c) % 4294967296]) + (dig a i + dig b i + c) / 4294967296 * 4294967296 ^ (i + 1) = lval (a.take (i + 1)) + lval (b.take (i + 1)) := by
  rw [lval_snoc, lval_take_dig, lval_take_dig, hl, Nat.pow_succ]
  have e := Nat.div_add_mod (dig a i + dig b i + c) 4294967296
  generalize (dig a i + dig b i + c) % 4294967296 = r at e ⊢
  generalize (dig a i + dig b i + c) / 4294967296 = q at e ⊢
  grind
/-- a round of a subtraction -/
theorem sub_round {a b out : List Nat} {i c x c' : Nat} (h : lval out + lval (b.take i) = lval (a.take i) + c * 4294967296 ^ i) (hl : out.length = i) (hx : x + dig b i + c = dig a i + c' * 4294967296) :
    lval (out ++ [x]) + lval (b.take (i + 1)) = lval (a.take (i + 1)) + c' * 4294967296 ^ (i + 1) := by
  rw [lval_snoc, lval_take_dig, lval_take_dig, hl, Nat.pow_succ]
  grind
/-- an element of a list whose value is below a power is 0 -/
theorem zero_above {l : List Nat} {k x : Nat} (h : lval l < 4294967296 ^ k) (hx : l[k]? = some x) : x = 0 := by
  have hl : k < l.length := (List.getElem?_eq_some_iff.1 hx).1
  have e := lval_split l k (by omega)
  rw [lval_drop_at hx] at e
  rcases Nat.eq_zero_or_pos x with h0 | h0
  · exact h0
  · have : 4294967296 ^ k * 1 ≤ 4294967296 ^ k * (x + 4294967296 * lval (l.drop (k + 1))) := Nat.mul_le_mul_left _ (by omega)
    omega
/-- a round of a multiplication: one product of two limbs -/
theorem mul_round {b O : List Nat} {i j u v x c V : Nat} (h : lval O + c * 4294967296 ^ (i + j) = V + u * lval (b.take j) * 4294967296 ^ i) (hx : O[i + j]? = some x) (hv : b[j]? = some v) :
    lval (O.set (i + j) ((u * v + x + c) % 4294967296)) + (u * v + x + c) / 4294967296 * 4294967296 ^ (i + (j + 1)) = V + u * lval (b.take (j + 1)) * 4294967296 ^ i := by
  have hs := lval_set (y := (u * v + x + c) % 4294967296) hx
  have e := Nat.div_add_mod (u * v + x + c) 4294967296
  rw [lval_take_at hv, show i + (j + 1) = (i + j) + 1 by omega, Nat.pow_succ, Nat.pow_add] at *
  generalize (u * v + x + c) % 4294967296 = r at e hs ⊢
  generalize (u * v + x + c) / 4294967296 = q at e hs ⊢
  grind
theorem mul_last {O : List Nat} {k c V : Nat} (h : lval O + c * 4294967296 ^ k = V) (hx : O[k]? = some 0) : lval (O.set k c) = V := by
  have hs := lval_set (y := c) hx
  rw [Nat.mul_zero, Nat.add_zero] at hs
  rw [hs, ← h, Nat.mul_comm]
theorem prod_lt {u v x c : Nat} (hu : u < 4294967296) (hv : v < 4294967296) (hx : x < 4294967296) (hc : c < 4294967296) : u * v + x + c < 18446744073709551616 ∧ (u * v + x + c) / 4294967296 < 4294967296 := by
  have h1 : u * v ≤ 4294967295 * 4294967295 := Nat.mul_le_mul (by omega) (by omega)
  omega
/-- a round of a division by one limb, from the top -/
theorem div_round {a out : List Nat} {i x d r : Nat} (h : lval (a.drop (i + 1)) = d * lval out + r) (hx : a[i]? = some x) :
    lval (a.drop i) = d * lval ((r * 4294967296 + x) / d :: out) + (r * 4294967296 + x) % d := by
  rw [lval_drop_at hx, lval, h]
  have e := Nat.div_add_mod (r * 4294967296 + x) d
  generalize (r * 4294967296 + x) % d = m at e ⊢
  generalize (r * 4294967296 + x) / d = q at e ⊢
  grind
theorem div_lt {x d r : Nat} (hx : x < 4294967296) (hr : r < d) (hd : d < 4294967296) : r * 4294967296 + x < 18446744073709551616 ∧ (r * 4294967296 + x) / d < 4294967296 ∧ (r * 4294967296 + x) % d < d := by
  refine ⟨by omega, (Nat.div_lt_iff_lt_mul (by omega)).2 ?_, Nat.mod_lt _ (by omega)⟩
  have : (r + 1) * 4294967296 ≤ d * 4294967296 := Nat.mul_le_mul_right _ hr
  omega
end Go.Proofs.YthppojbabkljpaaGreatDoor.RnC
