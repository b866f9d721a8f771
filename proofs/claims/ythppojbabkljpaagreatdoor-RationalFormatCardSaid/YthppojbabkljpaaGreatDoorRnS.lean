/- Plain: how many limbs a number has. -/
import Derived.Test.YthppojbabkljpaaGreatDoorRnB
namespace Go.Proofs.YthppojbabkljpaaGreatDoor.RnS
open RnA RnB
/-- the number of limbs -/
def sz (n : Nat) : Nat := (limbs n).length
theorem sz_zero : sz 0 = 0 := by unfold sz; rw [limbs_zero]; rfl
theorem sz_lt (n : Nat) : n < 4294967296 ^ sz n := lt_of_limbs n
theorem sz_le {n k : Nat} (h : n < 4294967296 ^ k) : sz n ≤ k := limbs_len_le h
theorem sz_mono {m n : Nat} (h : m ≤ n) : sz m ≤ sz n := sz_le (Nat.lt_of_le_of_lt h (sz_lt n))
theorem sz_mul (m n : Nat) : sz (m * n) ≤ sz m + sz n := by
  refine sz_le ?_
  rw [Nat.pow_add]
  have h1 := sz_lt m
  have h2 := sz_lt n
  exact Nat.mul_lt_mul_of_lt_of_le h1 (Nat.le_of_lt h2) (Nat.pow_pos (by omega))
theorem sz_add (m n : Nat) : sz (m + n) ≤ max (sz m) (sz n) + 1 := by
  refine sz_le ?_
  have h1 := Nat.lt_of_lt_of_le (sz_lt m) (Nat.pow_le_pow_right (n := 4294967296) (by omega) (Nat.le_max_left (sz m) (sz n)))
  have h2 := Nat.lt_of_lt_of_le (sz_lt n) (Nat.pow_le_pow_right (n := 4294967296) (by omega) (Nat.le_max_right (sz m) (sz n)))
  rw [Nat.pow_succ]
  omega
theorem sz_sub (m n : Nat) : sz (m - n) ≤ sz m := sz_mono (Nat.sub_le _ _)
theorem sz_div (m n : Nat) : sz (m / n) ≤ sz m := sz_mono (Nat.div_le_self _ _)
theorem sz_mod (m n : Nat) : sz (m % n) ≤ sz m := sz_mono (Nat.mod_le _ _)
theorem sz_mod' {m n : Nat} (h : 0 < n) : sz (m % n) ≤ sz n := sz_mono (Nat.le_of_lt (Nat.mod_lt _ h))
theorem sz_gcd {m n : Nat} (h : 0 < n) : sz (m.gcd n) ≤ sz n := sz_mono (Nat.gcd_le_right _ h)
theorem sz_small {n : Nat} (h : n < 4294967296) : sz n ≤ 1 := sz_le (by simpa using h)
theorem sz_u64 {n : Nat} (h : n < 18446744073709551616) : sz n ≤ 2 := sz_le (Nat.lt_of_lt_of_le h (by decide))
theorem sz_pos {n : Nat} (h : n ≠ 0) : 0 < sz n := by
  rcases Nat.eq_zero_or_pos (sz n) with h0 | h0
  · exact absurd (limbs_nil.1 h0) h
  · exact h0
theorem sz_bytes {l : List UInt8} {k : Nat} (h : l.length ≤ 4 * k) : sz (bval l) ≤ k := by
  refine sz_le ?_
  rw [← pow4]
  exact Nat.lt_of_lt_of_le (bval_lt l) (Nat.pow_le_pow_right (by omega) h)
theorem bytes_sz {n k : Nat} (h : sz n ≤ k) : (bytesOf n).length ≤ 4 * k := by
  refine bytesOf_len_le ?_
  rw [pow4]
  exact Nat.lt_of_lt_of_le (sz_lt n) (Nat.pow_le_pow_right (by omega) h)
end Go.Proofs.YthppojbabkljpaaGreatDoor.RnS
