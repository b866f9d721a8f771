/- Plain: the borrow of a subtraction of 32 bits, out of its bits. -/
import Derived.Test.YthppojbabkljpaaGreatDoorRnA
namespace Go.Proofs.YthppojbabkljpaaGreatDoor.RnX
theorem top_bit {n : Nat} (h : n < 4294967296) : n.testBit 31 = decide (2147483648 ≤ n) := by
  rw [Nat.testBit_eq_decide_div_mod_eq]
  rw [show (2 : Nat) ^ 31 = 2147483648 from rfl]
  by_cases h1 : 2147483648 ≤ n
  · rw [show n / 2147483648 = 1 by omega]; simp [h1]
  · rw [show n / 2147483648 = 0 by omega]; simp [h1]
theorem not_bit {n : Nat} (h : n < 4294967296) : (4294967295 - n).testBit 31 = !n.testBit 31 := by
  rw [top_bit h, top_bit (by omega)]
  by_cases h1 : 2147483648 ≤ n
  · have : ¬ 2147483648 ≤ 4294967295 - n := by omega
    simp [h1, this]
  · have : 2147483648 ≤ 4294967295 - n := by omega
    simp [h1, this]
theorem or_lt {a b : Nat} (ha : a < 4294967296) (hb : b < 4294967296) : a ||| b < 4294967296 := Nat.or_lt_two_pow (n := 32) ha hb
theorem and_lt {a b : Nat} (hb : b < 4294967296) : a &&& b < 4294967296 := Nat.and_lt_two_pow (n := 32) a hb
theorem xor_lt {a b : Nat} (ha : a < 4294967296) (hb : b < 4294967296) : a ^^^ b < 4294967296 := Nat.xor_lt_two_pow (n := 32) ha hb
theorem top_of {n : Nat} (h : n < 4294967296) : n / 2147483648 = if n.testBit 31 then 1 else 0 := by
  rw [top_bit h]
  by_cases h1 : 2147483648 ≤ n
  · simp [h1]; omega
  · simp [h1]; omega
/-- the borrow: diff = x - y - b modulo 2^32 -/
theorem borrow_bits {x y b d : Nat} (hx : x < 4294967296) (hy : y < 4294967296) (hb : b ≤ 1) (hd : d = (x + 8589934592 - y - b) % 4294967296) :
    (((4294967295 - x) &&& y) ||| ((4294967295 - (x ^^^ y)) &&& d)) / 2147483648 = if x < y + b then 1 else 0 := by
  have hdl : d < 4294967296 := by omega
  have hxy := xor_lt hx hy
  rw [top_of (or_lt (and_lt hy) (and_lt hdl)), Nat.testBit_or, Nat.testBit_and, Nat.testBit_and, not_bit hx, not_bit hxy, Nat.testBit_xor, top_bit hx, top_bit hy, top_bit hdl]
  by_cases h1 : 2147483648 ≤ x <;> by_cases h2 : 2147483648 ≤ y <;> by_cases h3 : 2147483648 ≤ d <;> by_cases h4 : x < y + b <;> simp [h1, h2, h3, h4] <;> omega
theorem borrow_sum {x y b d : Nat} (hx : x < 4294967296) (hy : y < 4294967296) (hb : b ≤ 1) (hd : d = (x + 8589934592 - y - b) % 4294967296) : d + y + b = x + (if x < y + b then 1 else 0) * 4294967296 := by
  split <;> omega
end Go.Proofs.YthppojbabkljpaaGreatDoor.RnX
