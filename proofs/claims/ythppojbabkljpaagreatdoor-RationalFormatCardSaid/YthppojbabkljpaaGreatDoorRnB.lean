/- Plain: natural numbers as strings of bytes, the most significant one first. -/
import Derived.Test.YthppojbabkljpaaGreatDoorRnA
namespace Go.Proofs.YthppojbabkljpaaGreatDoor.RnB
open RnA
/-- the value of bytes -/
def bval : List UInt8 → Nat
  | [] => 0
  | c :: l => 256 ^ l.length * c.toNat + bval l
/-- the bytes of a number, without leading zeros -/
def bytesOf (n : Nat) : List UInt8 := if n = 0 then [] else bytesOf (n / 256) ++ [UInt8.ofNat (n % 256)]
termination_by n
decreasing_by omega
theorem bytesOf_zero : bytesOf 0 = [] := by rw [bytesOf, if_pos rfl]
theorem bytesOf_pos {n : Nat} (h : n ≠ 0) : bytesOf n = bytesOf (n / 256) ++ [UInt8.ofNat (n % 256)] := by rw [bytesOf, if_neg h]
theorem bval_append (a b : List UInt8) : bval (a ++ b) = 256 ^ b.length * bval a + bval b := by
  induction a with
  | nil => simp [bval]
  | cons x a ih => simp only [List.cons_append, bval, List.length_append, ih, Nat.pow_add]; grind
theorem bval_snoc (a : List UInt8) (c : UInt8) : bval (a ++ [c]) = 256 * bval a + c.toNat := by rw [bval_append]; simp [bval]
theorem bval_lt (l : List UInt8) : bval l < 256 ^ l.length := by
  induction l with
  | nil => simp [bval]
  | cons c l ih =>
    have h := c.toNat_lt
    simp only [bval, List.length_cons, Nat.pow_succ]
    have h2 : 256 ^ l.length * c.toNat ≤ 256 ^ l.length * 255 := Nat.mul_le_mul_left _ (by omega)
    omega
theorem toNat_ofNat {n : Nat} (h : n < 256) : (UInt8.ofNat n).toNat = n := by simp; omega
theorem bval_bytesOf (n : Nat) : bval (bytesOf n) = n := by
  induction n using Nat.strongRecOn with
  | ind n ih =>
    by_cases h : n = 0
    · subst h; rw [bytesOf_zero]; rfl
    · rw [bytesOf_pos h, bval_snoc, ih _ (by omega), toNat_ofNat (by omega)]; omega
theorem bytesOf_snoc {m : Nat} {c : UInt8} (h : 256 * m + c.toNat ≠ 0) : bytesOf (256 * m + c.toNat) = bytesOf m ++ [c] := by
  have hc := c.toNat_lt
  rw [bytesOf_pos h, show (256 * m + c.toNat) / 256 = m by omega, show (256 * m + c.toNat) % 256 = c.toNat by omega]
  simp
theorem dropZ_append (a b : List UInt8) : (a ++ b).dropWhile (· == 0) = if a.all (· == 0) then b.dropWhile (· == 0) else a.dropWhile (· == 0) ++ b := by
  induction a with
  | nil => simp
  | cons x a ih =>
    by_cases h : x = 0
    · subst h; simpa using ih
    · simp [h]
theorem bval_zero_iff (l : List UInt8) : bval l = 0 ↔ l.all (· == 0) = true := by
  induction l with
  | nil => simp [bval]
  | cons c l ih =>
    have hp : 0 < 256 ^ l.length := Nat.pow_pos (by omega)
    simp only [bval, List.all_cons, Bool.and_eq_true, beq_iff_eq]
    rw [← ih]
    constructor
    · intro h
      have h1 : 256 ^ l.length * c.toNat = 0 := by omega
      rcases Nat.mul_eq_zero.1 h1 with h2 | h2
      · omega
      · exact ⟨UInt8.toNat_inj.1 (by simpa using h2), by omega⟩
    · rintro ⟨rfl, h⟩
      simp [h]
/-- dropping leading zeros leaves the bytes of the value -/
theorem dropZ_eq (l : List UInt8) : l.dropWhile (· == 0) = bytesOf (bval l) := by
  induction h : l.length generalizing l with
  | zero =>
    have : l = [] := List.eq_nil_of_length_eq_zero h
    subst this
    simp [bval, bytesOf_zero]
  | succ k ih =>
    have hne : l ≠ [] := fun e => by subst e; simp at h
    obtain ⟨a, c, rfl⟩ : ∃ a c, l = a ++ [c] := ⟨l.dropLast, l.getLast hne, (List.dropLast_concat_getLast hne).symm⟩
    have hl : a.length = k := by simpa using h
    rw [dropZ_append, bval_snoc]
    by_cases hz : a.all (· == 0) = true
    · rw [if_pos hz]
      have h0 := (bval_zero_iff a).2 hz
      rw [h0]
      by_cases hc : c = 0
      · subst hc; simp [bytesOf_zero]
      · have hcn : c.toNat ≠ 0 := fun e => hc (UInt8.toNat_inj.1 (by simpa using e))
        have := bytesOf_snoc (m := 0) (c := c) (by omega)
        rw [bytesOf_zero] at this
        rw [this]
        simp [hc]
    · rw [if_neg hz, ih a hl]
      have h0 : bval a ≠ 0 := fun e => hz ((bval_zero_iff a).1 e)
      rw [bytesOf_snoc (by omega)]
theorem bytesOf_len_le {n k : Nat} (h : n < 256 ^ k) : (bytesOf n).length ≤ k := by
  induction k generalizing n with
  | zero => simp at h; subst h; rw [bytesOf_zero]; simp
  | succ k ih =>
    by_cases h0 : n = 0
    · subst h0; rw [bytesOf_zero]; simp
    · rw [bytesOf_pos h0]
      have := ih (n := n / 256) (by rw [Nat.pow_succ] at h; omega)
      simp; omega
theorem bytesOf_inj {a b : Nat} (h : bytesOf a = bytesOf b) : a = b := by rw [← bval_bytesOf a, ← bval_bytesOf b, h]
theorem bytesOf_nil {n : Nat} : bytesOf n = [] ↔ n = 0 := by
  constructor
  · intro h; have := bval_bytesOf n; rw [h] at this; exact this.symm
  · rintro rfl; exact bytesOf_zero
theorem bytesOf_one : bytesOf 1 = [1] := by
  have := bytesOf_snoc (m := 0) (c := 1) (by simp)
  rw [bytesOf_zero] at this
  simpa using this
/-- one byte more from the end -/
theorem bval_drop {l : List UInt8} {k : Nat} {c : UInt8} (hk : l[k]? = some c) : bval (l.drop k) = 256 ^ (l.length - (k + 1)) * c.toNat + bval (l.drop (k + 1)) := by
  rw [take_drop_at hk, bval, List.length_drop]
where
  take_drop_at {l : List UInt8} {k : Nat} {c : UInt8} (hk : l[k]? = some c) : l.drop k = c :: l.drop (k + 1) := RnA.drop_at hk
theorem pow4 (j : Nat) : 256 ^ (4 * j) = 4294967296 ^ j := by rw [Nat.pow_mul]
theorem pow_i (i : Nat) : 256 ^ i = 4294967296 ^ (i / 4) * 256 ^ (i % 4) := by
  rw [← pow4, ← Nat.pow_add, Nat.div_add_mod]
/-- a limb of a list whose value is small is small -/
theorem limb_small {l : List Nat} {i x : Nat} (h : lval l < 256 ^ i) (hx : l[i / 4]? = some x) : x < 256 ^ (i % 4) := by
  have hl : i / 4 < l.length := (List.getElem?_eq_some_iff.1 hx).1
  have e := lval_split l (i / 4) (by omega)
  rw [lval_drop_at hx] at e
  rw [pow_i] at h
  have hp : 0 < 4294967296 ^ (i / 4) := Nat.pow_pos (by omega)
  have h1 : 4294967296 ^ (i / 4) * x ≤ lval l := by
    rw [e]
    refine Nat.le_trans ?_ (Nat.le_add_left _ _)
    exact Nat.mul_le_mul_left _ (by omega)
  exact Nat.lt_of_mul_lt_mul_left (Nat.lt_of_le_of_lt h1 h)
/-- one byte is set into a list of limbs -/
theorem lval_put {l : List Nat} {i x c : Nat} (hx : l[i / 4]? = some x) : lval (l.set (i / 4) (x + c * 256 ^ (i % 4))) = lval l + 256 ^ i * c := by
  have h := lval_set (y := x + c * 256 ^ (i % 4)) hx
  have e := pow_i i
  grind
/-- a byte of a list of limbs -/
theorem lval_byte {l : List Nat} {i x : Nat} (hok : Ok l) (hx : l[i / 4]? = some x) : lval l / 256 ^ i % 256 = x / 256 ^ (i % 4) % 256 := by
  have hl : i / 4 < l.length := (List.getElem?_eq_some_iff.1 hx).1
  have e := lval_split l (i / 4) (by omega)
  have h1 := lval_lt (hok.take (i / 4))
  rw [List.length_take, Nat.min_eq_left (by omega)] at h1
  rw [lval_drop_at hx] at e
  have h2 : lval l / 4294967296 ^ (i / 4) = x + 4294967296 * lval (l.drop (i / 4 + 1)) := by
    rw [e, Nat.add_comm, Nat.mul_add_div (Nat.pow_pos (by omega)), Nat.div_eq_of_lt h1, Nat.add_zero]
  rw [pow_i, ← Nat.div_div_eq_div_mul, h2]
  have h4 : i % 4 < 4 := Nat.mod_lt _ (by omega)
  have hx2 : x < 4294967296 := hok.at_ hx
  generalize lval (l.drop (i / 4 + 1)) = m
  rcases (by omega : i % 4 = 0 ∨ i % 4 = 1 ∨ i % 4 = 2 ∨ i % 4 = 3) with h | h | h | h <;> rw [h] <;> simp <;> omega
end Go.Proofs.YthppojbabkljpaaGreatDoor.RnB
