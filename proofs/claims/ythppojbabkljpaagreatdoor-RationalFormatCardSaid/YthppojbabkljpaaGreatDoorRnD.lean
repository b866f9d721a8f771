/- Plain: natural numbers in decimal. -/
import Derived.Test.YthppojbabkljpaaGreatDoorRnB
namespace Go.Proofs.YthppojbabkljpaaGreatDoor.RnD
open RnA RnB
/-- the value of digits -/
def dec : List UInt8 → Nat
  | [] => 0
  | c :: l => 10 ^ l.length * (c.toNat - 48) + dec l
def isDig (c : UInt8) : Bool := decide (48 ≤ c.toNat) && decide (c.toNat ≤ 57)
def digs (l : List UInt8) : Bool := l.all isDig
/-- a number in decimal -/
def decOf (n : Nat) : List UInt8 := if n < 10 then [UInt8.ofNat (48 + n)] else decOf (n / 10) ++ [UInt8.ofNat (48 + n % 10)]
termination_by n
decreasing_by omega
theorem decOf_small {n : Nat} (h : n < 10) : decOf n = [UInt8.ofNat (48 + n)] := by rw [decOf, if_pos h]
theorem decOf_big {n : Nat} (h : ¬ n < 10) : decOf n = decOf (n / 10) ++ [UInt8.ofNat (48 + n % 10)] := by rw [decOf, if_neg h]
theorem dec_append (a b : List UInt8) : dec (a ++ b) = 10 ^ b.length * dec a + dec b := by
  induction a with
  | nil => simp [dec]
  | cons x a ih => simp only [List.cons_append, dec, List.length_append, ih, Nat.pow_add]; grind
theorem dec_snoc (a : List UInt8) (c : UInt8) : dec (a ++ [c]) = 10 * dec a + (c.toNat - 48) := by rw [dec_append]; simp [dec]
theorem dig_ofNat {n : Nat} (h : n < 10) : (UInt8.ofNat (48 + n)).toNat = 48 + n := by simp; omega
theorem isDig_ofNat {n : Nat} (h : n < 10) : isDig (UInt8.ofNat (48 + n)) = true := by unfold isDig; rw [dig_ofNat h]; simp; omega
theorem dec_decOf (n : Nat) : dec (decOf n) = n := by
  induction n using Nat.strongRecOn with
  | ind n ih =>
    by_cases h : n < 10
    · rw [decOf_small h, dec, dig_ofNat h, dec]; simp
    · rw [decOf_big h, dec_snoc, ih _ (by omega), dig_ofNat (by omega)]; omega
theorem digs_decOf (n : Nat) : digs (decOf n) = true := by
  induction n using Nat.strongRecOn with
  | ind n ih =>
    by_cases h : n < 10
    · rw [decOf_small h]; show (_ && true) = true; rw [isDig_ofNat h]; rfl
    · rw [decOf_big h]
      have := ih (n / 10) (by omega)
      unfold digs at this ⊢
      rw [List.all_append, this]
      show (true && (_ && true)) = true
      rw [isDig_ofNat (by omega : n % 10 < 10)]; rfl
theorem decOf_ne (n : Nat) : decOf n ≠ [] := by
  by_cases h : n < 10
  · rw [decOf_small h]; simp
  · rw [decOf_big h]; simp
theorem decOf_head {n : Nat} (h0 : n ≠ 0) : ∃ c l, decOf n = c :: l ∧ c ≠ 48 := by
  induction n using Nat.strongRecOn with
  | ind n ih =>
    by_cases h : n < 10
    · refine ⟨_, [], decOf_small h, fun e => ?_⟩
      have := congrArg UInt8.toNat e
      rw [dig_ofNat h] at this
      simp at this
      omega
    · obtain ⟨c, l, e, hc⟩ := ih (n / 10) (by omega) (by omega)
      exact ⟨c, l ++ [UInt8.ofNat (48 + n % 10)], by rw [decOf_big h, e]; rfl, hc⟩
theorem decOf_snoc {m : Nat} {c : UInt8} (hm : m ≠ 0) (hc : isDig c = true) : decOf (10 * m + (c.toNat - 48)) = decOf m ++ [c] := by
  simp only [isDig, Bool.and_eq_true, decide_eq_true_eq] at hc
  rw [decOf_big (by omega), show (10 * m + (c.toNat - 48)) / 10 = m by omega, show (10 * m + (c.toNat - 48)) % 10 = c.toNat - 48 by omega, show 48 + (c.toNat - 48) = c.toNat by omega]
  simp
theorem decOf_digit {c : UInt8} (hc : isDig c = true) : decOf (c.toNat - 48) = [c] := by
  simp only [isDig, Bool.and_eq_true, decide_eq_true_eq] at hc
  rw [decOf_small (by omega), show 48 + (c.toNat - 48) = c.toNat by omega]
  simp
theorem dropD_append (a b : List UInt8) : (a ++ b).dropWhile (· == 48) = if a.all (· == 48) then b.dropWhile (· == 48) else a.dropWhile (· == 48) ++ b := by
  induction a with
  | nil => simp
  | cons x a ih =>
    by_cases h : x = 48
    · subst h; simpa using ih
    · simp [h]
theorem dec_zeros {l : List UInt8} (hl : digs l = true) : dec l = 0 ↔ l.all (· == 48) = true := by
  induction l with
  | nil => simp [dec]
  | cons c l ih =>
    simp only [digs, List.all_cons, Bool.and_eq_true] at hl
    have ih := ih hl.2
    have hp : 0 < 10 ^ l.length := Nat.pow_pos (by omega)
    have hc := hl.1
    simp only [isDig, Bool.and_eq_true, decide_eq_true_eq] at hc
    simp only [dec, List.all_cons, Bool.and_eq_true, beq_iff_eq]
    rw [← ih]
    constructor
    · intro h
      have h1 : 10 ^ l.length * (c.toNat - 48) = 0 := by omega
      rcases Nat.mul_eq_zero.1 h1 with h2 | h2
      · omega
      · exact ⟨UInt8.toNat_inj.1 (by show c.toNat = 48; omega), by omega⟩
    · rintro ⟨rfl, h⟩
      simp [h]
/-- dropping leading zeros of digits leaves the number in decimal, or nothing for 0 -/
theorem dropD_eq {l : List UInt8} (hl : digs l = true) : l.dropWhile (· == 48) = if dec l = 0 then [] else decOf (dec l) := by
  induction h : l.length generalizing l with
  | zero =>
    have : l = [] := List.eq_nil_of_length_eq_zero h
    subst this
    simp [dec]
  | succ k ih =>
    have hne : l ≠ [] := fun e => by subst e; simp at h
    obtain ⟨a, c, rfl⟩ : ∃ a c, l = a ++ [c] := ⟨l.dropLast, l.getLast hne, (List.dropLast_concat_getLast hne).symm⟩
    have hk : a.length = k := by simpa using h
    unfold digs at hl
    rw [List.all_append, Bool.and_eq_true] at hl
    have ha : digs a = true := hl.1
    have hc : isDig c = true := by simpa using hl.2
    rw [dropD_append, dec_snoc]
    by_cases hz : a.all (· == 48) = true
    · rw [if_pos hz, (dec_zeros ha).2 hz]
      by_cases h0 : c = 48
      · subst h0; simp
      · have h1 : c.toNat ≠ 48 := fun e => h0 (UInt8.toNat_inj.1 e)
        have h2 := hc
        simp only [isDig, Bool.and_eq_true, decide_eq_true_eq] at h2
        rw [if_neg (by omega), Nat.mul_zero, Nat.zero_add, decOf_digit hc]
        simp [h0]
    · rw [if_neg hz, ih ha hk]
      have h0 : dec a ≠ 0 := fun e => hz ((dec_zeros ha).1 e)
      rw [if_neg h0, if_neg (by omega), decOf_snoc h0 hc]
theorem decOf_inj {a b : Nat} (h : decOf a = decOf b) : a = b := by rw [← dec_decOf a, ← dec_decOf b, h]
theorem dec_lt {l : List UInt8} (hl : digs l = true) : dec l < 10 ^ l.length := by
  induction l with
  | nil => simp [dec]
  | cons c l ih =>
    simp only [digs, List.all_cons, Bool.and_eq_true] at hl
    have ih := ih hl.2
    have hc := hl.1
    simp only [isDig, Bool.and_eq_true, decide_eq_true_eq] at hc
    simp only [dec, List.length_cons, Nat.pow_succ]
    have h2 : 10 ^ l.length * (c.toNat - 48) ≤ 10 ^ l.length * 9 := Nat.mul_le_mul_left _ (by omega)
    omega
theorem decOf_len_le {n k : Nat} (h : n < 10 ^ (k + 1)) : (decOf n).length ≤ k + 1 := by
  induction k generalizing n with
  | zero => rw [decOf_small (by simpa using h)]; simp
  | succ k ih =>
    by_cases h1 : n < 10
    · rw [decOf_small h1]; simp
    · rw [decOf_big h1]
      have := ih (n := n / 10) (by rw [Nat.pow_succ] at h; omega)
      simp; omega
/-- an integer in decimal: digits, no leading zero -/
def isInt (l : List UInt8) : Bool := digs l && decide (l ≠ []) && (decide (l = [48]) || decide (l.head? ≠ some 48))
theorem isInt_decOf (n : Nat) : isInt (decOf n) = true := by
  unfold isInt
  rw [digs_decOf]
  by_cases h : n = 0
  · subst h; rw [decOf_small (by omega)]; rfl
  · obtain ⟨c, l, e, hc⟩ := decOf_head h
    rw [e]
    simp [hc]
theorem decOf_dec {l : List UInt8} (h : isInt l = true) : decOf (dec l) = l := by
  unfold isInt at h
  simp only [Bool.and_eq_true, Bool.or_eq_true, decide_eq_true_eq] at h
  obtain ⟨⟨h1, h2⟩, h3⟩ := h
  rcases h3 with h3 | h3
  · subst h3; simp [dec, decOf_small]
  · rcases l with _ | ⟨c, l⟩
    · contradiction
    · have hc : c ≠ 48 := fun e => h3 (by rw [e]; rfl)
      have e := dropD_eq h1
      have e2 : (c :: l).dropWhile (· == 48) = c :: l := by simp [hc]
      rw [e2] at e
      by_cases h0 : dec (c :: l) = 0
      · rw [if_pos h0] at e; cases e
      · rw [if_neg h0] at e; exact e.symm
end Go.Proofs.YthppojbabkljpaaGreatDoor.RnD
