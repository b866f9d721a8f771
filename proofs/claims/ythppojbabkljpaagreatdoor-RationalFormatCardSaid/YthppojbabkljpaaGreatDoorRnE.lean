/- Plain: digits collected from the last one on; lists reversed in place. -/
import Derived.Test.YthppojbabkljpaaGreatDoorRnD
namespace Go.Proofs.YthppojbabkljpaaGreatDoor.RnE
open RnA RnB RnD
/-- the value of digits, the last one first -/
def ldec : List UInt8 → Nat
  | [] => 0
  | c :: l => (c.toNat - 48) + 10 * ldec l
theorem ldec_snoc (l : List UInt8) (c : UInt8) : ldec (l ++ [c]) = ldec l + 10 ^ l.length * (c.toNat - 48) := by
  induction l with
  | nil => simp [ldec]
  | cons x l ih => simp only [List.cons_append, ldec, ih, List.length_cons, Nat.pow_succ]; grind
theorem dec_reverse (l : List UInt8) : dec l.reverse = ldec l := by
  induction l with
  | nil => rfl
  | cons c l ih => rw [List.reverse_cons, dec_snoc, ih, ldec]; omega
theorem digs_snoc {l : List UInt8} {r : Nat} (h : digs l = true) (hr : r < 10) : digs (l ++ [UInt8.ofNat (48 + r)]) = true := by
  unfold digs at h ⊢
  rw [List.all_append, h]
  show (true && (_ && true)) = true
  rw [isDig_ofNat hr]; rfl
theorem digs_reverse {l : List UInt8} (h : digs l = true) : digs l.reverse = true := by
  unfold digs at h ⊢
  rw [List.all_eq_true] at h ⊢
  intro x hx
  exact h x (List.mem_reverse.1 hx)
/-- one digit more -/
theorem dig_round {D : List UInt8} {N r q k : Nat} (h : N = ldec D + 10 ^ D.length * (r + 10 ^ (k + 1) * q)) : N = ldec (D ++ [UInt8.ofNat (48 + r % 10)]) + 10 ^ (D ++ [UInt8.ofNat (48 + r % 10)]).length * (r / 10 + 10 ^ k * q) := by
  rw [ldec_snoc, dig_ofNat (Nat.mod_lt _ (by omega)), List.length_append, List.length_singleton, Nat.pow_succ, h, Nat.pow_succ]
  have e := Nat.div_add_mod r 10
  rw [show 48 + r % 10 - 48 = r % 10 by omega]
  generalize r % 10 = m at *
  generalize r / 10 = d at *
  grind
theorem dig_chunk {D : List UInt8} {N V : Nat} (h : N = ldec D + 10 ^ D.length * V) : N = ldec D + 10 ^ D.length * (V % 1000000000 + 10 ^ 9 * (V / 1000000000)) := by
  have e := Nat.div_add_mod V 1000000000
  rw [show (10 : Nat) ^ 9 = 1000000000 from rfl, Nat.add_comm (V % 1000000000), e]; exact h
theorem dig_fin {D : List UInt8} {N : Nat} (h : N = ldec D) (hd : digs D = true) (h0 : N ≠ 0) : D.reverse.dropWhile (· == 48) = decOf N := by
  rw [dropD_eq (digs_reverse hd), dec_reverse, ← h, if_neg h0]
/-- the digits of a number, collected one by one -/
def Wr (N : Nat) (D : List UInt8) (V : Nat) : Prop := if V = 0 then decOf N = D.reverse else decOf N = decOf V ++ D.reverse
theorem Wr.start {N : Nat} (h : N ≠ 0) : Wr N [] N := by unfold Wr; rw [if_neg h]; simp
theorem Wr.step {N V : Nat} {D : List UInt8} (h : Wr N D V) (hV : V ≠ 0) : Wr N (D ++ [UInt8.ofNat (48 + V % 10)]) (V / 10) := by
  unfold Wr at h ⊢
  rw [if_neg hV] at h
  by_cases h1 : V / 10 = 0
  · rw [if_pos h1, h, decOf_small (by omega), Nat.mod_eq_of_lt (by omega)]; simp
  · rw [if_neg h1, h, decOf_big (by omega)]; simp
/-- a list of bytes of which the first i and the last i have changed places -/
def Swapped (l m : List UInt8) (i : Nat) : Prop := m.length = l.length ∧ ∀ j, j < l.length → m[j]? = if j < i ∨ l.length - i ≤ j then l[l.length - 1 - j]? else l[j]?
theorem Swapped.start (l : List UInt8) : Swapped l l 0 := ⟨rfl, fun j hj => by rw [if_neg (by omega)]⟩
theorem Swapped.step {l m : List UInt8} {i : Nat} {x y : UInt8} (h : Swapped l m i) (hi : i + 1 ≤ l.length - 1 - i) (hx : m[i]? = some x) (hy : m[l.length - 1 - i]? = some y) : Swapped l ((m.set i y).set (l.length - 1 - i) x) (i + 1) := by
  obtain ⟨h1, h2⟩ := h
  have hx' := (h2 i (by omega)).symm.trans hx
  have hy' := (h2 (l.length - 1 - i) (by omega)).symm.trans hy
  rw [if_neg (by omega)] at hx' hy'
  refine ⟨by rw [List.length_set, List.length_set, h1], fun j hj => ?_⟩
  rw [List.getElem?_set, List.getElem?_set, List.length_set, h1]
  by_cases e1 : l.length - 1 - i = j
  · rw [if_pos e1, if_pos (by omega), if_pos (by omega), ← e1, show l.length - 1 - (l.length - 1 - i) = i by omega, hx']
  · rw [if_neg e1]
    by_cases e2 : i = j
    · subst e2
      rw [if_pos rfl, if_pos (by omega), if_pos (by omega), hy']
    · rw [if_neg e2, h2 j hj]
      by_cases h3 : j < i ∨ l.length - i ≤ j
      · rw [if_pos h3, if_pos (by omega)]
      · rw [if_neg h3, if_neg (by omega)]
theorem Swapped.finish {l m : List UInt8} {i : Nat} (h : Swapped l m i) (hi : l.length - 1 - i ≤ i) (hi2 : 2 * i ≤ l.length) : m = l.reverse := by
  obtain ⟨h1, h2⟩ := h
  refine List.ext_getElem? fun j => ?_
  by_cases hj : j < l.length
  · rw [h2 j hj, List.getElem?_reverse hj]
    by_cases h3 : j < i ∨ l.length - i ≤ j
    · rw [if_pos h3]
    · rw [if_neg h3]; congr 1; omega
  · rw [List.getElem?_eq_none (by omega), List.getElem?_eq_none (by simp; omega)]
end Go.Proofs.YthppojbabkljpaaGreatDoor.RnE
