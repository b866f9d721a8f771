/- Plain: shifts of lists of limbs; the loop over the digits of a quotient. -/
import Derived.Test.YthppojbabkljpaaGreatDoorRnM
namespace Go.Proofs.YthppojbabkljpaaGreatDoor.RnL
open RnA RnB RnS RnC RnK RnM
theorem limb_lt {l : List Nat} {i x P : Nat} (h : lval l < 4294967296 ^ i * P) (hx : l[i]? = some x) : x < P := by
  have hl : i < l.length := (List.getElem?_eq_some_iff.1 hx).1
  have e := lval_split l i (by omega)
  rw [lval_drop_at hx] at e
  have h1 : 4294967296 ^ i * x ≤ lval l := by
    rw [e]
    exact Nat.le_trans (Nat.mul_le_mul_left _ (by omega)) (Nat.le_add_left _ _)
  exact Nat.lt_of_mul_lt_mul_left (Nat.lt_of_le_of_lt h1 h)
theorem pow32 (s : Nat) (hs : s ≤ 32) : 4294967296 = 2 ^ s * 2 ^ (32 - s) := by rw [← Nat.pow_add, show s + (32 - s) = 32 by omega]
theorem or_low {s x m : Nat} (h : x < 2 ^ s) : x ||| 2 ^ s * m = x + 2 ^ s * m := by
  rw [Nat.or_comm, ← Nat.two_pow_add_eq_or_of_lt h, Nat.add_comm]
/-- the low limb of a shifted limb is laid over what was carried -/
theorem or_shift {s x a : Nat} (hs : s ≤ 32) (h : x < 2 ^ s) : x ||| (a * 2 ^ s) % 4294967296 = x + (a * 2 ^ s) % 4294967296 := by
  have e : (a * 2 ^ s) % 4294967296 = 2 ^ s * (a % 2 ^ (32 - s)) := by
    rw [pow32 s hs, Nat.mul_comm a, Nat.mul_mod_mul_left]
  rw [e, or_low h]
theorem shl_bounds {s x a : Nat} (hs : s ≤ 31) (h : x < 2 ^ s) (ha : a < 4294967296) : x + (a * 2 ^ s) % 4294967296 < 4294967296 ∧ (a * 2 ^ s) / 4294967296 < 2 ^ s ∧ a * 2 ^ s < 18446744073709551616 := by
  have e : (a * 2 ^ s) % 4294967296 = 2 ^ s * (a % 2 ^ (32 - s)) := by
    rw [pow32 s (by omega), Nat.mul_comm a, Nat.mul_mod_mul_left]
  have h1 : a % 2 ^ (32 - s) < 2 ^ (32 - s) := Nat.mod_lt _ (Nat.pow_pos (by omega))
  have hp : 2 ^ s ≤ 2 ^ 31 := Nat.pow_le_pow_right (by omega) hs
  have hp31 : (2 : Nat) ^ 31 = 2147483648 := rfl
  refine ⟨?_, ?_, ?_⟩
  · rw [e]
    have h2 : 2 ^ s * (a % 2 ^ (32 - s)) + 2 ^ s ≤ 2 ^ s * 2 ^ (32 - s) := by rw [← Nat.mul_succ]; exact Nat.mul_le_mul_left _ h1
    rw [← pow32 s (by omega)] at h2
    omega
  · refine (Nat.div_lt_iff_lt_mul (by omega)).2 ?_
    rw [Nat.mul_comm (2 ^ s)]
    exact Nat.mul_lt_mul_of_pos_right ha (Nat.pow_pos (by omega))
  · have : a * 2 ^ s ≤ 4294967295 * 2147483648 := Nat.mul_le_mul (by omega) (by omega)
    omega
/-- a round of a shift to the left -/
theorem shl_round {a out : List Nat} {i s x v : Nat} (h : lval out = lval (a.take i) * 2 ^ s) (hv : a[i]? = some v) (hx : out[i]? = some x) (hy : out[i + 1]? = some 0) :
    lval ((out.set i (x + (v * 2 ^ s) % 4294967296)).set (i + 1) ((v * 2 ^ s) / 4294967296)) = lval (a.take (i + 1)) * 2 ^ s := by
  have h1 := lval_set (y := x + (v * 2 ^ s) % 4294967296) hx
  have hy' : (out.set i (x + (v * 2 ^ s) % 4294967296))[i + 1]? = some 0 := by rw [List.getElem?_set_ne (by omega)]; exact hy
  have h2 := lval_set (y := (v * 2 ^ s) / 4294967296) hy'
  rw [lval_take_at hv]
  have e := Nat.div_add_mod (v * 2 ^ s) 4294967296
  rw [Nat.pow_succ] at h2
  generalize v * 2 ^ s % 4294967296 = lo at *
  generalize v * 2 ^ s / 4294967296 = hi at *
  grind
theorem shl_round_last {a out : List Nat} {i s x v : Nat} (h : lval out = lval (a.take i) * 2 ^ s) (hv : a[i]? = some v) (hx : out[i]? = some x) (hz : (v * 2 ^ s) / 4294967296 = 0) :
    lval (out.set i (x + (v * 2 ^ s) % 4294967296)) = lval (a.take (i + 1)) * 2 ^ s := by
  have h1 := lval_set (y := x + (v * 2 ^ s) % 4294967296) hx
  rw [lval_take_at hv]
  have e := Nat.div_add_mod (v * 2 ^ s) 4294967296
  rw [hz] at e
  generalize v * 2 ^ s % 4294967296 = lo at *
  grind
theorem shl_small {a : List Nat} {i s : Nat} (hok : Ok a) (hi : i ≤ a.length) : lval (a.take i) * 2 ^ s < 4294967296 ^ i * 2 ^ s := by
  have h := lval_lt (hok.take i)
  rw [take_len hi] at h
  exact Nat.mul_lt_mul_of_pos_right h (Nat.pow_pos (by omega))
/-- a list of limbs shifted to the right -/
def ush (s : Nat) : List Nat → List Nat
  | [] => []
  | x :: l => (x + 4294967296 * dig l 0) / 2 ^ s % 4294967296 :: ush s l
theorem ush_length (s : Nat) (l : List Nat) : (ush s l).length = l.length := by
  induction l with
  | nil => rfl
  | cons x l ih => simp [ush, ih]
theorem ush_at (s : Nat) {l : List Nat} {k x : Nat} (h : l[k]? = some x) : (ush s l)[k]? = some ((x + 4294967296 * dig l (k + 1)) / 2 ^ s % 4294967296) := by
  induction l generalizing k with
  | nil => simp at h
  | cons y l ih =>
    cases k with
    | zero => simp at h; subst h; simp [ush, dig]
    | succ k =>
      have := ih (k := k) (by simpa using h)
      simpa [ush, dig] using this
theorem ush_ok (s : Nat) (l : List Nat) : Ok (ush s l) := by
  induction l with
  | nil => exact Ok.nil
  | cons x l ih => exact Ok.cons (Nat.mod_lt _ (by omega)) ih
theorem dig0_mod {l : List Nat} {s : Nat} (hs : s ≤ 32) : lval l % 2 ^ s = dig l 0 % 2 ^ s := by
  cases l with
  | nil => simp [lval, dig]
  | cons x l =>
    rw [lval, pow32 s hs, Nat.mul_assoc, Nat.add_mul_mod_self_left]
    simp [dig]
theorem ush_val {s : Nat} (hs : s ≤ 31) {l : List Nat} (h : Ok l) : lval (ush s l) = lval l / 2 ^ s := by
  induction l with
  | nil => simp [ush, lval]
  | cons x l ih =>
    rw [ush, lval, lval, ih h.tail]
    have hp : 0 < 2 ^ s := Nat.pow_pos (by omega)
    have hx := h.head
    have hm := dig0_mod (l := l) (s := s) (by omega)
    have e1 := Nat.div_add_mod (lval l) (2 ^ s)
    have e2 := Nat.div_add_mod (dig l 0) (2 ^ s)
    rw [← hm] at e2
    have hr := Nat.mod_lt (lval l) hp
    generalize lval l % 2 ^ s = r at e1 e2 hr
    generalize lval l / 2 ^ s = qv at e1 ⊢
    generalize dig l 0 / 2 ^ s = qd at e2
    have f1 : x + 4294967296 * lval l = x + 4294967296 * r + 2 ^ s * (4294967296 * qv) := by rw [← e1]; grind
    have f2 : x + 4294967296 * dig l 0 = x + 4294967296 * r + 2 ^ s * (4294967296 * qd) := by rw [← e2]; grind
    rw [f1, f2, Nat.add_mul_div_left _ _ hp, Nat.add_mul_div_left _ _ hp, Nat.add_mul_mod_self_left]
    have hlt : (x + 4294967296 * r) / 2 ^ s < 4294967296 := by
      refine (Nat.div_lt_iff_lt_mul hp).2 ?_
      have : 4294967296 * (r + 1) ≤ 4294967296 * 2 ^ s := Nat.mul_le_mul_left _ hr
      omega
    rw [Nat.mod_eq_of_lt hlt]
/-- the state of the loop over the digits of a quotient: the digits qs from index i up are found -/
def DivInv (U0 D : Nat) (u qs : List Nat) (i : Nat) : Prop := U0 = lval qs * 4294967296 ^ i * D + lval u ∧ lval (u.drop i) < D
theorem DivInv.step {U0 D i : Nat} {pre W W' post qs : List Nat} (h : DivInv U0 D (pre ++ W ++ post) qs (i + 1)) (hi : pre.length = i) (hp : lval post = 0) (hW' : lval W' = lval W % D) (hD : 0 < D) :
    DivInv U0 D (pre ++ W' ++ post) (lval W / D :: qs) i := by
  obtain ⟨h1, _⟩ := h
  have hm := Nat.mod_lt (lval W) hD
  have hdm := Nat.div_add_mod (lval W) D
  constructor
  · rw [h1, List.append_assoc, List.append_assoc, lval_append, lval_append, lval_append, lval_append, hp, hi, lval, hW', Nat.pow_succ]
    generalize lval W % D = r at *
    generalize lval W / D = q at *
    grind
  · rw [List.append_assoc, ← hi, List.drop_left, lval_append, hp, hW']
    omega
/-- the window below a quotient's digit -/
theorem DivInv.window {U0 D n i : Nat} {pre W post qs : List Nat} (h : DivInv U0 D (pre ++ W ++ post) qs (i + 1)) (hi : pre.length = i) (hW : W.length = n + 1) (hok : Ok (pre ++ W ++ post)) (hD : D < 4294967296 ^ n) :
    lval post = 0 ∧ lval W < D * 4294967296 := by
  obtain ⟨_, h2⟩ := h
  obtain ⟨x, W1, rfl⟩ : ∃ x W1, W = x :: W1 := by
    cases W with
    | nil => simp at hW
    | cons x l => exact ⟨x, l, rfl⟩
  have e : (pre ++ x :: W1 ++ post).drop (i + 1) = W1 ++ post := by
    rw [List.append_assoc, ← hi, ← List.drop_drop, List.drop_left]; rfl
  rw [e, lval_append] at h2
  have hl : W1.length = n := by simpa using hW
  have hx : x < 4294967296 := hok x (by simp)
  have hp : lval post = 0 := by
    rcases Nat.eq_zero_or_pos (lval post) with h0 | h0
    · exact h0
    · have : 4294967296 ^ W1.length * 1 ≤ 4294967296 ^ W1.length * lval post := Nat.mul_le_mul_left _ h0
      rw [hl] at this h2
      omega
  refine ⟨hp, ?_⟩
  rw [hp] at h2
  rw [lval]
  have : (lval W1 + 1) * 4294967296 ≤ D * 4294967296 := Nat.mul_le_mul_right _ (by omega)
  omega
/-- where the loop starts -/
theorem DivInv.start {U0 D s n m : Nat} {a u : List Nat} (ha : Ok a) (hu : lval u = U0) (hU : U0 = lval a * 2 ^ s) (hs : s ≤ 31) (hal : a.length + 1 = m + n) (hul : u.length = m + n) (hn : 0 < n) (hD : 2147483648 * 4294967296 ^ (n - 1) ≤ D) : DivInv U0 D u [] m := by
  refine ⟨by rw [hu]; simp [lval], ?_⟩
  have e := lval_split u m (by omega)
  have hlt := lval_lt ha
  have h1 : 4294967296 ^ m * lval (u.drop m) < 4294967296 ^ m * D := by
    have h2 : 4294967296 ^ m * lval (u.drop m) ≤ lval a * 2 ^ s := by rw [← hU, ← hu, e]; exact Nat.le_add_left _ _
    have h3 : lval a * 2 ^ s < 4294967296 ^ a.length * 2 ^ s := Nat.mul_lt_mul_of_pos_right hlt (Nat.pow_pos (by omega))
    have h4 : 4294967296 ^ a.length = 4294967296 ^ m * 4294967296 ^ (n - 1) := by rw [← Nat.pow_add]; congr 1; omega
    have h5 : 2 ^ s ≤ 2147483648 := Nat.pow_le_pow_right (by omega) hs
    have h6 : 4294967296 ^ m * 4294967296 ^ (n - 1) * 2 ^ s ≤ 4294967296 ^ m * D := by
      rw [Nat.mul_assoc]
      refine Nat.mul_le_mul_left _ (Nat.le_trans ?_ hD)
      rw [Nat.mul_comm]
      exact Nat.mul_le_mul_right _ h5
    rw [h4] at h3
    exact Nat.lt_of_le_of_lt h2 (Nat.lt_of_lt_of_le h3 h6)
  exact Nat.lt_of_mul_lt_mul_left h1
/-- what the loop has found at its end -/
theorem DivInv.finish {A Bv s : Nat} {u qs : List Nat} (h : DivInv (A * 2 ^ s) (Bv * 2 ^ s) u qs 0) : lval qs = A / Bv ∧ lval u / 2 ^ s = A % Bv := by
  obtain ⟨h1, h2⟩ := h
  have hp : 0 < 2 ^ s := Nat.pow_pos (by omega)
  simp only [Nat.pow_zero, Nat.mul_one, List.drop_zero] at h1 h2
  have hdvd : 2 ^ s ∣ lval u := by
    have e : lval u = 2 ^ s * A - 2 ^ s * (lval qs * Bv) := by
      have : lval qs * (Bv * 2 ^ s) = 2 ^ s * (lval qs * Bv) := by grind
      have : A * 2 ^ s = 2 ^ s * A := Nat.mul_comm _ _
      omega
    rw [e, ← Nat.mul_sub]
    exact Nat.dvd_mul_right _ _
  obtain ⟨r, hr⟩ := hdvd
  rw [hr] at h1 h2
  have h3 : A = Bv * lval qs + r := by
    have : 2 ^ s * A = 2 ^ s * (Bv * lval qs + r) := by grind
    exact Nat.eq_of_mul_eq_mul_left hp this
  have h4 : r < Bv := by
    rw [Nat.mul_comm] at h2
    exact Nat.lt_of_mul_lt_mul_right h2
  rw [hr, Nat.mul_div_cancel_left _ hp]
  constructor
  · rw [h3, Nat.mul_add_div (by omega), Nat.div_eq_of_lt h4, Nat.add_zero]
  · rw [h3, Nat.mul_add_mod, Nat.mod_eq_of_lt h4]
end Go.Proofs.YthppojbabkljpaaGreatDoor.RnL
