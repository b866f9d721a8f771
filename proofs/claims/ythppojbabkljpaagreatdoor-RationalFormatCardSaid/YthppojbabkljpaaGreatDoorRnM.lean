/- Plain: the rounds of long division: multiply and subtract, add back, shifts. -/
import Derived.Test.YthppojbabkljpaaGreatDoorRnC
import Derived.Test.YthppojbabkljpaaGreatDoorRnK
namespace Go.Proofs.YthppojbabkljpaaGreatDoor.RnM
open RnA RnB RnS RnC RnK
/-- a round of multiply-and-subtract: the first k limbs are done -/
def MulSub (g : Nat) (d W W' : List Nat) (k c b : Nat) : Prop :=
  W'.length = W.length ∧ W'.drop k = W.drop k ∧ lval (W'.take k) + g * lval (d.take k) = lval (W.take k) + (c + b) * 4294967296 ^ k
theorem MulSub.start (g : Nat) (d W : List Nat) : MulSub g d W W 0 0 0 := ⟨rfl, rfl, by simp [lval]⟩
theorem getElem?_of_drop {a b : List Nat} {k : Nat} (h : a.drop k = b.drop k) : a[k]? = b[k]? := by
  have := congrArg (fun l => l[0]?) h
  simpa [List.getElem?_drop] using this
theorem take_set_succ {l : List Nat} {k y : Nat} (h : k < l.length) : (l.set k y).take (k + 1) = l.take k ++ [y] := by
  rw [take_at (x := y) (by rw [List.getElem?_set_self h]), List.take_set_of_le (Nat.le_refl _)]
theorem drop_set_succ {l : List Nat} {k y : Nat} : (l.set k y).drop (k + 1) = l.drop (k + 1) := by
  rw [List.drop_set_of_lt (by omega)]
theorem drop_succ_of {a b : List Nat} {k : Nat} (h : a.drop k = b.drop k) : a.drop (k + 1) = b.drop (k + 1) := by
  rw [← List.drop_drop, ← List.drop_drop, h]
/-- diff: what is left of limb k; t = g * d_k + c; its low half and b were taken off -/
theorem MulSub.step {g k c b v x diff b' : Nat} {d W W' : List Nat} (h : MulSub g d W W' k c b) (hv : d[k]? = some v) (hx : W[k]? = some x) (hd : diff + (g * v + c) % 4294967296 + b = x + b' * 4294967296) :
    MulSub g d W (W'.set k diff) (k + 1) ((g * v + c) / 4294967296) b' := by
  obtain ⟨h1, h2, h3⟩ := h
  have hk : k < W.length := (List.getElem?_eq_some_iff.1 hx).1
  refine ⟨by rw [List.length_set, h1], by rw [drop_set_succ]; exact drop_succ_of h2, ?_⟩
  rw [take_set_succ (by omega), lval_snoc, take_len (by omega), lval_take_at hv, lval_take_at hx, Nat.pow_succ]
  have e := Nat.div_add_mod (g * v + c) 4294967296
  generalize (g * v + c) % 4294967296 = lo at *
  generalize (g * v + c) / 4294967296 = hi at *
  grind
/-- the last limb: c and b are taken off -/
theorem MulSub.last {g n c b x diff b' : Nat} {d W W' : List Nat} (h : MulSub g d W W' n c b) (hn : d.length = n) (hW : W.length = n + 1) (hx : W[n]? = some x) (hd : diff + c + b = x + b' * 4294967296) :
    lval (W'.set n diff) + g * lval d = lval W + b' * 4294967296 ^ (n + 1) ∧ (W'.set n diff).length = n + 1 := by
  obtain ⟨h1, h2, h3⟩ := h
  have hl : (W'.set n diff).length = n + 1 := by rw [List.length_set, h1, hW]
  refine ⟨?_, hl⟩
  have e1 : lval (W'.set n diff) = lval (W'.take n) + 4294967296 ^ n * diff := by
    have := take_set_succ (l := W') (k := n) (y := diff) (by omega)
    rw [List.take_of_length_le (by omega)] at this
    rw [this, lval_snoc, take_len (by omega)]
  have e2 : lval W = lval (W.take n) + 4294967296 ^ n * x := by
    rw [← lval_take_at hx, List.take_of_length_le (by omega)]
  have e3 : lval (d.take n) = lval d := lval_take_all (by omega)
  rw [e1, e2, ← e3, Nat.pow_succ]
  grind
/-- a round of adding the divisor back -/
def AddBack (d W W' : List Nat) (k c : Nat) : Prop :=
  W'.length = W.length ∧ W'.drop k = W.drop k ∧ lval (W'.take k) + c * 4294967296 ^ k = lval (W.take k) + lval (d.take k)
theorem AddBack.start (d W : List Nat) : AddBack d W W 0 0 := ⟨rfl, rfl, by simp [lval]⟩
theorem AddBack.step {k c v x : Nat} {d W W' : List Nat} (h : AddBack d W W' k c) (hv : d[k]? = some v) (hx : W[k]? = some x) :
    AddBack d W (W'.set k ((x + v + c) % 4294967296)) (k + 1) ((x + v + c) / 4294967296) := by
  obtain ⟨h1, h2, h3⟩ := h
  have hk : k < W.length := (List.getElem?_eq_some_iff.1 hx).1
  refine ⟨by rw [List.length_set, h1], by rw [drop_set_succ]; exact drop_succ_of h2, ?_⟩
  rw [take_set_succ (by omega), lval_snoc, take_len (by omega), lval_take_at hv, lval_take_at hx, Nat.pow_succ]
  have e := Nat.div_add_mod (x + v + c) 4294967296
  generalize (x + v + c) % 4294967296 = lo at *
  generalize (x + v + c) / 4294967296 = hi at *
  grind
theorem AddBack.last {n c x : Nat} {d W W' : List Nat} (h : AddBack d W W' n c) (hn : d.length = n) (hW : W.length = n + 1) (hx : W[n]? = some x) :
    lval (W'.set n ((x + c) % 4294967296)) + (x + c) / 4294967296 * 4294967296 ^ (n + 1) = lval W + lval d ∧ (W'.set n ((x + c) % 4294967296)).length = n + 1 := by
  obtain ⟨h1, h2, h3⟩ := h
  refine ⟨?_, by rw [List.length_set, h1, hW]⟩
  have e1 : lval (W'.set n ((x + c) % 4294967296)) = lval (W'.take n) + 4294967296 ^ n * ((x + c) % 4294967296) := by
    have := take_set_succ (l := W') (k := n) (y := (x + c) % 4294967296) (by omega)
    rw [List.take_of_length_le (by rw [List.length_set]; omega)] at this
    rw [this, lval_snoc, take_len (by omega)]
  have e2 : lval W = lval (W.take n) + 4294967296 ^ n * x := by
    rw [← lval_take_at hx, List.take_of_length_le (by omega)]
  have e3 : lval (d.take n) = lval d := lval_take_all (by omega)
  have e := Nat.div_add_mod (x + c) 4294967296
  rw [e1, e2, ← e3, Nat.pow_succ]
  generalize (x + c) % 4294967296 = lo at *
  generalize (x + c) / 4294967296 = hi at *
  grind
/-- the window and the divisor by their greatest limbs -/
theorem top_split {l : List Nat} {k x y : Nat} (hl : l.length = k + 2) (hx : l[k + 1]? = some x) (hy : l[k]? = some y) : lval l = (x * 4294967296 + y) * 4294967296 ^ k + lval (l.take k) := by
  have h := lval_split l k (by omega)
  rw [lval_drop_at hy, lval_drop_at hx, List.drop_eq_nil_of_le (by omega), lval] at h
  grind
theorem top_split3 {l : List Nat} {k x y z : Nat} (hl : l.length = k + 3) (hx : l[k + 2]? = some x) (hy : l[k + 1]? = some y) (hz : l[k]? = some z) : lval l = ((x * 4294967296 + y) * 4294967296 + z) * 4294967296 ^ k + lval (l.take k) := by
  have h := lval_split l k (by omega)
  rw [lval_drop_at hz, lval_drop_at hy, lval_drop_at hx, List.drop_eq_nil_of_le (by omega), lval] at h
  grind
theorem est_bound {P t D2 : Nat} (h : t < P) : (D2 * P + t) * 4294967296 ≤ (D2 + 1) * 4294967296 * P := by
  have : t * 4294967296 ≤ P * 4294967296 := Nat.mul_le_mul_right _ (by omega)
  grind
/-- the estimate at a window of a division -/
theorem est_window {d W : List Nat} {k x y z v1 v2 : Nat} (hdo : Ok d) (hWo : Ok W) (hd : d.length = k + 2) (hW : W.length = k + 3) (hx : W[k + 2]? = some x) (hy : W[k + 1]? = some y) (hz : W[k]? = some z) (hv1 : d[k + 1]? = some v1) (hv2 : d[k]? = some v2) (h1 : 2147483648 ≤ v1) (hlt : lval W < lval d * 4294967296) :
    lval W / lval d ≤ est (x * 4294967296 + y) z v1 v2 ∧ est (x * 4294967296 + y) z v1 v2 ≤ lval W / lval d + 1 ∧ x * 4294967296 + y < (v1 + 1) * 4294967296 := by
  have e1 := top_split hd hv1 hv2
  have e2 := top_split3 hW hx hy hz
  have b1 := lval_lt (hdo.take k)
  have b2 := lval_lt (hWo.take k)
  rw [take_len (by omega)] at b1 b2
  have hp := pow_pos k
  rw [e1, e2] at hlt ⊢
  obtain ⟨h2, h3⟩ := est_quot (top := x * 4294967296 + y) (u := z) (v1 := v1) (v2 := v2) rfl rfl hp (by omega) b2 b1 hlt
  refine ⟨h2, h3, ?_⟩
  rcases Nat.lt_or_ge (x * 4294967296 + y) ((v1 + 1) * 4294967296) with h | h
  · exact h
  · exfalso
    have hv2' : v2 < 4294967296 := hdo.at_ hv2
    have h4 : (v1 * 4294967296 + v2 + 1) * 4294967296 ≤ (x * 4294967296 + y) * 4294967296 + z := by
      have h7 : v1 * 4294967296 + v2 + 1 ≤ x * 4294967296 + y := by omega
      exact Nat.le_trans (Nat.mul_le_mul_right 4294967296 h7) (Nat.le_add_right _ _)
    have h5 : (v1 * 4294967296 + v2 + 1) * 4294967296 * 4294967296 ^ k ≤ ((x * 4294967296 + y) * 4294967296 + z) * 4294967296 ^ k := Nat.mul_le_mul_right (4294967296 ^ k) h4
    have h6 := est_bound (D2 := v1 * 4294967296 + v2) b1
    omega
end Go.Proofs.YthppojbabkljpaaGreatDoor.RnM
