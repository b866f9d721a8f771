/- Plain: a list of limbs times a limb plus a limb, in place. -/
import Derived.Test.YthppojbabkljpaaGreatDoorRnM
namespace Go.Proofs.YthppojbabkljpaaGreatDoor.RnN
open RnA RnB RnS RnC RnM
def MulAdd (f c0 : Nat) (W W' : List Nat) (k c : Nat) : Prop :=
  W'.length = W.length ∧ W'.drop k = W.drop k ∧ lval (W'.take k) + c * 4294967296 ^ k = f * lval (W.take k) + c0
theorem MulAdd.start (f c0 : Nat) (W : List Nat) : MulAdd f c0 W W 0 c0 := ⟨rfl, rfl, by simp [lval]⟩
theorem MulAdd.step {f c0 k c x : Nat} {W W' : List Nat} (h : MulAdd f c0 W W' k c) (hx : W[k]? = some x) : MulAdd f c0 W (W'.set k ((x * f + c) % 4294967296)) (k + 1) ((x * f + c) / 4294967296) := by
  obtain ⟨h1, h2, h3⟩ := h
  have hk : k < W.length := (List.getElem?_eq_some_iff.1 hx).1
  refine ⟨by rw [List.length_set, h1], by rw [drop_set_succ]; exact drop_succ_of h2, ?_⟩
  rw [take_set_succ (by omega), lval_snoc, take_len (by omega), lval_take_at hx, Nat.pow_succ]
  have e := Nat.div_add_mod (x * f + c) 4294967296
  generalize (x * f + c) % 4294967296 = lo at *
  generalize (x * f + c) / 4294967296 = hi at *
  grind
theorem MulAdd.fin0 {f c0 : Nat} {W W' : List Nat} (h : MulAdd f c0 W W' W.length 0) : lval W' = f * lval W + c0 := by
  obtain ⟨h1, _, h3⟩ := h
  rw [lval_take_all (by omega), lval_take_all (by omega)] at h3
  omega
theorem MulAdd.fin1 {f c0 c : Nat} {W W' : List Nat} (h : MulAdd f c0 W W' W.length c) : lval (W' ++ [c]) = f * lval W + c0 := by
  obtain ⟨h1, _, h3⟩ := h
  rw [lval_take_all (by omega), lval_take_all (by omega)] at h3
  rw [lval_snoc, h1, Nat.mul_comm _ c]
  exact h3
/-- no zero at the end -/
def Cn (l : List Nat) : Prop := l = [] ∨ 4294967296 ^ (l.length - 1) ≤ lval l
theorem MulAdd.cn0 {f c0 : Nat} {W W' : List Nat} (h : MulAdd f c0 W W' W.length 0) (hf : 1 ≤ f) (hc : Cn W) : Cn W' := by
  have hv := h.fin0
  have h1 := h.1
  rcases hc with rfl | hc
  · left; exact List.eq_nil_of_length_eq_zero h1
  · right
    rw [h1, hv]
    have : 1 * lval W ≤ f * lval W := Nat.mul_le_mul_right _ hf
    omega
theorem cn_snoc {c : Nat} {W' : List Nat} (hc : 0 < c) : Cn (W' ++ [c]) := by
  right
  rw [lval_snoc, List.length_append, List.length_singleton, Nat.add_sub_cancel]
  have : 4294967296 ^ W'.length * 1 ≤ 4294967296 ^ W'.length * c := Nat.mul_le_mul_left _ hc
  omega
theorem Cn.limbs {l : List Nat} (h : Cn l) (ho : Ok l) : l = limbs (lval l) := canon_of_ge ho h
end Go.Proofs.YthppojbabkljpaaGreatDoor.RnN
