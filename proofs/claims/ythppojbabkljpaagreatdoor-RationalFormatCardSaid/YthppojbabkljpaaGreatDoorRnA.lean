/- Plain: natural numbers as lists of digits in base 2^32, the least significant one first. -/
import Derived.Below
namespace Go.Proofs.YthppojbabkljpaaGreatDoor.RnA
/-- the value of a list of limbs -/
def lval : List Nat → Nat
  | [] => 0
  | x :: l => x + 4294967296 * lval l
/-- every limb is below 2^32 -/
def Ok (l : List Nat) : Prop := ∀ x ∈ l, x < 4294967296
/-- the limbs of a number, without zeros at the end -/
def limbs (n : Nat) : List Nat := if n = 0 then [] else n % 4294967296 :: limbs (n / 4294967296)
termination_by n
decreasing_by omega
theorem limbs_zero : limbs 0 = [] := by rw [limbs, if_pos rfl]
theorem limbs_pos {n : Nat} (h : n ≠ 0) : limbs n = n % 4294967296 :: limbs (n / 4294967296) := by rw [limbs, if_neg h]
theorem limbs_cons {x m : Nat} (hx : x < 4294967296) (h : x + 4294967296 * m ≠ 0) : limbs (x + 4294967296 * m) = x :: limbs m := by
  rw [limbs_pos h, show (x + 4294967296 * m) % 4294967296 = x by omega, show (x + 4294967296 * m) / 4294967296 = m by omega]
theorem lval_limbs (n : Nat) : lval (limbs n) = n := by
  induction n using Nat.strongRecOn with
  | ind n ih =>
    by_cases h : n = 0
    · subst h; rw [limbs_zero]; rfl
    · rw [limbs_pos h, lval, ih _ (by omega)]; omega
theorem Ok.nil : Ok [] := fun _ h => by cases h
theorem Ok.cons {x : Nat} {l : List Nat} (hx : x < 4294967296) (h : Ok l) : Ok (x :: l) := fun y hy => by
  rcases List.mem_cons.1 hy with rfl | hy
  · exact hx
  · exact h y hy
theorem Ok.head {x : Nat} {l : List Nat} (h : Ok (x :: l)) : x < 4294967296 := h x (List.mem_cons_self ..)
theorem Ok.tail {x : Nat} {l : List Nat} (h : Ok (x :: l)) : Ok l := fun y hy => h y (List.mem_cons_of_mem _ hy)
theorem Ok.append {l m : List Nat} (h : Ok l) (h' : Ok m) : Ok (l ++ m) := fun y hy => (List.mem_append.1 hy).elim (h y) (h' y)
theorem Ok.take {l : List Nat} (h : Ok l) (k : Nat) : Ok (l.take k) := fun y hy => h y (List.mem_of_mem_take hy)
theorem Ok.drop {l : List Nat} (h : Ok l) (k : Nat) : Ok (l.drop k) := fun y hy => h y (List.mem_of_mem_drop hy)
theorem Ok.set {l : List Nat} (h : Ok l) (k : Nat) {x : Nat} (hx : x < 4294967296) : Ok (l.set k x) := fun y hy => by
  rcases List.mem_or_eq_of_mem_set hy with h1 | rfl
  · exact h y h1
  · exact hx
theorem Ok.at_ {l : List Nat} (h : Ok l) {k x : Nat} (hk : l[k]? = some x) : x < 4294967296 := h x (List.mem_of_getElem? hk)
theorem Ok.replicate (n : Nat) : Ok (List.replicate n 0) := fun y hy => by rw [(List.mem_replicate.1 hy).2]; omega
theorem limbs_ok (n : Nat) : Ok (limbs n) := by
  induction n using Nat.strongRecOn with
  | ind n ih =>
    by_cases h : n = 0
    · subst h; rw [limbs_zero]; exact Ok.nil
    · rw [limbs_pos h]; exact Ok.cons (by omega) (ih _ (by omega))
theorem lval_append (a b : List Nat) : lval (a ++ b) = lval a + 4294967296 ^ a.length * lval b := by
  induction a with
  | nil => simp [lval]
  | cons x a ih => simp only [List.cons_append, lval, List.length_cons, ih, Nat.pow_succ]; grind
theorem lval_snoc (a : List Nat) (x : Nat) : lval (a ++ [x]) = lval a + 4294967296 ^ a.length * x := by rw [lval_append]; simp [lval]
theorem lval_split (l : List Nat) (k : Nat) (hk : k ≤ l.length) : lval l = lval (l.take k) + 4294967296 ^ k * lval (l.drop k) := by
  have h := lval_append (l.take k) (l.drop k)
  rw [List.take_append_drop, List.length_take, Nat.min_eq_left hk] at h
  exact h
theorem lval_replicate (n : Nat) : lval (List.replicate n 0) = 0 := by
  induction n with
  | zero => rfl
  | succ n ih => rw [List.replicate_succ, lval, ih]
theorem lval_lt {l : List Nat} (h : Ok l) : lval l < 4294967296 ^ l.length := by
  induction l with
  | nil => simp [lval]
  | cons x l ih =>
    have h1 := ih h.tail
    have h2 := h.head
    simp only [lval, List.length_cons, Nat.pow_succ]
    omega
theorem take_at {α : Type} {l : List α} {k : Nat} {x : α} (hk : l[k]? = some x) : l.take (k + 1) = l.take k ++ [x] := by
  rw [List.take_add_one, hk]; rfl
theorem drop_at {α : Type} {l : List α} {k : Nat} {x : α} (hk : l[k]? = some x) : l.drop k = x :: l.drop (k + 1) := by
  obtain ⟨h, rfl⟩ := List.getElem?_eq_some_iff.1 hk
  exact List.drop_eq_getElem_cons h
theorem lval_take_at {l : List Nat} {k x : Nat} (hk : l[k]? = some x) : lval (l.take (k + 1)) = lval (l.take k) + 4294967296 ^ k * x := by
  have hl : k < l.length := (List.getElem?_eq_some_iff.1 hk).1
  rw [take_at hk, lval_snoc, List.length_take, Nat.min_eq_left (by omega)]
theorem lval_drop_at {l : List Nat} {k x : Nat} (hk : l[k]? = some x) : lval (l.drop k) = x + 4294967296 * lval (l.drop (k + 1)) := by rw [drop_at hk, lval]
theorem lval_set {l : List Nat} {k x y : Nat} (hk : l[k]? = some x) : lval (l.set k y) + 4294967296 ^ k * x = lval l + 4294967296 ^ k * y := by
  induction l generalizing k with
  | nil => simp at hk
  | cons z l ih =>
    cases k with
    | zero => simp at hk; subst hk; simp [List.set, lval]; omega
    | succ k =>
      have h := ih (k := k) (by simpa using hk)
      simp only [List.set, lval, Nat.pow_succ]
      grind
theorem lval_inj {a b : List Nat} (ha : Ok a) (hb : Ok b) (hl : a.length = b.length) (h : lval a = lval b) : a = b := by
  induction a generalizing b with
  | nil => cases b with
    | nil => rfl
    | cons _ _ => simp at hl
  | cons x a ih => cases b with
    | nil => simp at hl
    | cons y b =>
      have h1 := ha.head
      have h2 := hb.head
      simp only [lval] at h
      obtain rfl : x = y := by omega
      rw [ih ha.tail hb.tail (by simpa using hl) (by omega)]
theorem limbs_of_canon {l : List Nat} (h : Ok l) (hc : ∀ x, l.getLast? = some x → x ≠ 0) : limbs (lval l) = l := by
  induction l with
  | nil => rw [lval, limbs_zero]
  | cons x l ih =>
    have hx := h.head
    rcases l with _ | ⟨y, l⟩
    · have hne : x ≠ 0 := hc x rfl
      have h1 : lval [x] = x + 4294967296 * 0 := by simp [lval]
      rw [h1, limbs_cons hx (by omega), limbs_zero]
    · have hih := ih h.tail (fun z hz => hc z (by rw [List.getLast?_cons_cons]; exact hz))
      have hne : lval (y :: l) ≠ 0 := by
        intro h0
        rw [h0, limbs_zero] at hih
        cases hih
      rw [lval, limbs_cons hx (by omega), hih]
theorem limbs_last {n : Nat} : ∀ x, (limbs n).getLast? = some x → x ≠ 0 := by
  induction n using Nat.strongRecOn with
  | ind n ih =>
    intro x hx
    by_cases h : n = 0
    · subst h; rw [limbs_zero] at hx; cases hx
    · rw [limbs_pos h] at hx
      by_cases h1 : n / 4294967296 = 0
      · rw [h1, limbs_zero] at hx
        simp at hx
        omega
      · have e := limbs_pos h1
        have h2 := ih (n / 4294967296) (by omega) x
        rw [e] at hx h2
        rw [List.getLast?_cons_cons] at hx
        exact h2 hx
theorem limbs_len_le {n k : Nat} (h : n < 4294967296 ^ k) : (limbs n).length ≤ k := by
  induction k generalizing n with
  | zero => simp at h; subst h; rw [limbs_zero]; simp
  | succ k ih =>
    by_cases h0 : n = 0
    · subst h0; rw [limbs_zero]; simp
    · rw [limbs_pos h0]
      have := ih (n := n / 4294967296) (by rw [Nat.pow_succ] at h; omega)
      simp; omega
theorem lt_of_limbs (n : Nat) : n < 4294967296 ^ (limbs n).length := by
  have h := lval_lt (limbs_ok n)
  rwa [lval_limbs] at h
theorem limbs_len_of {n k : Nat} (h : (limbs n).length ≤ k) : n < 4294967296 ^ k :=
  Nat.lt_of_lt_of_le (lt_of_limbs n) (Nat.pow_le_pow_right (by omega) h)
/-- the limbs are what is left when zeros at the end are dropped -/
theorem strip_take {l : List Nat} {m : Nat} (h : Ok l) (hm : m ≤ l.length) (hz : lval (l.drop m) = 0) (hl : ∀ x, 0 < m → l[m - 1]? = some x → x ≠ 0) : l.take m = limbs (lval l) := by
  have e : lval l = lval (l.take m) := by rw [lval_split l m hm, hz]; simp
  rw [e, limbs_of_canon (h.take m)]
  intro x hx
  have hm0 : 0 < m := by
    rcases Nat.eq_zero_or_pos m with h0 | h0
    · subst h0; simp at hx
    · exact h0
  refine hl x hm0 ?_
  rw [List.getLast?_eq_getElem?, List.length_take, Nat.min_eq_left hm, List.getElem?_take, if_pos (by omega)] at hx
  exact hx
theorem lval_zero_at {l : List Nat} {k : Nat} (hk : l[k]? = some 0) (hz : lval (l.drop (k + 1)) = 0) : lval (l.drop k) = 0 := by
  rw [lval_drop_at hk, hz]
theorem limbs_nil {n : Nat} : (limbs n).length = 0 ↔ n = 0 := by
  by_cases h : n = 0
  · subst h; rw [limbs_zero]; simp
  · rw [limbs_pos h]; simp [h]
theorem limbs_one {n : Nat} (h0 : n ≠ 0) (h : n < 4294967296) : limbs n = [n] := by
  have := limbs_cons (x := n) (m := 0) h (by omega)
  rw [limbs_zero] at this
  simpa using this
theorem limbs_single {n : Nat} (h : (limbs n).length = 1) : limbs n = [n] ∧ n ≠ 0 ∧ n < 4294967296 := by
  have h1 : n ≠ 0 := fun e => by subst e; rw [limbs_zero] at h; simp at h
  have h2 := lt_of_limbs n
  rw [h] at h2
  have h3 : n < 4294967296 := by simpa using h2
  exact ⟨limbs_one h1 h3, h1, h3⟩
/-- a longer number is greater -/
theorem limbs_len_lt {m n : Nat} (h : (limbs m).length < (limbs n).length) : m < n := by
  rcases Nat.lt_or_ge m n with h1 | h1
  · exact h1
  · have := limbs_len_le (n := n) (k := (limbs m).length) (Nat.lt_of_le_of_lt h1 (lt_of_limbs m))
    omega
/-- from the top: the greater limb decides -/
theorem lval_cmp {a b : List Nat} {k x y : Nat} (ha : Ok a) (hl : a.length = b.length) (hd : a.drop (k + 1) = b.drop (k + 1)) (hx : a[k]? = some x) (hy : b[k]? = some y) (h : x < y) : lval a < lval b := by
  have ka : k < a.length := (List.getElem?_eq_some_iff.1 hx).1
  have e1 := lval_split a k (by omega)
  have e2 := lval_split b k (by omega)
  rw [lval_drop_at hx] at e1
  rw [lval_drop_at hy] at e2
  have h1 := lval_lt (ha.take k)
  rw [List.length_take, Nat.min_eq_left (by omega)] at h1
  rw [hd] at e1
  have h3 : 4294967296 ^ k * (x + 4294967296 * lval (b.drop (k + 1))) + 4294967296 ^ k ≤ 4294967296 ^ k * (y + 4294967296 * lval (b.drop (k + 1))) := by
    rw [← Nat.mul_succ]
    exact Nat.mul_le_mul_left _ (by omega)
  omega
end Go.Proofs.YthppojbabkljpaaGreatDoor.RnA
