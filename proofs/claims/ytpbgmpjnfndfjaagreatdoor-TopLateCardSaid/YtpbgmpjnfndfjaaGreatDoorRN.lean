/- RnA, RnB, RnS, RnK, RnC, RnM, RnL, RnN, RnD, RnE, RnQ, RnR, RnG, RnP, RnX, RnW, in one text. -/
import Derived.Below
import Derived.Laws.OwnMore
import Derived.Deep.AppendLies
import Derived.Deep.Draws
import Derived.OwnWalk
namespace Go.Proofs.YtpbgmpjnfndfjaaGreatDoor.RnA
theorem here : True := trivial
/-- the value of a list of limbs -/
def lval : List Nat → Nat
  | [] => 0
  | x :: l => x + 4294967296 * lval l
/-- every limb is below 2^32 -/
def Ok (l : List Nat) : Prop := ∀ x ∈ l, x < 4294967296
/-- the limbs of a number, without zeros at the end -/
def limbs (n : Nat) : List Nat := if n = 0 then [] else n % 4294967296 :: limbs (n / 4294967296)
termination_by n
decreasing_by omega
theorem limbs_zero : limbs 0 = [] := by rw [limbs, if_pos rfl]
theorem limbs_pos {n : Nat} (h : n ≠ 0) : limbs n = n % 4294967296 :: limbs (n / 4294967296) := by rw [limbs, if_neg h]
theorem limbs_cons {x m : Nat} (hx : x < 4294967296) (h : x + 4294967296 * m ≠ 0) : limbs (x + 4294967296 * m) = x :: limbs m := by
  rw [limbs_pos h, show (x + 4294967296 * m) % 4294967296 = x by omega, show (x + 4294967296 * m) / 4294967296 = m by omega]
theorem lval_limbs (n : Nat) : lval (limbs n) = n := by
  induction n using Nat.strongRecOn with
  | ind n ih =>
    by_cases h : n = 0
    · subst h; rw [limbs_zero]; rfl
    · rw [limbs_pos h, lval, ih _ (by omega)]; omega
theorem Ok.nil : Ok [] := fun _ h => by cases h
theorem Ok.cons {x : Nat} {l : List Nat} (hx : x < 4294967296) (h : Ok l) : Ok (x :: l) := fun y hy => by
  rcases List.mem_cons.1 hy with rfl | hy
  · exact hx
  · exact h y hy
theorem Ok.head {x : Nat} {l : List Nat} (h : Ok (x :: l)) : x < 4294967296 := h x (List.mem_cons_self ..)
theorem Ok.tail {x : Nat} {l : List Nat} (h : Ok (x :: l)) : Ok l := fun y hy => h y (List.mem_cons_of_mem _ hy)
theorem Ok.append {l m : List Nat} (h : Ok l) (h' : Ok m) : Ok (l ++ m) := fun y hy => (List.mem_append.1 hy).elim (h y) (h' y)
theorem Ok.take {l : List Nat} (h : Ok l) (k : Nat) : Ok (l.take k) := fun y hy => h y (List.mem_of_mem_take hy)
theorem Ok.drop {l : List Nat} (h : Ok l) (k : Nat) : Ok (l.drop k) := fun y hy => h y (List.mem_of_mem_drop hy)
theorem Ok.set {l : List Nat} (h : Ok l) (k : Nat) {x : Nat} (hx : x < 4294967296) : Ok (l.set k x) := fun y hy => by
  rcases List.mem_or_eq_of_mem_set hy with h1 | rfl
  · exact h y h1
  · exact hx
theorem Ok.at_ {l : List Nat} (h : Ok l) {k x : Nat} (hk : l[k]? = some x) : x < 4294967296 := h x (List.mem_of_getElem? hk)
theorem Ok.replicate (n : Nat) : Ok (List.replicate n 0) := fun y hy => by rw [(List.mem_replicate.1 hy).2]; omega
theorem limbs_ok (n : Nat) : Ok (limbs n) := by
  induction n using Nat.strongRecOn with
  | ind n ih =>
    by_cases h : n = 0
    · subst h; rw [limbs_zero]; exact Ok.nil
    · rw [limbs_pos h]; exact Ok.cons (by omega) (ih _ (by omega))
theorem lval_append (a b : List Nat) : lval (a ++ b) = lval a + 4294967296 ^ a.length * lval b := by
  induction a with
  | nil => simp [lval]
  | cons x a ih => simp only [List.cons_append, lval, List.length_cons, ih, Nat.pow_succ]; grind
theorem lval_snoc (a : List Nat) (x : Nat) : lval (a ++ [x]) = lval a + 4294967296 ^ a.length * x := by rw [lval_append]; simp [lval]
theorem lval_split (l : List Nat) (k : Nat) (hk : k ≤ l.length) : lval l = lval (l.take k) + 4294967296 ^ k * lval (l.drop k) := by
  have h := lval_append (l.take k) (l.drop k)
  rw [List.take_append_drop, List.length_take, Nat.min_eq_left hk] at h
  exact h
theorem lval_replicate (n : Nat) : lval (List.replicate n 0) = 0 := by
  induction n with
  | zero => rfl
  | succ n ih => rw [List.replicate_succ, lval, ih]
theorem lval_lt {l : List Nat} (h : Ok l) : lval l < 4294967296 ^ l.length := by
  induction l with
  | nil => simp [lval]
  | cons x l ih =>
    have h1 := ih h.tail
    have h2 := h.head
    simp only [lval, List.length_cons, Nat.pow_succ]
    omega
theorem take_at {α : Type} {l : List α} {k : Nat} {x : α} (hk : l[k]? = some x) : l.take (k + 1) = l.take k ++ [x] := by
  rw [List.take_add_one, hk]; rfl
theorem drop_at {α : Type} {l : List α} {k : Nat} {x : α} (hk : l[k]? = some x) : l.drop k = x :: l.drop (k + 1) := by
  obtain ⟨h, rfl⟩ := List.getElem?_eq_some_iff.1 hk
  exact List.drop_eq_getElem_cons h
theorem lval_take_at {l : List Nat} {k x : Nat} (hk : l[k]? = some x) : lval (l.take (k + 1)) = lval (l.take k) + 4294967296 ^ k * x := by
  have hl : k < l.length := (List.getElem?_eq_some_iff.1 hk).1
  rw [take_at hk, lval_snoc, List.length_take, Nat.min_eq_left (by omega)]
theorem lval_drop_at {l : List Nat} {k x : Nat} (hk : l[k]? = some x) : lval (l.drop k) = x + 4294967296 * lval (l.drop (k + 1)) := by rw [drop_at hk, lval]
theorem lval_set {l : List Nat} {k x y : Nat} (hk : l[k]? = some x) : lval (l.set k y) + 4294967296 ^ k * x = lval l + 4294967296 ^ k * y := by
  induction l generalizing k with
  | nil => simp at hk
  | cons z l ih =>
    cases k with
    | zero => simp at hk; subst hk; simp [List.set, lval]; omega
    | succ k =>
      have h := ih (k := k) (by simpa using hk)
      simp only [List.set, lval, Nat.pow_succ]
      grind
theorem lval_inj {a b : List Nat} (ha : Ok a) (hb : Ok b) (hl : a.length = b.length) (h : lval a = lval b) : a = b := by
  induction a generalizing b with
  | nil => cases b with
    | nil => rfl
    | cons _ _ => simp at hl
  | cons x a ih => cases b with
    | nil => simp at hl
    | cons y b =>
      have h1 := ha.head
      have h2 := hb.head
      simp only [lval] at h
      obtain rfl : x = y := by omega
      rw [ih ha.tail hb.tail (by simpa using hl) (by omega)]
theorem limbs_of_canon {l : List Nat} (h : Ok l) (hc : ∀ x, l.getLast? = some x → x ≠ 0) : limbs (lval l) = l := by
  induction l with
  | nil => rw [lval, limbs_zero]
  | cons x l ih =>
    have hx := h.head
    rcases l with _ | ⟨y, l⟩
    · have hne : x ≠ 0 := hc x rfl
      have h1 : lval [x] = x + 4294967296 * 0 := by simp [lval]
      rw [h1, limbs_cons hx (by omega), limbs_zero]
    · have hih := ih h.tail (fun z hz => hc z (by rw [List.getLast?_cons_cons]; exact hz))
      have hne : lval (y :: l) ≠ 0 := by
        intro h0
        rw [h0, limbs_zero] at hih
        cases hih
      rw [lval, limbs_cons hx (by omega), hih]
theorem limbs_last {n : Nat} : ∀ x, (limbs n).getLast? = some x → x ≠ 0 := by
  induction n using Nat.strongRecOn with
  | ind n ih =>
    intro x hx
    by_cases h : n = 0
    · subst h; rw [limbs_zero] at hx; cases hx
    · rw [limbs_pos h] at hx
      by_cases h1 : n / 4294967296 = 0
      · rw [h1, limbs_zero] at hx
        simp at hx
        omega
      · have e := limbs_pos h1
        have h2 := ih (n / 4294967296) (by omega) x
        rw [e] at hx h2
        rw [List.getLast?_cons_cons] at hx
        exact h2 hx
theorem limbs_len_le {n k : Nat} (h : n < 4294967296 ^ k) : (limbs n).length ≤ k := by
  induction k generalizing n with
  | zero => simp at h; subst h; rw [limbs_zero]; simp
  | succ k ih =>
    by_cases h0 : n = 0
    · subst h0; rw [limbs_zero]; simp
    · rw [limbs_pos h0]
      have := ih (n := n / 4294967296) (by rw [Nat.pow_succ] at h; omega)
      simp; omega
theorem lt_of_limbs (n : Nat) : n < 4294967296 ^ (limbs n).length := by
  have h := lval_lt (limbs_ok n)
  rwa [lval_limbs] at h
theorem limbs_len_of {n k : Nat} (h : (limbs n).length ≤ k) : n < 4294967296 ^ k :=
  Nat.lt_of_lt_of_le (lt_of_limbs n) (Nat.pow_le_pow_right (by omega) h)
/-- the limbs are what is left when zeros at the end are dropped -/
theorem strip_take {l : List Nat} {m : Nat} (h : Ok l) (hm : m ≤ l.length) (hz : lval (l.drop m) = 0) (hl : ∀ x, 0 < m → l[m - 1]? = some x → x ≠ 0) : l.take m = limbs (lval l) := by
  have e : lval l = lval (l.take m) := by rw [lval_split l m hm, hz]; simp
  rw [e, limbs_of_canon (h.take m)]
  intro x hx
  have hm0 : 0 < m := by
    rcases Nat.eq_zero_or_pos m with h0 | h0
    · subst h0; simp at hx
    · exact h0
  refine hl x hm0 ?_
  rw [List.getLast?_eq_getElem?, List.length_take, Nat.min_eq_left hm, List.getElem?_take, if_pos (by omega)] at hx
  exact hx
theorem lval_zero_at {l : List Nat} {k : Nat} (hk : l[k]? = some 0) (hz : lval (l.drop (k + 1)) = 0) : lval (l.drop k) = 0 := by
  rw [lval_drop_at hk, hz]
theorem limbs_nil {n : Nat} : (limbs n).length = 0 ↔ n = 0 := by
  by_cases h : n = 0
  · subst h; rw [limbs_zero]; simp
  · rw [limbs_pos h]; simp [h]
theorem limbs_one {n : Nat} (h0 : n ≠ 0) (h : n < 4294967296) : limbs n = [n] := by
  have := limbs_cons (x := n) (m := 0) h (by omega)
  rw [limbs_zero] at this
  simpa using this
theorem limbs_single {n : Nat} (h : (limbs n).length = 1) : limbs n = [n] ∧ n ≠ 0 ∧ n < 4294967296 := by
  have h1 : n ≠ 0 := fun e => by subst e; rw [limbs_zero] at h; simp at h
  have h2 := lt_of_limbs n
  rw [h] at h2
  have h3 : n < 4294967296 := by simpa using h2
  exact ⟨limbs_one h1 h3, h1, h3⟩
/-- a longer number is greater -/
theorem limbs_len_lt {m n : Nat} (h : (limbs m).length < (limbs n).length) : m < n := by
  rcases Nat.lt_or_ge m n with h1 | h1
  · exact h1
  · have := limbs_len_le (n := n) (k := (limbs m).length) (Nat.lt_of_le_of_lt h1 (lt_of_limbs m))
    omega
/-- from the top: the greater limb decides -/
theorem lval_cmp {a b : List Nat} {k x y : Nat} (ha : Ok a) (hl : a.length = b.length) (hd : a.drop (k + 1) = b.drop (k + 1)) (hx : a[k]? = some x) (hy : b[k]? = some y) (h : x < y) : lval a < lval b := by
  have ka : k < a.length := (List.getElem?_eq_some_iff.1 hx).1
  have e1 := lval_split a k (by omega)
  have e2 := lval_split b k (by omega)
  rw [lval_drop_at hx] at e1
  rw [lval_drop_at hy] at e2
  have h1 := lval_lt (ha.take k)
  rw [List.length_take, Nat.min_eq_left (by omega)] at h1
  rw [hd] at e1
  have h3 : 4294967296 ^ k * (x + 4294967296 * lval (b.drop (k + 1))) + 4294967296 ^ k ≤ 4294967296 ^ k * (y + 4294967296 * lval (b.drop (k + 1))) := by
    rw [← Nat.mul_succ]
    exact Nat.mul_le_mul_left _ (by omega)
  omega
end Go.Proofs.YtpbgmpjnfndfjaaGreatDoor.RnA
namespace Go.Proofs.YtpbgmpjnfndfjaaGreatDoor.RnB
theorem here : True := trivial
open RnA
/-- the value of bytes -/
def bval : List UInt8 → Nat
  | [] => 0
  | c :: l => 256 ^ l.length * c.toNat + bval l
/-- the bytes of a number, without leading zeros -/
def bytesOf (n : Nat) : List UInt8 := if n = 0 then [] else bytesOf (n / 256) ++ [UInt8.ofNat (n % 256)]
termination_by n
decreasing_by omega
theorem bytesOf_zero : bytesOf 0 = [] := by rw [bytesOf, if_pos rfl]
theorem bytesOf_pos {n : Nat} (h : n ≠ 0) : bytesOf n = bytesOf (n / 256) ++ [UInt8.ofNat (n % 256)] := by rw [bytesOf, if_neg h]
theorem bval_append (a b : List UInt8) : bval (a ++ b) = 256 ^ b.length * bval a + bval b := by
  induction a with
  | nil => simp [bval]
  | cons x a ih => simp only [List.cons_append, bval, List.length_append, ih, Nat.pow_add]; grind
theorem bval_snoc (a : List UInt8) (c : UInt8) : bval (a ++ [c]) = 256 * bval a + c.toNat := by rw [bval_append]; simp [bval]
theorem bval_lt (l : List UInt8) : bval l < 256 ^ l.length := by
  induction l with
  | nil => simp [bval]
  | cons c l ih =>
    have h := c.toNat_lt
    simp only [bval, List.length_cons, Nat.pow_succ]
    have h2 : 256 ^ l.length * c.toNat ≤ 256 ^ l.length * 255 := Nat.mul_le_mul_left _ (by omega)
    omega
theorem toNat_ofNat {n : Nat} (h : n < 256) : (UInt8.ofNat n).toNat = n := by simp; omega
theorem bval_bytesOf (n : Nat) : bval (bytesOf n) = n := by
  induction n using Nat.strongRecOn with
  | ind n ih =>
    by_cases h : n = 0
    · subst h; rw [bytesOf_zero]; rfl
    · rw [bytesOf_pos h, bval_snoc, ih _ (by omega), toNat_ofNat (by omega)]; omega
theorem bytesOf_snoc {m : Nat} {c : UInt8} (h : 256 * m + c.toNat ≠ 0) : bytesOf (256 * m + c.toNat) = bytesOf m ++ [c] := by
  have hc := c.toNat_lt
  rw [bytesOf_pos h, show (256 * m + c.toNat) / 256 = m by omega, show (256 * m + c.toNat) % 256 = c.toNat by omega]
  simp
theorem dropZ_append (a b : List UInt8) : (a ++ b).dropWhile (· == 0) = if a.all (· == 0) then b.dropWhile (· == 0) else a.dropWhile (· == 0) ++ b := by
  induction a with
  | nil => simp
  | cons x a ih =>
    by_cases h : x = 0
    · subst h; simpa using ih
    · simp [h]
theorem bval_zero_iff (l : List UInt8) : bval l = 0 ↔ l.all (· == 0) = true := by
  induction l with
  | nil => simp [bval]
  | cons c l ih =>
    have hp : 0 < 256 ^ l.length := Nat.pow_pos (by omega)
    simp only [bval, List.all_cons, Bool.and_eq_true, beq_iff_eq]
    rw [← ih]
    constructor
    · intro h
      have h1 : 256 ^ l.length * c.toNat = 0 := by omega
      rcases Nat.mul_eq_zero.1 h1 with h2 | h2
      · omega
      · exact ⟨UInt8.toNat_inj.1 (by simpa using h2), by omega⟩
    · rintro ⟨rfl, h⟩
      simp [h]
/-- dropping leading zeros leaves the bytes of the value -/
theorem dropZ_eq (l : List UInt8) : l.dropWhile (· == 0) = bytesOf (bval l) := by
  induction h : l.length generalizing l with
  | zero =>
    have : l = [] := List.eq_nil_of_length_eq_zero h
    subst this
    simp [bval, bytesOf_zero]
  | succ k ih =>
    have hne : l ≠ [] := fun e => by subst e; simp at h
    obtain ⟨a, c, rfl⟩ : ∃ a c, l = a ++ [c] := ⟨l.dropLast, l.getLast hne, (List.dropLast_concat_getLast hne).symm⟩
    have hl : a.length = k := by simpa using h
    rw [dropZ_append, bval_snoc]
    by_cases hz : a.all (· == 0) = true
    · rw [if_pos hz]
      have h0 := (bval_zero_iff a).2 hz
      rw [h0]
      by_cases hc : c = 0
      · subst hc; simp [bytesOf_zero]
      · have hcn : c.toNat ≠ 0 := fun e => hc (UInt8.toNat_inj.1 (by simpa using e))
        have := bytesOf_snoc (m := 0) (c := c) (by omega)
        rw [bytesOf_zero] at this
        rw [this]
        simp [hc]
    · rw [if_neg hz, ih a hl]
      have h0 : bval a ≠ 0 := fun e => hz ((bval_zero_iff a).1 e)
      rw [bytesOf_snoc (by omega)]
theorem bytesOf_len_le {n k : Nat} (h : n < 256 ^ k) : (bytesOf n).length ≤ k := by
  induction k generalizing n with
  | zero => simp at h; subst h; rw [bytesOf_zero]; simp
  | succ k ih =>
    by_cases h0 : n = 0
    · subst h0; rw [bytesOf_zero]; simp
    · rw [bytesOf_pos h0]
      have := ih (n := n / 256) (by rw [Nat.pow_succ] at h; omega)
      simp; omega
theorem bytesOf_inj {a b : Nat} (h : bytesOf a = bytesOf b) : a = b := by rw [← bval_bytesOf a, ← bval_bytesOf b, h]
theorem bytesOf_nil {n : Nat} : bytesOf n = [] ↔ n = 0 := by
  constructor
  · intro h; have := bval_bytesOf n; rw [h] at this; exact this.symm
  · rintro rfl; exact bytesOf_zero
theorem bytesOf_one : bytesOf 1 = [1] := by
  have := bytesOf_snoc (m := 0) (c := 1) (by simp)
  rw [bytesOf_zero] at this
  simpa using this
/-- one byte more from the end -/
theorem bval_drop {l : List UInt8} {k : Nat} {c : UInt8} (hk : l[k]? = some c) : bval (l.drop k) = 256 ^ (l.length - (k + 1)) * c.toNat + bval (l.drop (k + 1)) := by
  rw [take_drop_at hk, bval, List.length_drop]
where
  take_drop_at {l : List UInt8} {k : Nat} {c : UInt8} (hk : l[k]? = some c) : l.drop k = c :: l.drop (k + 1) := RnA.drop_at hk
theorem pow4 (j : Nat) : 256 ^ (4 * j) = 4294967296 ^ j := by rw [Nat.pow_mul]
theorem pow_i (i : Nat) : 256 ^ i = 4294967296 ^ (i / 4) * 256 ^ (i % 4) := by
  rw [← pow4, ← Nat.pow_add, Nat.div_add_mod]
/-- a limb of a list whose value is small is small -/
theorem limb_small {l : List Nat} {i x : Nat} (h : lval l < 256 ^ i) (hx : l[i / 4]? = some x) : x < 256 ^ (i % 4) := by
  have hl : i / 4 < l.length := (List.getElem?_eq_some_iff.1 hx).1
  have e := lval_split l (i / 4) (by omega)
  rw [lval_drop_at hx] at e
  rw [pow_i] at h
  have hp : 0 < 4294967296 ^ (i / 4) := Nat.pow_pos (by omega)
  have h1 : 4294967296 ^ (i / 4) * x ≤ lval l := by
    rw [e]
    refine Nat.le_trans ?_ (Nat.le_add_left _ _)
    exact Nat.mul_le_mul_left _ (by omega)
  exact Nat.lt_of_mul_lt_mul_left (Nat.lt_of_le_of_lt h1 h)
/-- one byte is set into a list of limbs -/
theorem lval_put {l : List Nat} {i x c : Nat} (hx : l[i / 4]? = some x) : lval (l.set (i / 4) (x + c * 256 ^ (i % 4))) = lval l + 256 ^ i * c := by
  have h := lval_set (y := x + c * 256 ^ (i % 4)) hx
  have e := pow_i i
  grind
/-- a byte of a list of limbs -/
theorem lval_byte {l : List Nat} {i x : Nat} (hok : Ok l) (hx : l[i / 4]? = some x) : lval l / 256 ^ i % 256 = x / 256 ^ (i % 4) % 256 := by
  have hl : i / 4 < l.length := (List.getElem?_eq_some_iff.1 hx).1
  have e := lval_split l (i / 4) (by omega)
  have h1 := lval_lt (hok.take (i / 4))
  rw [List.length_take, Nat.min_eq_left (by omega)] at h1
  rw [lval_drop_at hx] at e
  have h2 : lval l / 4294967296 ^ (i / 4) = x + 4294967296 * lval (l.drop (i / 4 + 1)) := by
    rw [e, Nat.add_comm, Nat.mul_add_div (Nat.pow_pos (by omega)), Nat.div_eq_of_lt h1, Nat.add_zero]
  rw [pow_i, ← Nat.div_div_eq_div_mul, h2]
  have h4 : i % 4 < 4 := Nat.mod_lt _ (by omega)
  have hx2 : x < 4294967296 := hok.at_ hx
  generalize lval (l.drop (i / 4 + 1)) = m
  rcases (by omega : i % 4 = 0 ∨ i % 4 = 1 ∨ i % 4 = 2 ∨ i % 4 = 3) with h | h | h | h <;> rw [h] <;> simp <;> omega
end Go.Proofs.YtpbgmpjnfndfjaaGreatDoor.RnB
namespace Go.Proofs.YtpbgmpjnfndfjaaGreatDoor.RnS
theorem here : True := trivial
open RnA RnB
/-- the number of limbs -/
def sz (n : Nat) : Nat := (limbs n).length
theorem sz_zero : sz 0 = 0 := by unfold sz; rw [limbs_zero]; rfl
theorem sz_lt (n : Nat) : n < 4294967296 ^ sz n := lt_of_limbs n
theorem sz_le {n k : Nat} (h : n < 4294967296 ^ k) : sz n ≤ k := limbs_len_le h
theorem sz_mono {m n : Nat} (h : m ≤ n) : sz m ≤ sz n := sz_le (Nat.lt_of_le_of_lt h (sz_lt n))
theorem sz_mul (m n : Nat) : sz (m * n) ≤ sz m + sz n := by
  refine sz_le ?_
  rw [Nat.pow_add]
  have h1 := sz_lt m
  have h2 := sz_lt n
  exact Nat.mul_lt_mul_of_lt_of_le h1 (Nat.le_of_lt h2) (Nat.pow_pos (by omega))
theorem sz_add (m n : Nat) : sz (m + n) ≤ max (sz m) (sz n) + 1 := by
  refine sz_le ?_
  have h1 := Nat.lt_of_lt_of_le (sz_lt m) (Nat.pow_le_pow_right (n := 4294967296) (by omega) (Nat.le_max_left (sz m) (sz n)))
  have h2 := Nat.lt_of_lt_of_le (sz_lt n) (Nat.pow_le_pow_right (n := 4294967296) (by omega) (Nat.le_max_right (sz m) (sz n)))
  rw [Nat.pow_succ]
  omega
theorem sz_sub (m n : Nat) : sz (m - n) ≤ sz m := sz_mono (Nat.sub_le _ _)
theorem sz_div (m n : Nat) : sz (m / n) ≤ sz m := sz_mono (Nat.div_le_self _ _)
theorem sz_mod (m n : Nat) : sz (m % n) ≤ sz m := sz_mono (Nat.mod_le _ _)
theorem sz_mod' {m n : Nat} (h : 0 < n) : sz (m % n) ≤ sz n := sz_mono (Nat.le_of_lt (Nat.mod_lt _ h))
theorem sz_gcd {m n : Nat} (h : 0 < n) : sz (m.gcd n) ≤ sz n := sz_mono (Nat.gcd_le_right _ h)
theorem sz_small {n : Nat} (h : n < 4294967296) : sz n ≤ 1 := sz_le (by simpa using h)
theorem sz_u64 {n : Nat} (h : n < 18446744073709551616) : sz n ≤ 2 := sz_le (Nat.lt_of_lt_of_le h (by decide))
theorem sz_pos {n : Nat} (h : n ≠ 0) : 0 < sz n := by
  rcases Nat.eq_zero_or_pos (sz n) with h0 | h0
  · exact absurd (limbs_nil.1 h0) h
  · exact h0
theorem sz_bytes {l : List UInt8} {k : Nat} (h : l.length ≤ 4 * k) : sz (bval l) ≤ k := by
  refine sz_le ?_
  rw [← pow4]
  exact Nat.lt_of_lt_of_le (bval_lt l) (Nat.pow_le_pow_right (by omega) h)
theorem bytes_sz {n k : Nat} (h : sz n ≤ k) : (bytesOf n).length ≤ 4 * k := by
  refine bytesOf_len_le ?_
  rw [pow4]
  exact Nat.lt_of_lt_of_le (sz_lt n) (Nat.pow_le_pow_right (by omega) h)
end Go.Proofs.YtpbgmpjnfndfjaaGreatDoor.RnS
namespace Go.Proofs.YtpbgmpjnfndfjaaGreatDoor.RnK
theorem here : True := trivial
open RnA
/-- the estimate of a digit by three limbs over two -/
def est (top u v1 v2 : Nat) : Nat := min 4294967295 ((top * 4294967296 + u) / (v1 * 4294967296 + v2))
theorem est_lt (top u v1 v2 : Nat) : est top u v1 v2 < 4294967296 := by unfold est; omega
theorem est_mul (top u v1 v2 : Nat) : est top u v1 v2 * (v1 * 4294967296 + v2) ≤ top * 4294967296 + u :=
  Nat.le_trans (Nat.mul_le_mul_right _ (Nat.min_le_right _ _)) (Nat.div_mul_le_self _ _)
theorem le_est {top u v1 v2 g : Nat} (hv : 0 < v1) (h : g < 4294967296) (hg : g * (v1 * 4294967296 + v2) ≤ top * 4294967296 + u) : g ≤ est top u v1 v2 := by
  unfold est
  have := (Nat.le_div_iff_mul_le (by omega : 0 < v1 * 4294967296 + v2)).2 hg
  omega
theorem est_start {top u v1 v2 : Nat} (hv : 0 < v1) (hu : u < 4294967296) : est top u v1 v2 ≤ top / v1 := by
  rw [Nat.le_div_iff_mul_le hv]
  have h := est_mul top u v1 v2
  have e : est top u v1 v2 * (v1 * 4294967296 + v2) = est top u v1 v2 * v1 * 4294967296 + est top u v1 v2 * v2 := by grind
  omega
theorem start_le {top v1 : Nat} (hv : 2147483648 ≤ v1) (ht : top < (v1 + 1) * 4294967296) : top / v1 ≤ 4294967297 := by
  have : top / v1 < 4294967298 := (Nat.div_lt_iff_lt_mul (by omega)).2 (by omega)
  omega
/-- a guess that is too great is greater than the estimate -/
theorem est_down {top u v1 v2 g r : Nat} (he : g * v1 + r = top) (hc : 4294967296 ≤ g ∨ r * 4294967296 + u < g * v2) : est top u v1 v2 ≤ g - 1 ∧ 1 ≤ g := by
  rcases hc with hc | hc
  · have := est_lt top u v1 v2
    omega
  · have hm := est_mul top u v1 v2
    have e : g * (v1 * 4294967296 + v2) = g * v1 * 4294967296 + g * v2 := by grind
    have hlt : est top u v1 v2 * (v1 * 4294967296 + v2) < g * (v1 * 4294967296 + v2) := by omega
    have := Nat.lt_of_mul_lt_mul_right hlt
    omega
/-- the loop ends: its guess is not too great -/
theorem est_stop {top u v1 v2 g r : Nat} (hv : 0 < v1) (he : g * v1 + r = top) (h1 : g < 4294967296) (hc : g * v2 ≤ r * 4294967296 + u) : g ≤ est top u v1 v2 := by
  refine le_est hv h1 ?_
  have e : g * (v1 * 4294967296 + v2) = g * v1 * 4294967296 + g * v2 := by grind
  omega
/-- the loop breaks: its guess is not too great -/
theorem est_break {top u v1 v2 g r : Nat} (hv : 0 < v1) (ht : top < (v1 + 1) * 4294967296) (hv2 : v2 < 4294967296) (hg : g ≤ 4294967296) (he : g * v1 + r = top) (hr : 4294967296 ≤ r) : g ≤ est top u v1 v2 := by
  have h1 : g < 4294967296 := by
    rcases (by omega : g < 4294967296 ∨ g = 4294967296) with h | h
    · exact h
    · subst h; omega
  refine est_stop hv he h1 ?_
  have h2 : g * v2 ≤ 4294967296 * 4294967296 := Nat.mul_le_mul (by omega) (by omega)
  omega
/-- the estimate is the digit or one more -/
theorem est_quot {top u v1 v2 P Ul Dl T D2 : Nat} (hT : top * 4294967296 + u = T) (hD : v1 * 4294967296 + v2 = D2) (hP : 0 < P) (hv : 0 < v1) (hUl : Ul < P) (hDl : Dl < P) (hlt : T * P + Ul < (D2 * P + Dl) * 4294967296) :
    (T * P + Ul) / (D2 * P + Dl) ≤ est top u v1 v2 ∧ est top u v1 v2 ≤ (T * P + Ul) / (D2 * P + Dl) + 1 := by
  have hD2 : 4294967296 ≤ D2 := by omega
  have hDP : 0 < D2 * P + Dl := by have := Nat.mul_pos (by omega : 0 < D2) hP; omega
  have hm := est_mul top u v1 v2
  have hl := est_lt top u v1 v2
  rw [hT, hD] at hm
  constructor
  · have hq : (T * P + Ul) / (D2 * P + Dl) * (D2 * P + Dl) ≤ T * P + Ul := Nat.div_mul_le_self _ _
    have hqb : (T * P + Ul) / (D2 * P + Dl) < 4294967296 := (Nat.div_lt_iff_lt_mul hDP).2 (by rw [Nat.mul_comm 4294967296]; exact hlt)
    generalize (T * P + Ul) / (D2 * P + Dl) = q at *
    refine le_est hv hqb ?_
    rw [hT, hD]
    have e : q * (D2 * P + Dl) = q * D2 * P + q * Dl := by grind
    have h2 : q * D2 * P < (T + 1) * P := by rw [Nat.succ_mul]; omega
    have := Nat.lt_of_mul_lt_mul_right h2
    omega
  · generalize est top u v1 v2 = g at *
    rcases Nat.eq_zero_or_pos g with h0 | h0
    · rw [h0]; exact Nat.zero_le _
    · obtain ⟨g', rfl⟩ : ∃ g', g = g' + 1 := ⟨g - 1, by omega⟩
      have : g' ≤ (T * P + Ul) / (D2 * P + Dl) := by
        rw [Nat.le_div_iff_mul_le hDP]
        have h1 : g' * Dl ≤ D2 * P := by
          have := Nat.mul_le_mul (by omega : g' ≤ D2) (by omega : Dl ≤ P)
          exact this
        have h2 : (g' + 1) * D2 * P ≤ T * P := Nat.mul_le_mul_right _ hm
        have e1 : g' * (D2 * P + Dl) = g' * D2 * P + g' * Dl := by grind
        have e2 : (g' + 1) * D2 * P = g' * D2 * P + D2 * P := by grind
        omega
      exact Nat.succ_le_succ this
/-- what the subtraction leaves: no borrow, the digit was right; a borrow, it was one too great, and adding the divisor again gives the rest -/
theorem sub_right {U D q u' M g b : Nat} (hD : 0 < D) (hq : U / D = q) (hg : g = q ∨ g = q + 1) (h : u' + g * D = U + b * M) (hb : b = 0) : g = q ∧ u' = U % D := by
  subst hb
  have e := Nat.div_add_mod U D
  have hm := Nat.mod_lt U hD
  rw [hq] at e
  rcases hg with rfl | rfl
  · refine ⟨rfl, ?_⟩
    have : g * D = D * g := Nat.mul_comm _ _
    omega
  · have : (q + 1) * D = D * q + D := by grind
    omega
theorem sub_over {U D q u' M g b : Nat} (hD : 0 < D) (hq : U / D = q) (hg : g = q ∨ g = q + 1) (hu : u' < M) (h : u' + g * D = U + b * M) (hb : b = 1) : g = q + 1 ∧ u' + D = U % D + M := by
  subst hb
  have e := Nat.div_add_mod U D
  have hm := Nat.mod_lt U hD
  rw [hq] at e
  rcases hg with rfl | rfl
  · have : g * D = D * g := Nat.mul_comm _ _
    omega
  · have : (q + 1) * D = D * q + D := by grind
    omega
end Go.Proofs.YtpbgmpjnfndfjaaGreatDoor.RnK
namespace Go.Proofs.YtpbgmpjnfndfjaaGreatDoor.RnC
theorem here : True := trivial
open RnA RnB RnS
theorem canon_of_len {l : List Nat} (h : Ok l) (hl : l.length = sz (lval l)) : l = limbs (lval l) :=
  lval_inj h (limbs_ok _) hl (by rw [lval_limbs])
theorem canon_of_ge {l : List Nat} (h : Ok l) (hl : l = [] ∨ 4294967296 ^ (l.length - 1) ≤ lval l) : l = limbs (lval l) := by
  refine canon_of_len h ?_
  have h1 : sz (lval l) ≤ l.length := sz_le (lval_lt h)
  rcases hl with rfl | hl
  · simp at h1; simp; omega
  · rcases Nat.lt_or_ge (sz (lval l)) l.length with h2 | h2
    · have h3 := sz_lt (lval l)
      have h4 : 4294967296 ^ sz (lval l) ≤ 4294967296 ^ (l.length - 1) := Nat.pow_le_pow_right (by omega) (by omega)
      omega
    · omega
theorem limbs_ge {n : Nat} (h : n ≠ 0) : 4294967296 ^ (sz n - 1) ≤ n := by
  rcases Nat.lt_or_ge n (4294967296 ^ (sz n - 1)) with h1 | h1
  · have := sz_le h1
    have := sz_pos h
    omega
  · exact h1
theorem pow_pos (k : Nat) : 0 < 4294967296 ^ k := Nat.pow_pos (by omega)
theorem lval_take_all {l : List Nat} {k : Nat} (h : l.length ≤ k) : lval (l.take k) = lval l := by rw [List.take_of_length_le h]
theorem lval_take_none {l : List Nat} {k : Nat} (h : l.length ≤ k) : lval (l.take (k + 1)) = lval (l.take k) := by rw [lval_take_all h, lval_take_all (by omega)]
/-- a limb, or 0 behind the end -/
def dig (l : List Nat) (k : Nat) : Nat := l.getD k 0
theorem dig_at {l : List Nat} {k x : Nat} (h : l[k]? = some x) : dig l k = x := by unfold dig; rw [List.getD_eq_getElem?_getD, h]; rfl
theorem dig_out {l : List Nat} {k : Nat} (h : l.length ≤ k) : dig l k = 0 := by unfold dig; rw [List.getD_eq_getElem?_getD, List.getElem?_eq_none h]; rfl
theorem dig_lt {l : List Nat} (h : Ok l) (k : Nat) : dig l k < 4294967296 := by
  by_cases hk : k < l.length
  · rw [dig_at (List.getElem?_eq_getElem hk)]; exact h _ (List.getElem_mem hk)
  · rw [dig_out (by omega)]; omega
theorem lval_take_dig (l : List Nat) (k : Nat) : lval (l.take (k + 1)) = lval (l.take k) + 4294967296 ^ k * dig l k := by
  by_cases hk : k < l.length
  · rw [lval_take_at (List.getElem?_eq_getElem hk), dig_at (List.getElem?_eq_getElem hk)]
  · rw [lval_take_none (by omega), dig_out (by omega)]; simp
theorem take_len {l : List Nat} {k : Nat} (h : k ≤ l.length) : (l.take k).length = k := by rw [List.length_take, Nat.min_eq_left h]
/-- a round of an addition -/
theorem add_round {a b out : List Nat} {i c : Nat} (h : lval out + c * 4294967296 ^ i = lval (a.take i) + lval (b.take i)) (hl : out.length = i) :
    lval (out ++ [(dig a i + dig b i + c) % 4294967296]) + (dig a i + dig b i + c) / 4294967296 * 4294967296 ^ (i + 1) = lval (a.take (i + 1)) + lval (b.take (i + 1)) := by
  rw [lval_snoc, lval_take_dig, lval_take_dig, hl, Nat.pow_succ]
  have e := Nat.div_add_mod (dig a i + dig b i + c) 4294967296
  generalize (dig a i + dig b i + c) % 4294967296 = r at e ⊢
  generalize (dig a i + dig b i + c) / 4294967296 = q at e ⊢
  grind
/-- a round of a subtraction -/
theorem sub_round {a b out : List Nat} {i c x c' : Nat} (h : lval out + lval (b.take i) = lval (a.take i) + c * 4294967296 ^ i) (hl : out.length = i) (hx : x + dig b i + c = dig a i + c' * 4294967296) :
    lval (out ++ [x]) + lval (b.take (i + 1)) = lval (a.take (i + 1)) + c' * 4294967296 ^ (i + 1) := by
  rw [lval_snoc, lval_take_dig, lval_take_dig, hl, Nat.pow_succ]
  grind
/-- an element of a list whose value is below a power is 0 -/
theorem zero_above {l : List Nat} {k x : Nat} (h : lval l < 4294967296 ^ k) (hx : l[k]? = some x) : x = 0 := by
  have hl : k < l.length := (List.getElem?_eq_some_iff.1 hx).1
  have e := lval_split l k (by omega)
  rw [lval_drop_at hx] at e
  rcases Nat.eq_zero_or_pos x with h0 | h0
  · exact h0
  · have : 4294967296 ^ k * 1 ≤ 4294967296 ^ k * (x + 4294967296 * lval (l.drop (k + 1))) := Nat.mul_le_mul_left _ (by omega)
    omega
/-- a round of a multiplication: one product of two limbs -/
theorem mul_round {b O : List Nat} {i j u v x c V : Nat} (h : lval O + c * 4294967296 ^ (i + j) = V + u * lval (b.take j) * 4294967296 ^ i) (hx : O[i + j]? = some x) (hv : b[j]? = some v) :
    lval (O.set (i + j) ((u * v + x + c) % 4294967296)) + (u * v + x + c) / 4294967296 * 4294967296 ^ (i + (j + 1)) = V + u * lval (b.take (j + 1)) * 4294967296 ^ i := by
  have hs := lval_set (y := (u * v + x + c) % 4294967296) hx
  have e := Nat.div_add_mod (u * v + x + c) 4294967296
  rw [lval_take_at hv, show i + (j + 1) = (i + j) + 1 by omega, Nat.pow_succ, Nat.pow_add] at *
  generalize (u * v + x + c) % 4294967296 = r at e hs ⊢
  generalize (u * v + x + c) / 4294967296 = q at e hs ⊢
  grind
theorem mul_last {O : List Nat} {k c V : Nat} (h : lval O + c * 4294967296 ^ k = V) (hx : O[k]? = some 0) : lval (O.set k c) = V := by
  have hs := lval_set (y := c) hx
  rw [Nat.mul_zero, Nat.add_zero] at hs
  rw [hs, ← h, Nat.mul_comm]
theorem prod_lt {u v x c : Nat} (hu : u < 4294967296) (hv : v < 4294967296) (hx : x < 4294967296) (hc : c < 4294967296) : u * v + x + c < 18446744073709551616 ∧ (u * v + x + c) / 4294967296 < 4294967296 := by
  have h1 : u * v ≤ 4294967295 * 4294967295 := Nat.mul_le_mul (by omega) (by omega)
  omega
/-- a round of a division by one limb, from the top -/
theorem div_round {a out : List Nat} {i x d r : Nat} (h : lval (a.drop (i + 1)) = d * lval out + r) (hx : a[i]? = some x) :
    lval (a.drop i) = d * lval ((r * 4294967296 + x) / d :: out) + (r * 4294967296 + x) % d := by
  rw [lval_drop_at hx, lval, h]
  have e := Nat.div_add_mod (r * 4294967296 + x) d
  generalize (r * 4294967296 + x) % d = m at e ⊢
  generalize (r * 4294967296 + x) / d = q at e ⊢
  grind
theorem div_lt {x d r : Nat} (hx : x < 4294967296) (hr : r < d) (hd : d < 4294967296) : r * 4294967296 + x < 18446744073709551616 ∧ (r * 4294967296 + x) / d < 4294967296 ∧ (r * 4294967296 + x) % d < d := by
  refine ⟨by omega, (Nat.div_lt_iff_lt_mul (by omega)).2 ?_, Nat.mod_lt _ (by omega)⟩
  have : (r + 1) * 4294967296 ≤ d * 4294967296 := Nat.mul_le_mul_right _ hr
  omega
end Go.Proofs.YtpbgmpjnfndfjaaGreatDoor.RnC
namespace Go.Proofs.YtpbgmpjnfndfjaaGreatDoor.RnM
theorem here : True := trivial
open RnA RnB RnS RnC RnK
/-- a round of multiply-and-subtract: the first k limbs are done -/
def MulSub (g : Nat) (d W W' : List Nat) (k c b : Nat) : Prop :=
  W'.length = W.length ∧ W'.drop k = W.drop k ∧ lval (W'.take k) + g * lval (d.take k) = lval (W.take k) + (c + b) * 4294967296 ^ k
theorem MulSub.start (g : Nat) (d W : List Nat) : MulSub g d W W 0 0 0 := ⟨rfl, rfl, by simp [lval]⟩
theorem getElem?_of_drop {a b : List Nat} {k : Nat} (h : a.drop k = b.drop k) : a[k]? = b[k]? := by
  have := congrArg (fun l => l[0]?) h
  simpa [List.getElem?_drop] using this
theorem take_set_succ {l : List Nat} {k y : Nat} (h : k < l.length) : (l.set k y).take (k + 1) = l.take k ++ [y] := by
  rw [take_at (x := y) (by rw [List.getElem?_set_self h]), List.take_set_of_le (Nat.le_refl _)]
theorem drop_set_succ {l : List Nat} {k y : Nat} : (l.set k y).drop (k + 1) = l.drop (k + 1) := by
  rw [List.drop_set_of_lt (by omega)]
theorem drop_succ_of {a b : List Nat} {k : Nat} (h : a.drop k = b.drop k) : a.drop (k + 1) = b.drop (k + 1) := by
  rw [← List.drop_drop, ← List.drop_drop, h]
/-- diff: what is left of limb k; t = g * d_k + c; its low half and b were taken off -/
theorem MulSub.step {g k c b v x diff b' : Nat} {d W W' : List Nat} (h : MulSub g d W W' k c b) (hv : d[k]? = some v) (hx : W[k]? = some x) (hd : diff + (g * v + c) % 4294967296 + b = x + b' * 4294967296) :
    MulSub g d W (W'.set k diff) (k + 1) ((g * v + c) / 4294967296) b' := by
  obtain ⟨h1, h2, h3⟩ := h
  have hk : k < W.length := (List.getElem?_eq_some_iff.1 hx).1
  refine ⟨by rw [List.length_set, h1], by rw [drop_set_succ]; exact drop_succ_of h2, ?_⟩
  rw [take_set_succ (by omega), lval_snoc, take_len (by omega), lval_take_at hv, lval_take_at hx, Nat.pow_succ]
  have e := Nat.div_add_mod (g * v + c) 4294967296
  generalize (g * v + c) % 4294967296 = lo at *
  generalize (g * v + c) / 4294967296 = hi at *
  grind
/-- the last limb: c and b are taken off -/
theorem MulSub.last {g n c b x diff b' : Nat} {d W W' : List Nat} (h : MulSub g d W W' n c b) (hn : d.length = n) (hW : W.length = n + 1) (hx : W[n]? = some x) (hd : diff + c + b = x + b' * 4294967296) :
    lval (W'.set n diff) + g * lval d = lval W + b' * 4294967296 ^ (n + 1) ∧ (W'.set n diff).length = n + 1 := by
  obtain ⟨h1, h2, h3⟩ := h
  have hl : (W'.set n diff).length = n + 1 := by rw [List.length_set, h1, hW]
  refine ⟨?_, hl⟩
  have e1 : lval (W'.set n diff) = lval (W'.take n) + 4294967296 ^ n * diff := by
    have := take_set_succ (l := W') (k := n) (y := diff) (by omega)
    rw [List.take_of_length_le (by omega)] at this
    rw [this, lval_snoc, take_len (by omega)]
  have e2 : lval W = lval (W.take n) + 4294967296 ^ n * x := by
    rw [← lval_take_at hx, List.take_of_length_le (by omega)]
  have e3 : lval (d.take n) = lval d := lval_take_all (by omega)
  rw [e1, e2, ← e3, Nat.pow_succ]
  grind
/-- a round of adding the divisor back -/
def AddBack (d W W' : List Nat) (k c : Nat) : Prop :=
  W'.length = W.length ∧ W'.drop k = W.drop k ∧ lval (W'.take k) + c * 4294967296 ^ k = lval (W.take k) + lval (d.take k)
theorem AddBack.start (d W : List Nat) : AddBack d W W 0 0 := ⟨rfl, rfl, by simp [lval]⟩
theorem AddBack.step {k c v x : Nat} {d W W' : List Nat} (h : AddBack d W W' k c) (hv : d[k]? = some v) (hx : W[k]? = some x) :
    AddBack d W (W'.set k ((x + v + c) % 4294967296)) (k + 1) ((x + v + c) / 4294967296) := by
  obtain ⟨h1, h2, h3⟩ := h
  have hk : k < W.length := (List.getElem?_eq_some_iff.1 hx).1
  refine ⟨by rw [List.length_set, h1], by rw [drop_set_succ]; exact drop_succ_of h2, ?_⟩
  rw [take_set_succ (by omega), lval_snoc, take_len (by omega), lval_take_at hv, lval_take_at hx, Nat.pow_succ]
  have e := Nat.div_add_mod (x + v + c) 4294967296
  generalize (x + v + c) % 4294967296 = lo at *
  generalize (x + v + c) / 4294967296 = hi at *
  grind
theorem AddBack.last {n c x : Nat} {d W W' : List Nat} (h : AddBack d W W' n c) (hn : d.length = n) (hW : W.length = n + 1) (hx : W[n]? = some x) :
    lval (W'.set n ((x + c) % 4294967296)) + (x + c) / 4294967296 * 4294967296 ^ (n + 1) = lval W + lval d ∧ (W'.set n ((x + c) % 4294967296)).length = n + 1 := by
  obtain ⟨h1, h2, h3⟩ := h
  refine ⟨?_, by rw [List.length_set, h1, hW]⟩
  have e1 : lval (W'.set n ((x + c) % 4294967296)) = lval (W'.take n) + 4294967296 ^ n * ((x + c) % 4294967296) := by
    have := take_set_succ (l := W') (k := n) (y := (x + c) % 4294967296) (by omega)
    rw [List.take_of_length_le (by rw [List.length_set]; omega)] at this
    rw [this, lval_snoc, take_len (by omega)]
  have e2 : lval W = lval (W.take n) + 4294967296 ^ n * x := by
    rw [← lval_take_at hx, List.take_of_length_le (by omega)]
  have e3 : lval (d.take n) = lval d := lval_take_all (by omega)
  have e := Nat.div_add_mod (x + c) 4294967296
  rw [e1, e2, ← e3, Nat.pow_succ]
  generalize (x + c) % 4294967296 = lo at *
  generalize (x + c) / 4294967296 = hi at *
  grind
/-- the window and the divisor by their greatest limbs -/
theorem top_split {l : List Nat} {k x y : Nat} (hl : l.length = k + 2) (hx : l[k + 1]? = some x) (hy : l[k]? = some y) : lval l = (x * 4294967296 + y) * 4294967296 ^ k + lval (l.take k) := by
  have h := lval_split l k (by omega)
  rw [lval_drop_at hy, lval_drop_at hx, List.drop_eq_nil_of_le (by omega), lval] at h
  grind
theorem top_split3 {l : List Nat} {k x y z : Nat} (hl : l.length = k + 3) (hx : l[k + 2]? = some x) (hy : l[k + 1]? = some y) (hz : l[k]? = some z) : lval l = ((x * 4294967296 + y) * 4294967296 + z) * 4294967296 ^ k + lval (l.take k) := by
  have h := lval_split l k (by omega)
  rw [lval_drop_at hz, lval_drop_at hy, lval_drop_at hx, List.drop_eq_nil_of_le (by omega), lval] at h
  grind
theorem est_bound {P t D2 : Nat} (h : t < P) : (D2 * P + t) * 4294967296 ≤ (D2 + 1) * 4294967296 * P := by
  have : t * 4294967296 ≤ P * 4294967296 := Nat.mul_le_mul_right _ (by omega)
  grind
/-- the estimate at a window of a division -/
theorem est_window {d W : List Nat} {k x y z v1 v2 : Nat} (hdo : Ok d) (hWo : Ok W) (hd : d.length = k + 2) (hW : W.length = k + 3) (hx : W[k + 2]? = some x) (hy : W[k + 1]? = some y) (hz : W[k]? = some z) (hv1 : d[k + 1]? = some v1) (hv2 : d[k]? = some v2) (h1 : 2147483648 ≤ v1) (hlt : lval W < lval d * 4294967296) :
    lval W / lval d ≤ est (x * 4294967296 + y) z v1 v2 ∧ est (x * 4294967296 + y) z v1 v2 ≤ lval W / lval d + 1 ∧ x * 4294967296 + y < (v1 + 1) * 4294967296 := by
  have e1 := top_split hd hv1 hv2
  have e2 := top_split3 hW hx hy hz
  have b1 := lval_lt (hdo.take k)
  have b2 := lval_lt (hWo.take k)
  rw [take_len (by omega)] at b1 b2
  have hp := pow_pos k
  rw [e1, e2] at hlt ⊢
  obtain ⟨h2, h3⟩ := est_quot (top := x * 4294967296 + y) (u := z) (v1 := v1) (v2 := v2) rfl rfl hp (by omega) b2 b1 hlt
  refine ⟨h2, h3, ?_⟩
  rcases Nat.lt_or_ge (x * 4294967296 + y) ((v1 + 1) * 4294967296) with h | h
  · exact h
  · exfalso
    have hv2' : v2 < 4294967296 := hdo.at_ hv2
    have h4 : (v1 * 4294967296 + v2 + 1) * 4294967296 ≤ (x * 4294967296 + y) * 4294967296 + z := by
      have h7 : v1 * 4294967296 + v2 + 1 ≤ x * 4294967296 + y := by omega
      exact Nat.le_trans (Nat.mul_le_mul_right 4294967296 h7) (Nat.le_add_right _ _)
    have h5 : (v1 * 4294967296 + v2 + 1) * 4294967296 * 4294967296 ^ k ≤ ((x * 4294967296 + y) * 4294967296 + z) * 4294967296 ^ k := Nat.mul_le_mul_right (4294967296 ^ k) h4
    have h6 := est_bound (D2 := v1 * 4294967296 + v2) b1
    omega
end Go.Proofs.YtpbgmpjnfndfjaaGreatDoor.RnM
namespace Go.Proofs.YtpbgmpjnfndfjaaGreatDoor.RnL
theorem here : True := trivial
open RnA RnB RnS RnC RnK RnM
theorem limb_lt {l : List Nat} {i x P : Nat} (h : lval l < 4294967296 ^ i * P) (hx : l[i]? = some x) : x < P := by
  have hl : i < l.length := (List.getElem?_eq_some_iff.1 hx).1
  have e := lval_split l i (by omega)
  rw [lval_drop_at hx] at e
  have h1 : 4294967296 ^ i * x ≤ lval l := by
    rw [e]
    exact Nat.le_trans (Nat.mul_le_mul_left _ (by omega)) (Nat.le_add_left _ _)
  exact Nat.lt_of_mul_lt_mul_left (Nat.lt_of_le_of_lt h1 h)
theorem pow32 (s : Nat) (hs : s ≤ 32) : 4294967296 = 2 ^ s * 2 ^ (32 - s) := by rw [← Nat.pow_add, show s + (32 - s) = 32 by omega]
theorem or_low {s x m : Nat} (h : x < 2 ^ s) : x ||| 2 ^ s * m = x + 2 ^ s * m := by
  rw [Nat.or_comm, ← Nat.two_pow_add_eq_or_of_lt h, Nat.add_comm]
/-- the low limb of a shifted limb is laid over what was carried -/
theorem or_shift {s x a : Nat} (hs : s ≤ 32) (h : x < 2 ^ s) : x ||| (a * 2 ^ s) % 4294967296 = x + (a * 2 ^ s) % 4294967296 := by
  have e : (a * 2 ^ s) % 4294967296 = 2 ^ s * (a % 2 ^ (32 - s)) := by
    rw [pow32 s hs, Nat.mul_comm a, Nat.mul_mod_mul_left]
  rw [e, or_low h]
theorem shl_bounds {s x a : Nat} (hs : s ≤ 31) (h : x < 2 ^ s) (ha : a < 4294967296) : x + (a * 2 ^ s) % 4294967296 < 4294967296 ∧ (a * 2 ^ s) / 4294967296 < 2 ^ s ∧ a * 2 ^ s < 18446744073709551616 := by
  have e : (a * 2 ^ s) % 4294967296 = 2 ^ s * (a % 2 ^ (32 - s)) := by
    rw [pow32 s (by omega), Nat.mul_comm a, Nat.mul_mod_mul_left]
  have h1 : a % 2 ^ (32 - s) < 2 ^ (32 - s) := Nat.mod_lt _ (Nat.pow_pos (by omega))
  have hp : 2 ^ s ≤ 2 ^ 31 := Nat.pow_le_pow_right (by omega) hs
  have hp31 : (2 : Nat) ^ 31 = 2147483648 := rfl
  refine ⟨?_, ?_, ?_⟩
  · rw [e]
    have h2 : 2 ^ s * (a % 2 ^ (32 - s)) + 2 ^ s ≤ 2 ^ s * 2 ^ (32 - s) := by rw [← Nat.mul_succ]; exact Nat.mul_le_mul_left _ h1
    rw [← pow32 s (by omega)] at h2
    omega
  · refine (Nat.div_lt_iff_lt_mul (by omega)).2 ?_
    rw [Nat.mul_comm (2 ^ s)]
    exact Nat.mul_lt_mul_of_pos_right ha (Nat.pow_pos (by omega))
  · have : a * 2 ^ s ≤ 4294967295 * 2147483648 := Nat.mul_le_mul (by omega) (by omega)
    omega
/-- a round of a shift to the left -/
theorem shl_round {a out : List Nat} {i s x v : Nat} (h : lval out = lval (a.take i) * 2 ^ s) (hv : a[i]? = some v) (hx : out[i]? = some x) (hy : out[i + 1]? = some 0) :
    lval ((out.set i (x + (v * 2 ^ s) % 4294967296)).set (i + 1) ((v * 2 ^ s) / 4294967296)) = lval (a.take (i + 1)) * 2 ^ s := by
  have h1 := lval_set (y := x + (v * 2 ^ s) % 4294967296) hx
  have hy' : (out.set i (x + (v * 2 ^ s) % 4294967296))[i + 1]? = some 0 := by rw [List.getElem?_set_ne (by omega)]; exact hy
  have h2 := lval_set (y := (v * 2 ^ s) / 4294967296) hy'
  rw [lval_take_at hv]
  have e := Nat.div_add_mod (v * 2 ^ s) 4294967296
  rw [Nat.pow_succ] at h2
  generalize v * 2 ^ s % 4294967296 = lo at *
  generalize v * 2 ^ s / 4294967296 = hi at *
  grind
theorem shl_round_last {a out : List Nat} {i s x v : Nat} (h : lval out = lval (a.take i) * 2 ^ s) (hv : a[i]? = some v) (hx : out[i]? = some x) (hz : (v * 2 ^ s) / 4294967296 = 0) :
    lval (out.set i (x + (v * 2 ^ s) % 4294967296)) = lval (a.take (i + 1)) * 2 ^ s := by
  have h1 := lval_set (y := x + (v * 2 ^ s) % 4294967296) hx
  rw [lval_take_at hv]
  have e := Nat.div_add_mod (v * 2 ^ s) 4294967296
  rw [hz] at e
  generalize v * 2 ^ s % 4294967296 = lo at *
  grind
theorem shl_small {a : List Nat} {i s : Nat} (hok : Ok a) (hi : i ≤ a.length) : lval (a.take i) * 2 ^ s < 4294967296 ^ i * 2 ^ s := by
  have h := lval_lt (hok.take i)
  rw [take_len hi] at h
  exact Nat.mul_lt_mul_of_pos_right h (Nat.pow_pos (by omega))
/-- a list of limbs shifted to the right -/
def ush (s : Nat) : List Nat → List Nat
  | [] => []
  | x :: l => (x + 4294967296 * dig l 0) / 2 ^ s % 4294967296 :: ush s l
theorem ush_length (s : Nat) (l : List Nat) : (ush s l).length = l.length := by
  induction l with
  | nil => rfl
  | cons x l ih => simp [ush, ih]
theorem ush_at (s : Nat) {l : List Nat} {k x : Nat} (h : l[k]? = some x) : (ush s l)[k]? = some ((x + 4294967296 * dig l (k + 1)) / 2 ^ s % 4294967296) := by
  induction l generalizing k with
  | nil => simp at h
  | cons y l ih =>
    cases k with
    | zero => simp at h; subst h; simp [ush, dig]
    | succ k =>
      have := ih (k := k) (by simpa using h)
      simpa [ush, dig] using this
theorem ush_ok (s : Nat) (l : List Nat) : Ok (ush s l) := by
  induction l with
  | nil => exact Ok.nil
  | cons x l ih => exact Ok.cons (Nat.mod_lt _ (by omega)) ih
theorem dig0_mod {l : List Nat} {s : Nat} (hs : s ≤ 32) : lval l % 2 ^ s = dig l 0 % 2 ^ s := by
  cases l with
  | nil => simp [lval, dig]
  | cons x l =>
    rw [lval, pow32 s hs, Nat.mul_assoc, Nat.add_mul_mod_self_left]
    simp [dig]
theorem ush_val {s : Nat} (hs : s ≤ 31) {l : List Nat} (h : Ok l) : lval (ush s l) = lval l / 2 ^ s := by
  induction l with
  | nil => simp [ush, lval]
  | cons x l ih =>
    rw [ush, lval, lval, ih h.tail]
    have hp : 0 < 2 ^ s := Nat.pow_pos (by omega)
    have hx := h.head
    have hm := dig0_mod (l := l) (s := s) (by omega)
    have e1 := Nat.div_add_mod (lval l) (2 ^ s)
    have e2 := Nat.div_add_mod (dig l 0) (2 ^ s)
    rw [← hm] at e2
    have hr := Nat.mod_lt (lval l) hp
    generalize lval l % 2 ^ s = r at e1 e2 hr
    generalize lval l / 2 ^ s = qv at e1 ⊢
    generalize dig l 0 / 2 ^ s = qd at e2
    have f1 : x + 4294967296 * lval l = x + 4294967296 * r + 2 ^ s * (4294967296 * qv) := by rw [← e1]; grind
    have f2 : x + 4294967296 * dig l 0 = x + 4294967296 * r + 2 ^ s * (4294967296 * qd) := by rw [← e2]; grind
    rw [f1, f2, Nat.add_mul_div_left _ _ hp, Nat.add_mul_div_left _ _ hp, Nat.add_mul_mod_self_left]
    have hlt : (x + 4294967296 * r) / 2 ^ s < 4294967296 := by
      refine (Nat.div_lt_iff_lt_mul hp).2 ?_
      have : 4294967296 * (r + 1) ≤ 4294967296 * 2 ^ s := Nat.mul_le_mul_left _ hr
      omega
    rw [Nat.mod_eq_of_lt hlt]
/-- the state of the loop over the digits of a quotient: the digits qs from index i up are found -/
def DivInv (U0 D : Nat) (u qs : List Nat) (i : Nat) : Prop := U0 = lval qs * 4294967296 ^ i * D + lval u ∧ lval (u.drop i) < D
theorem DivInv.step {U0 D i : Nat} {pre W W' post qs : List Nat} (h : DivInv U0 D (pre ++ W ++ post) qs (i + 1)) (hi : pre.length = i) (hp : lval post = 0) (hW' : lval W' = lval W % D) (hD : 0 < D) :
    DivInv U0 D (pre ++ W' ++ post) (lval W / D :: qs) i := by
  obtain ⟨h1, _⟩ := h
  have hm := Nat.mod_lt (lval W) hD
  have hdm := Nat.div_add_mod (lval W) D
  constructor
  · rw [h1, List.append_assoc, List.append_assoc, lval_append, lval_append, lval_append, lval_append, hp, hi, lval, hW', Nat.pow_succ]
    generalize lval W % D = r at *
    generalize lval W / D = q at *
    grind
  · rw [List.append_assoc, ← hi, List.drop_left, lval_append, hp, hW']
    omega
/-- the window below a quotient's digit -/
theorem DivInv.window {U0 D n i : Nat} {pre W post qs : List Nat} (h : DivInv U0 D (pre ++ W ++ post) qs (i + 1)) (hi : pre.length = i) (hW : W.length = n + 1) (hok : Ok (pre ++ W ++ post)) (hD : D < 4294967296 ^ n) :
    lval post = 0 ∧ lval W < D * 4294967296 := by
  obtain ⟨_, h2⟩ := h
  obtain ⟨x, W1, rfl⟩ : ∃ x W1, W = x :: W1 := by
    cases W with
    | nil => simp at hW
    | cons x l => exact ⟨x, l, rfl⟩
  have e : (pre ++ x :: W1 ++ post).drop (i + 1) = W1 ++ post := by
    rw [List.append_assoc, ← hi, ← List.drop_drop, List.drop_left]; rfl
  rw [e, lval_append] at h2
  have hl : W1.length = n := by simpa using hW
  have hx : x < 4294967296 := hok x (by simp)
  have hp : lval post = 0 := by
    rcases Nat.eq_zero_or_pos (lval post) with h0 | h0
    · exact h0
    · have : 4294967296 ^ W1.length * 1 ≤ 4294967296 ^ W1.length * lval post := Nat.mul_le_mul_left _ h0
      rw [hl] at this h2
      omega
  refine ⟨hp, ?_⟩
  rw [hp] at h2
  rw [lval]
  have : (lval W1 + 1) * 4294967296 ≤ D * 4294967296 := Nat.mul_le_mul_right _ (by omega)
  omega
/-- where the loop starts -/
theorem DivInv.start {U0 D s n m : Nat} {a u : List Nat} (ha : Ok a) (hu : lval u = U0) (hU : U0 = lval a * 2 ^ s) (hs : s ≤ 31) (hal : a.length + 1 = m + n) (hul : u.length = m + n) (hn : 0 < n) (hD : 2147483648 * 4294967296 ^ (n - 1) ≤ D) : DivInv U0 D u [] m := by
  refine ⟨by rw [hu]; simp [lval], ?_⟩
  have e := lval_split u m (by omega)
  have hlt := lval_lt ha
  have h1 : 4294967296 ^ m * lval (u.drop m) < 4294967296 ^ m * D := by
    have h2 : 4294967296 ^ m * lval (u.drop m) ≤ lval a * 2 ^ s := by rw [← hU, ← hu, e]; exact Nat.le_add_left _ _
    have h3 : lval a * 2 ^ s < 4294967296 ^ a.length * 2 ^ s := Nat.mul_lt_mul_of_pos_right hlt (Nat.pow_pos (by omega))
    have h4 : 4294967296 ^ a.length = 4294967296 ^ m * 4294967296 ^ (n - 1) := by rw [← Nat.pow_add]; congr 1; omega
    have h5 : 2 ^ s ≤ 2147483648 := Nat.pow_le_pow_right (by omega) hs
    have h6 : 4294967296 ^ m * 4294967296 ^ (n - 1) * 2 ^ s ≤ 4294967296 ^ m * D := by
      rw [Nat.mul_assoc]
      refine Nat.mul_le_mul_left _ (Nat.le_trans ?_ hD)
      rw [Nat.mul_comm]
      exact Nat.mul_le_mul_right _ h5
    rw [h4] at h3
    exact Nat.lt_of_le_of_lt h2 (Nat.lt_of_lt_of_le h3 h6)
  exact Nat.lt_of_mul_lt_mul_left h1
/-- what the loop has found at its end -/
theorem DivInv.finish {A Bv s : Nat} {u qs : List Nat} (h : DivInv (A * 2 ^ s) (Bv * 2 ^ s) u qs 0) : lval qs = A / Bv ∧ lval u / 2 ^ s = A % Bv := by
  obtain ⟨h1, h2⟩ := h
  have hp : 0 < 2 ^ s := Nat.pow_pos (by omega)
  simp only [Nat.pow_zero, Nat.mul_one, List.drop_zero] at h1 h2
  have hdvd : 2 ^ s ∣ lval u := by
    have e : lval u = 2 ^ s * A - 2 ^ s * (lval qs * Bv) := by
      have : lval qs * (Bv * 2 ^ s) = 2 ^ s * (lval qs * Bv) := by grind
      have : A * 2 ^ s = 2 ^ s * A := Nat.mul_comm _ _
      omega
    rw [e, ← Nat.mul_sub]
    exact Nat.dvd_mul_right _ _
  obtain ⟨r, hr⟩ := hdvd
  rw [hr] at h1 h2
  have h3 : A = Bv * lval qs + r := by
    have : 2 ^ s * A = 2 ^ s * (Bv * lval qs + r) := by grind
    exact Nat.eq_of_mul_eq_mul_left hp this
  have h4 : r < Bv := by
    rw [Nat.mul_comm] at h2
    exact Nat.lt_of_mul_lt_mul_right h2
  rw [hr, Nat.mul_div_cancel_left _ hp]
  constructor
  · rw [h3, Nat.mul_add_div (by omega), Nat.div_eq_of_lt h4, Nat.add_zero]
  · rw [h3, Nat.mul_add_mod, Nat.mod_eq_of_lt h4]
end Go.Proofs.YtpbgmpjnfndfjaaGreatDoor.RnL
namespace Go.Proofs.YtpbgmpjnfndfjaaGreatDoor.RnN
theorem here : True := trivial
open RnA RnB RnS RnC RnM
def MulAdd (f c0 : Nat) (W W' : List Nat) (k c : Nat) : Prop :=
  W'.length = W.length ∧ W'.drop k = W.drop k ∧ lval (W'.take k) + c * 4294967296 ^ k = f * lval (W.take k) + c0
theorem MulAdd.start (f c0 : Nat) (W : List Nat) : MulAdd f c0 W W 0 c0 := ⟨rfl, rfl, by simp [lval]⟩
theorem MulAdd.step {f c0 k c x : Nat} {W W' : List Nat} (h : MulAdd f c0 W W' k c) (hx : W[k]? = some x) : MulAdd f c0 W (W'.set k ((x * f + c) % 4294967296)) (k + 1) ((x * f + c) / 4294967296) := by
  obtain ⟨h1, h2, h3⟩ := h
  have hk : k < W.length := (List.getElem?_eq_some_iff.1 hx).1
  refine ⟨by rw [List.length_set, h1], by rw [drop_set_succ]; exact drop_succ_of h2, ?_⟩
  rw [take_set_succ (by omega), lval_snoc, take_len (by omega), lval_take_at hx, Nat.pow_succ]
  have e := Nat.div_add_mod (x * f + c) 4294967296
  generalize (x * f + c) % 4294967296 = lo at *
  generalize (x * f + c) / 4294967296 = hi at *
  grind
theorem MulAdd.fin0 {f c0 : Nat} {W W' : List Nat} (h : MulAdd f c0 W W' W.length 0) : lval W' = f * lval W + c0 := by
  obtain ⟨h1, _, h3⟩ := h
  rw [lval_take_all (by omega), lval_take_all (by omega)] at h3
  omega
theorem MulAdd.fin1 {f c0 c : Nat} {W W' : List Nat} (h : MulAdd f c0 W W' W.length c) : lval (W' ++ [c]) = f * lval W + c0 := by
  obtain ⟨h1, _, h3⟩ := h
  rw [lval_take_all (by omega), lval_take_all (by omega)] at h3
  rw [lval_snoc, h1, Nat.mul_comm _ c]
  exact h3
/-- no zero at the end -/
def Cn (l : List Nat) : Prop := l = [] ∨ 4294967296 ^ (l.length - 1) ≤ lval l
theorem MulAdd.cn0 {f c0 : Nat} {W W' : List Nat} (h : MulAdd f c0 W W' W.length 0) (hf : 1 ≤ f) (hc : Cn W) : Cn W' := by
  have hv := h.fin0
  have h1 := h.1
  rcases hc with rfl | hc
  · left; exact List.eq_nil_of_length_eq_zero h1
  · right
    rw [h1, hv]
    have : 1 * lval W ≤ f * lval W := Nat.mul_le_mul_right _ hf
    omega
theorem cn_snoc {c : Nat} {W' : List Nat} (hc : 0 < c) : Cn (W' ++ [c]) := by
  right
  rw [lval_snoc, List.length_append, List.length_singleton, Nat.add_sub_cancel]
  have : 4294967296 ^ W'.length * 1 ≤ 4294967296 ^ W'.length * c := Nat.mul_le_mul_left _ hc
  omega
theorem Cn.limbs {l : List Nat} (h : Cn l) (ho : Ok l) : l = limbs (lval l) := canon_of_ge ho h
end Go.Proofs.YtpbgmpjnfndfjaaGreatDoor.RnN
namespace Go.Proofs.YtpbgmpjnfndfjaaGreatDoor.RnD
theorem here : True := trivial
open RnA RnB
/-- the value of digits -/
def dec : List UInt8 → Nat
  | [] => 0
  | c :: l => 10 ^ l.length * (c.toNat - 48) + dec l
def isDig (c : UInt8) : Bool := decide (48 ≤ c.toNat) && decide (c.toNat ≤ 57)
def digs (l : List UInt8) : Bool := l.all isDig
/-- a number in decimal -/
def decOf (n : Nat) : List UInt8 := if n < 10 then [UInt8.ofNat (48 + n)] else decOf (n / 10) ++ [UInt8.ofNat (48 + n % 10)]
termination_by n
decreasing_by omega
theorem decOf_small {n : Nat} (h : n < 10) : decOf n = [UInt8.ofNat (48 + n)] := by rw [decOf, if_pos h]
theorem decOf_big {n : Nat} (h : ¬ n < 10) : decOf n = decOf (n / 10) ++ [UInt8.ofNat (48 + n % 10)] := by rw [decOf, if_neg h]
theorem dec_append (a b : List UInt8) : dec (a ++ b) = 10 ^ b.length * dec a + dec b := by
  induction a with
  | nil => simp [dec]
  | cons x a ih => simp only [List.cons_append, dec, List.length_append, ih, Nat.pow_add]; grind
theorem dec_snoc (a : List UInt8) (c : UInt8) : dec (a ++ [c]) = 10 * dec a + (c.toNat - 48) := by rw [dec_append]; simp [dec]
theorem dig_ofNat {n : Nat} (h : n < 10) : (UInt8.ofNat (48 + n)).toNat = 48 + n := by simp; omega
theorem isDig_ofNat {n : Nat} (h : n < 10) : isDig (UInt8.ofNat (48 + n)) = true := by unfold isDig; rw [dig_ofNat h]; simp; omega
theorem dec_decOf (n : Nat) : dec (decOf n) = n := by
  induction n using Nat.strongRecOn with
  | ind n ih =>
    by_cases h : n < 10
    · rw [decOf_small h, dec, dig_ofNat h, dec]; simp
    · rw [decOf_big h, dec_snoc, ih _ (by omega), dig_ofNat (by omega)]; omega
theorem digs_decOf (n : Nat) : digs (decOf n) = true := by
  induction n using Nat.strongRecOn with
  | ind n ih =>
    by_cases h : n < 10
    · rw [decOf_small h]; show (_ && true) = true; rw [isDig_ofNat h]; rfl
    · rw [decOf_big h]
      have := ih (n / 10) (by omega)
      unfold digs at this ⊢
      rw [List.all_append, this]
      show (true && (_ && true)) = true
      rw [isDig_ofNat (by omega : n % 10 < 10)]; rfl
theorem decOf_ne (n : Nat) : decOf n ≠ [] := by
  by_cases h : n < 10
  · rw [decOf_small h]; simp
  · rw [decOf_big h]; simp
theorem decOf_head {n : Nat} (h0 : n ≠ 0) : ∃ c l, decOf n = c :: l ∧ c ≠ 48 := by
  induction n using Nat.strongRecOn with
  | ind n ih =>
    by_cases h : n < 10
    · refine ⟨_, [], decOf_small h, fun e => ?_⟩
      have := congrArg UInt8.toNat e
      rw [dig_ofNat h] at this
      simp at this
      omega
    · obtain ⟨c, l, e, hc⟩ := ih (n / 10) (by omega) (by omega)
      exact ⟨c, l ++ [UInt8.ofNat (48 + n % 10)], by rw [decOf_big h, e]; rfl, hc⟩
theorem decOf_snoc {m : Nat} {c : UInt8} (hm : m ≠ 0) (hc : isDig c = true) : decOf (10 * m + (c.toNat - 48)) = decOf m ++ [c] := by
  simp only [isDig, Bool.and_eq_true, decide_eq_true_eq] at hc
  rw [decOf_big (by omega), show (10 * m + (c.toNat - 48)) / 10 = m by omega, show (10 * m + (c.toNat - 48)) % 10 = c.toNat - 48 by omega, show 48 + (c.toNat - 48) = c.toNat by omega]
  simp
theorem decOf_digit {c : UInt8} (hc : isDig c = true) : decOf (c.toNat - 48) = [c] := by
  simp only [isDig, Bool.and_eq_true, decide_eq_true_eq] at hc
  rw [decOf_small (by omega), show 48 + (c.toNat - 48) = c.toNat by omega]
  simp
theorem dropD_append (a b : List UInt8) : (a ++ b).dropWhile (· == 48) = if a.all (· == 48) then b.dropWhile (· == 48) else a.dropWhile (· == 48) ++ b := by
  induction a with
  | nil => simp
  | cons x a ih =>
    by_cases h : x = 48
    · subst h; simpa using ih
    · simp [h]
theorem dec_zeros {l : List UInt8} (hl : digs l = true) : dec l = 0 ↔ l.all (· == 48) = true := by
  induction l with
  | nil => simp [dec]
  | cons c l ih =>
    simp only [digs, List.all_cons, Bool.and_eq_true] at hl
    have ih := ih hl.2
    have hp : 0 < 10 ^ l.length := Nat.pow_pos (by omega)
    have hc := hl.1
    simp only [isDig, Bool.and_eq_true, decide_eq_true_eq] at hc
    simp only [dec, List.all_cons, Bool.and_eq_true, beq_iff_eq]
    rw [← ih]
    constructor
    · intro h
      have h1 : 10 ^ l.length * (c.toNat - 48) = 0 := by omega
      rcases Nat.mul_eq_zero.1 h1 with h2 | h2
      · omega
      · exact ⟨UInt8.toNat_inj.1 (by show c.toNat = 48; omega), by omega⟩
    · rintro ⟨rfl, h⟩
      simp [h]
/-- dropping leading zeros of digits leaves the number in decimal, or nothing for 0 -/
theorem dropD_eq {l : List UInt8} (hl : digs l = true) : l.dropWhile (· == 48) = if dec l = 0 then [] else decOf (dec l) := by
  induction h : l.length generalizing l with
  | zero =>
    have : l = [] := List.eq_nil_of_length_eq_zero h
    subst this
    simp [dec]
  | succ k ih =>
    have hne : l ≠ [] := fun e => by subst e; simp at h
    obtain ⟨a, c, rfl⟩ : ∃ a c, l = a ++ [c] := ⟨l.dropLast, l.getLast hne, (List.dropLast_concat_getLast hne).symm⟩
    have hk : a.length = k := by simpa using h
    unfold digs at hl
    rw [List.all_append, Bool.and_eq_true] at hl
    have ha : digs a = true := hl.1
    have hc : isDig c = true := by simpa using hl.2
    rw [dropD_append, dec_snoc]
    by_cases hz : a.all (· == 48) = true
    · rw [if_pos hz, (dec_zeros ha).2 hz]
      by_cases h0 : c = 48
      · subst h0; simp
      · have h1 : c.toNat ≠ 48 := fun e => h0 (UInt8.toNat_inj.1 e)
        have h2 := hc
        simp only [isDig, Bool.and_eq_true, decide_eq_true_eq] at h2
        rw [if_neg (by omega), Nat.mul_zero, Nat.zero_add, decOf_digit hc]
        simp [h0]
    · rw [if_neg hz, ih ha hk]
      have h0 : dec a ≠ 0 := fun e => hz ((dec_zeros ha).1 e)
      rw [if_neg h0, if_neg (by omega), decOf_snoc h0 hc]
theorem decOf_inj {a b : Nat} (h : decOf a = decOf b) : a = b := by rw [← dec_decOf a, ← dec_decOf b, h]
theorem dec_lt {l : List UInt8} (hl : digs l = true) : dec l < 10 ^ l.length := by
  induction l with
  | nil => simp [dec]
  | cons c l ih =>
    simp only [digs, List.all_cons, Bool.and_eq_true] at hl
    have ih := ih hl.2
    have hc := hl.1
    simp only [isDig, Bool.and_eq_true, decide_eq_true_eq] at hc
    simp only [dec, List.length_cons, Nat.pow_succ]
    have h2 : 10 ^ l.length * (c.toNat - 48) ≤ 10 ^ l.length * 9 := Nat.mul_le_mul_left _ (by omega)
    omega
theorem decOf_len_le {n k : Nat} (h : n < 10 ^ (k + 1)) : (decOf n).length ≤ k + 1 := by
  induction k generalizing n with
  | zero => rw [decOf_small (by simpa using h)]; simp
  | succ k ih =>
    by_cases h1 : n < 10
    · rw [decOf_small h1]; simp
    · rw [decOf_big h1]
      have := ih (n := n / 10) (by rw [Nat.pow_succ] at h; omega)
      simp; omega
/-- an integer in decimal: digits, no leading zero -/
def isInt (l : List UInt8) : Bool := digs l && decide (l ≠ []) && (decide (l = [48]) || decide (l.head? ≠ some 48))
theorem isInt_decOf (n : Nat) : isInt (decOf n) = true := by
  unfold isInt
  rw [digs_decOf]
  by_cases h : n = 0
  · subst h; rw [decOf_small (by omega)]; rfl
  · obtain ⟨c, l, e, hc⟩ := decOf_head h
    rw [e]
    simp [hc]
theorem decOf_dec {l : List UInt8} (h : isInt l = true) : decOf (dec l) = l := by
  unfold isInt at h
  simp only [Bool.and_eq_true, Bool.or_eq_true, decide_eq_true_eq] at h
  obtain ⟨⟨h1, h2⟩, h3⟩ := h
  rcases h3 with h3 | h3
  · subst h3; simp [dec, decOf_small]
  · rcases l with _ | ⟨c, l⟩
    · contradiction
    · have hc : c ≠ 48 := fun e => h3 (by rw [e]; rfl)
      have e := dropD_eq h1
      have e2 : (c :: l).dropWhile (· == 48) = c :: l := by simp [hc]
      rw [e2] at e
      by_cases h0 : dec (c :: l) = 0
      · rw [if_pos h0] at e; cases e
      · rw [if_neg h0] at e; exact e.symm
end Go.Proofs.YtpbgmpjnfndfjaaGreatDoor.RnD
namespace Go.Proofs.YtpbgmpjnfndfjaaGreatDoor.RnE
theorem here : True := trivial
open RnA RnB RnD
/-- the value of digits, the last one first -/
def ldec : List UInt8 → Nat
  | [] => 0
  | c :: l => (c.toNat - 48) + 10 * ldec l
theorem ldec_snoc (l : List UInt8) (c : UInt8) : ldec (l ++ [c]) = ldec l + 10 ^ l.length * (c.toNat - 48) := by
  induction l with
  | nil => simp [ldec]
  | cons x l ih => simp only [List.cons_append, ldec, ih, List.length_cons, Nat.pow_succ]; grind
theorem dec_reverse (l : List UInt8) : dec l.reverse = ldec l := by
  induction l with
  | nil => rfl
  | cons c l ih => rw [List.reverse_cons, dec_snoc, ih, ldec]; omega
theorem digs_snoc {l : List UInt8} {r : Nat} (h : digs l = true) (hr : r < 10) : digs (l ++ [UInt8.ofNat (48 + r)]) = true := by
  unfold digs at h ⊢
  rw [List.all_append, h]
  show (true && (_ && true)) = true
  rw [isDig_ofNat hr]; rfl
theorem digs_reverse {l : List UInt8} (h : digs l = true) : digs l.reverse = true := by
  unfold digs at h ⊢
  rw [List.all_eq_true] at h ⊢
  intro x hx
  exact h x (List.mem_reverse.1 hx)
/-- one digit more -/
theorem dig_round {D : List UInt8} {N r q k : Nat} (h : N = ldec D + 10 ^ D.length * (r + 10 ^ (k + 1) * q)) : N = ldec (D ++ [UInt8.ofNat (48 + r % 10)]) + 10 ^ (D ++ [UInt8.ofNat (48 + r % 10)]).length * (r / 10 + 10 ^ k * q) := by
  rw [ldec_snoc, dig_ofNat (Nat.mod_lt _ (by omega)), List.length_append, List.length_singleton, Nat.pow_succ, h, Nat.pow_succ]
  have e := Nat.div_add_mod r 10
  rw [show 48 + r % 10 - 48 = r % 10 by omega]
  generalize r % 10 = m at *
  generalize r / 10 = d at *
  grind
theorem dig_chunk {D : List UInt8} {N V : Nat} (h : N = ldec D + 10 ^ D.length * V) : N = ldec D + 10 ^ D.length * (V % 1000000000 + 10 ^ 9 * (V / 1000000000)) := by
  have e := Nat.div_add_mod V 1000000000
  rw [show (10 : Nat) ^ 9 = 1000000000 from rfl, Nat.add_comm (V % 1000000000), e]; exact h
theorem dig_fin {D : List UInt8} {N : Nat} (h : N = ldec D) (hd : digs D = true) (h0 : N ≠ 0) : D.reverse.dropWhile (· == 48) = decOf N := by
  rw [dropD_eq (digs_reverse hd), dec_reverse, ← h, if_neg h0]
/-- the digits of a number, collected one by one -/
def Wr (N : Nat) (D : List UInt8) (V : Nat) : Prop := if V = 0 then decOf N = D.reverse else decOf N = decOf V ++ D.reverse
theorem Wr.start {N : Nat} (h : N ≠ 0) : Wr N [] N := by unfold Wr; rw [if_neg h]; simp
theorem Wr.step {N V : Nat} {D : List UInt8} (h : Wr N D V) (hV : V ≠ 0) : Wr N (D ++ [UInt8.ofNat (48 + V % 10)]) (V / 10) := by
  unfold Wr at h ⊢
  rw [if_neg hV] at h
  by_cases h1 : V / 10 = 0
  · rw [if_pos h1, h, decOf_small (by omega), Nat.mod_eq_of_lt (by omega)]; simp
  · rw [if_neg h1, h, decOf_big (by omega)]; simp
/-- a list of bytes of which the first i and the last i have changed places -/
def Swapped (l m : List UInt8) (i : Nat) : Prop := m.length = l.length ∧ ∀ j, j < l.length → m[j]? = if j < i ∨ l.length - i ≤ j then l[l.length - 1 - j]? else l[j]?
theorem Swapped.start (l : List UInt8) : Swapped l l 0 := ⟨rfl, fun j hj => by rw [if_neg (by omega)]⟩
theorem Swapped.step {l m : List UInt8} {i : Nat} {x y : UInt8} (h : Swapped l m i) (hi : i + 1 ≤ l.length - 1 - i) (hx : m[i]? = some x) (hy : m[l.length - 1 - i]? = some y) : Swapped l ((m.set i y).set (l.length - 1 - i) x) (i + 1) := by
  obtain ⟨h1, h2⟩ := h
  have hx' := (h2 i (by omega)).symm.trans hx
  have hy' := (h2 (l.length - 1 - i) (by omega)).symm.trans hy
  rw [if_neg (by omega)] at hx' hy'
  refine ⟨by rw [List.length_set, List.length_set, h1], fun j hj => ?_⟩
  rw [List.getElem?_set, List.getElem?_set, List.length_set, h1]
  by_cases e1 : l.length - 1 - i = j
  · rw [if_pos e1, if_pos (by omega), if_pos (by omega), ← e1, show l.length - 1 - (l.length - 1 - i) = i by omega, hx']
  · rw [if_neg e1]
    by_cases e2 : i = j
    · subst e2
      rw [if_pos rfl, if_pos (by omega), if_pos (by omega), hy']
    · rw [if_neg e2, h2 j hj]
      by_cases h3 : j < i ∨ l.length - i ≤ j
      · rw [if_pos h3, if_pos (by omega)]
      · rw [if_neg h3, if_neg (by omega)]
theorem Swapped.finish {l m : List UInt8} {i : Nat} (h : Swapped l m i) (hi : l.length - 1 - i ≤ i) (hi2 : 2 * i ≤ l.length) : m = l.reverse := by
  obtain ⟨h1, h2⟩ := h
  refine List.ext_getElem? fun j => ?_
  by_cases hj : j < l.length
  · rw [h2 j hj, List.getElem?_reverse hj]
    by_cases h3 : j < i ∨ l.length - i ≤ j
    · rw [if_pos h3]
    · rw [if_neg h3]; congr 1; omega
  · rw [List.getElem?_eq_none (by omega), List.getElem?_eq_none (by simp; omega)]
end Go.Proofs.YtpbgmpjnfndfjaaGreatDoor.RnE
namespace Go.Proofs.YtpbgmpjnfndfjaaGreatDoor.RnQ
theorem here : True := trivial
open RnA RnB
def sg (neg : Bool) (n : Nat) : Int := if neg then -(n : Int) else n
theorem sg_abs (neg : Bool) (n : Nat) : (sg neg n).natAbs = n := by cases neg <;> simp [sg]
def negB (q : Rat) : Bool := decide (q.num < 0)
def encN (q : Rat) : List UInt8 := bytesOf q.num.natAbs
def encD (q : Rat) : List UInt8 := if q.den = 1 then [] else bytesOf q.den
def dval (den : List UInt8) : Nat := if den = [] then 1 else bval den
def validB (neg : Bool) (num den : List UInt8) : Bool :=
  decide (num = bytesOf (bval num)) && decide (den = bytesOf (bval den)) && (if num = [] then !neg && decide (den = []) else decide (den = []) || (decide (den ≠ [1]) && decide ((bval num).gcd (bval den) = 1)))
def fixQ (neg : Bool) (num den : List UInt8) : Rat := if validB neg num den then mkRat (sg neg (bval num)) (dval den) else 0
theorem mk_abs (neg : Bool) (n d : Nat) (hd : d ≠ 0) : (mkRat (sg neg n) d).num.natAbs = n / n.gcd d := by
  rw [Rat.num_mkRat, if_neg hd, sg_abs, Nat.gcd_comm]
  cases neg
  · simp only [sg, Bool.false_eq_true, if_false, ← Int.natCast_ediv, Int.natAbs_natCast]
  · have h : ((n.gcd d : Nat) : Int) ∣ (n : Int) := Int.natCast_dvd_natCast.2 (Nat.gcd_dvd_left _ _)
    simp only [sg, if_true, Int.neg_ediv_of_dvd h, Int.natAbs_neg, ← Int.natCast_ediv, Int.natAbs_natCast]
theorem mk_den (neg : Bool) (n d : Nat) (hd : d ≠ 0) : (mkRat (sg neg n) d).den = d / n.gcd d := by
  rw [Rat.den_mkRat, if_neg hd, sg_abs, Nat.gcd_comm]
theorem div_gcd_pos {n d : Nat} (hn : n ≠ 0) : n / n.gcd d ≠ 0 := by
  have h1 := Nat.gcd_pos_of_pos_left d (Nat.pos_of_ne_zero hn)
  have h2 := Nat.gcd_le_left d (Nat.pos_of_ne_zero hn)
  exact Nat.pos_iff_ne_zero.1 (Nat.div_pos h2 h1)
theorem mk_neg (neg : Bool) (n d : Nat) (hd : d ≠ 0) : negB (mkRat (sg neg n) d) = (neg && decide (n ≠ 0)) := by
  have ha := mk_abs neg n d hd
  by_cases hn : n = 0
  · subst hn
    have : (mkRat (sg neg 0) d) = 0 := by cases neg <;> simp [sg, Rat.zero_mkRat]
    rw [this]
    cases neg <;> rfl
  · have hp := div_gcd_pos (d := d) hn
    have h1 : (mkRat (sg neg n) d).num = (sg neg n) / ((n.gcd d : Nat) : Int) := by
      rw [Rat.num_mkRat, if_neg hd, sg_abs, Nat.gcd_comm]
    unfold negB
    cases neg
    · have : ¬ ((mkRat (sg false n) d).num < 0) := by
        rw [h1]
        simp only [sg, Bool.false_eq_true, if_false, ← Int.natCast_ediv]
        omega
      simp [this]
    · have h : ((n.gcd d : Nat) : Int) ∣ (n : Int) := Int.natCast_dvd_natCast.2 (Nat.gcd_dvd_left _ _)
      have : (mkRat (sg true n) d).num < 0 := by
        rw [h1]
        simp only [sg, if_true, Int.neg_ediv_of_dvd h, ← Int.natCast_ediv]
        omega
      simp [this, hn]
theorem sg_num (q : Rat) : sg (negB q) q.num.natAbs = q.num := by
  unfold sg negB
  by_cases h : q.num < 0
  · simp [h]; omega
  · simp [h]; omega
theorem mk_self (q : Rat) : mkRat (sg (negB q) q.num.natAbs) q.den = q := by rw [sg_num, Rat.mkRat_self]
theorem dval_encD (q : Rat) : dval (encD q) = q.den := by
  unfold dval encD
  by_cases h : q.den = 1
  · simp [h]
  · rw [if_neg h, if_neg (by rw [bytesOf_nil]; exact q.den_nz), bval_bytesOf]
theorem valid_enc (q : Rat) : validB (negB q) (encN q) (encD q) = true := by
  have hr : q.num.natAbs.gcd q.den = 1 := q.reduced
  unfold validB
  simp only [Bool.and_eq_true, decide_eq_true_eq]
  refine ⟨⟨?_, ?_⟩, ?_⟩
  · unfold encN; rw [bval_bytesOf]
  · unfold encD
    by_cases h : q.den = 1
    · simp [h, bval, bytesOf_zero]
    · rw [if_neg h, bval_bytesOf]
  · by_cases h : encN q = []
    · rw [if_pos h]
      have h0 : q.num.natAbs = 0 := bytesOf_nil.1 h
      rw [h0, Nat.gcd_zero_left] at hr
      have h1 : ¬ q.num < 0 := by omega
      simp [negB, encD, hr, h1]
    · rw [if_neg h]
      by_cases h1 : q.den = 1
      · simp [encD, h1]
      · have h2 : encD q = bytesOf q.den := by unfold encD; rw [if_neg h1]
        have h3 : bytesOf q.den ≠ [1] := fun e => h1 (bytesOf_inj (e.trans bytesOf_one.symm))
        rw [h2]
        simp [h3, encN, bval_bytesOf, hr]
theorem fix_enc (q : Rat) : fixQ (negB q) (encN q) (encD q) = q := by
  unfold fixQ
  rw [if_pos (valid_enc q), dval_encD]
  unfold encN
  rw [bval_bytesOf, mk_self]
theorem enc_fix {neg : Bool} {num den : List UInt8} (h : validB neg num den = true) : negB (fixQ neg num den) = neg ∧ encN (fixQ neg num den) = num ∧ encD (fixQ neg num den) = den := by
  have e : fixQ neg num den = mkRat (sg neg (bval num)) (dval den) := by unfold fixQ; rw [if_pos h]
  rw [e]
  unfold validB at h
  simp only [Bool.and_eq_true, decide_eq_true_eq] at h
  obtain ⟨⟨h1, h2⟩, h3⟩ := h
  have hd0 : dval den ≠ 0 := by
    unfold dval
    split
    · omega
    · intro e0
      rw [e0, bytesOf_zero] at h2
      contradiction
  rw [mk_neg _ _ _ hd0]
  unfold encN encD
  rw [mk_abs _ _ _ hd0, mk_den _ _ _ hd0]
  by_cases hn : num = []
  · rw [if_pos hn] at h3
    subst hn
    simp only [Bool.and_eq_true, decide_eq_true_eq, Bool.not_eq_true'] at h3
    obtain ⟨rfl, rfl⟩ := h3
    simp [bval, dval, bytesOf_zero]
  · rw [if_neg hn] at h3
    have hb : bval num ≠ 0 := fun e0 => by rw [e0, bytesOf_zero] at h1; exact hn h1
    refine ⟨by simp [hb], ?_⟩
    by_cases hdn : den = []
    · subst hdn
      simp only [dval, if_true, Nat.gcd_one_right, Nat.div_one]
      exact ⟨h1.symm, trivial⟩
    · have e2 : dval den = bval den := by unfold dval; rw [if_neg hdn]
      simp only [hdn, decide_false, Bool.false_or, Bool.and_eq_true, decide_eq_true_eq] at h3
      rw [e2, h3.2, Nat.div_one, Nat.div_one]
      refine ⟨h1.symm, ?_⟩
      rw [if_neg (fun e3 => h3.1 (by rw [h2, e3, bytesOf_one]))]
      exact h2.symm
theorem enc_inj {a b : Rat} (h1 : negB a = negB b) (h2 : encN a = encN b) (h3 : encD a = encD b) : a = b := by
  rw [← fix_enc a, ← fix_enc b, h1, h2, h3]
/-- the fields of a quotient -/
theorem encN_mk (neg : Bool) (n d : Nat) (hd : d ≠ 0) : encN (mkRat (sg neg n) d) = bytesOf (n / n.gcd d) := by unfold encN; rw [mk_abs _ _ _ hd]
theorem encD_mk (neg : Bool) (n d : Nat) (hd : d ≠ 0) : encD (mkRat (sg neg n) d) = if d / n.gcd d = 1 then [] else bytesOf (d / n.gcd d) := by unfold encD; rw [mk_den _ _ _ hd]
theorem enc_zero : negB 0 = false ∧ encN 0 = [] ∧ encD 0 = [] := by
  refine ⟨rfl, ?_, rfl⟩
  show bytesOf 0 = []
  exact bytesOf_zero
end Go.Proofs.YtpbgmpjnfndfjaaGreatDoor.RnQ
namespace Go.Proofs.YtpbgmpjnfndfjaaGreatDoor.RnR
theorem here : True := trivial
open RnA RnB RnQ
/-- the numerator's absolute value -/
def nm (q : Rat) : Nat := q.num.natAbs
/-- the number of a sign, a numerator and a denominator -/
def mk (s : Bool) (n d : Nat) : Rat := mkRat (sg s n) d
theorem mk_nm (q : Rat) : mk (negB q) (nm q) q.den = q := mk_self q
theorem mk_scale (s : Bool) (n d : Nat) {k : Nat} (hk : k ≠ 0) : mk s (n * k) (d * k) = mk s n d := by
  unfold mk
  have e : sg s (n * k) = sg s n * (k : Int) := by cases s <;> simp [sg, Int.neg_mul]
  rw [e, Rat.mkRat_mul_right hk]
theorem nm_mk (s : Bool) (n d : Nat) (hd : d ≠ 0) : nm (mk s n d) = n / n.gcd d := mk_abs s n d hd
theorem den_mk (s : Bool) (n d : Nat) (hd : d ≠ 0) : (mk s n d).den = d / n.gcd d := mk_den s n d hd
theorem neg_mk (s : Bool) (n d : Nat) (hd : d ≠ 0) : negB (mk s n d) = (s && decide (n ≠ 0)) := mk_neg s n d hd
theorem nm_zero {q : Rat} : nm q = 0 ↔ q = 0 := by unfold nm; rw [Int.natAbs_eq_zero, Rat.num_eq_zero]
theorem nm_neg {q : Rat} (h : negB q = true) : nm q ≠ 0 := by
  unfold negB at h; unfold nm
  have : q.num < 0 := by simpa using h
  omega
theorem mk_add_same (s t : Bool) (x y d : Nat) (hd : d ≠ 0) : mk s x d + mk t y d = mkRat (sg s x + sg t y) d := by
  unfold mk
  rw [Rat.mkRat_add_mkRat _ _ hd hd, ← Int.add_mul, Rat.mkRat_mul_right hd]
theorem mk_add_eq (s : Bool) (x y d : Nat) (hd : d ≠ 0) : mk s x d + mk s y d = mk s (x + y) d := by
  rw [mk_add_same _ _ _ _ _ hd, mk]
  congr 1
  cases s <;> simp [sg] <;> omega
theorem mk_add_ge {s t : Bool} (hst : s ≠ t) (x y d : Nat) (hd : d ≠ 0) (h : y ≤ x) : mk s x d + mk t y d = mk s (x - y) d := by
  rw [mk_add_same _ _ _ _ _ hd, mk]
  congr 1
  cases s <;> cases t <;> simp [sg] at * <;> omega
theorem mk_add_lt {s t : Bool} (hst : s ≠ t) (x y d : Nat) (hd : d ≠ 0) (h : x < y) : mk s x d + mk t y d = mk t (y - x) d := by
  rw [mk_add_same _ _ _ _ _ hd, mk]
  congr 1
  cases s <;> cases t <;> simp [sg] at * <;> omega
/-- two numbers over the product of their denominators -/
theorem over_prod (a b : Rat) : mk (negB a) (nm a * b.den) (a.den * b.den) = a ∧ mk (negB b) (nm b * a.den) (a.den * b.den) = b := by
  constructor
  · rw [mk_scale _ _ _ b.den_nz, mk_nm]
  · rw [Nat.mul_comm a.den, mk_scale _ _ _ a.den_nz, mk_nm]
theorem mk_mul (s t : Bool) (x y d e : Nat) : mk s x d * mk t y e = mk (s != t) (x * y) (d * e) := by
  unfold mk
  rw [Rat.mkRat_mul_mkRat]
  congr 1
  cases s <;> cases t <;> simp [sg, Int.neg_mul, Int.mul_neg]
theorem mul_eq (a b : Rat) : mk (negB a != negB b) (nm a * nm b) (a.den * b.den) = a * b := by
  rw [← mk_mul, mk_nm, mk_nm]
theorem mk_neg_eq (s : Bool) (x d : Nat) : mk (!s) x d = - mk s x d := by
  unfold mk
  rw [Rat.neg_mkRat]
  congr 1
  cases s <;> simp [sg]
theorem mk_zero (s : Bool) (d : Nat) : mk s 0 d = 0 := by unfold mk; cases s <;> simp [sg, Rat.zero_mkRat]
theorem mk_one (s : Bool) (n : Nat) : mk s n 1 = ((sg s n : Int) : Rat) := by unfold mk; rw [Rat.mkRat_one]
theorem eq_div {a b c : Rat} (hb : b ≠ 0) (h : c * b = a) : c = a / b := by grind
theorem div_eq (a b : Rat) (hb : b ≠ 0) : mk (negB a != negB b) (nm a * b.den) (a.den * nm b) = a / b := by
  have h0 : nm b ≠ 0 := fun e => hb (nm_zero.1 e)
  have h1 : mk (negB a != negB b) (nm a * b.den) (a.den * nm b) * b = a := by
    conv => lhs; rhs; rw [← mk_nm b]
    rw [mk_mul]
    have e : ((negB a != negB b) != negB b) = negB a := by cases negB a <;> cases negB b <;> rfl
    rw [e, Nat.mul_assoc, Nat.mul_assoc, show b.den * nm b = nm b * b.den from Nat.mul_comm _ _, mk_scale _ _ _ (Nat.mul_ne_zero h0 b.den_nz), mk_nm]
  exact eq_div hb h1
/-- the sign of a comparison -/
def cmpQ (a b : Rat) : Int := if a < b then -1 else if a = b then 0 else 1
def sgnQ (a : Rat) : Int := cmpQ a 0
theorem sgnQ_eq (a : Rat) : sgnQ a = if nm a = 0 then 0 else if negB a then -1 else 1 := by
  unfold sgnQ cmpQ
  by_cases h0 : a = 0
  · subst h0
    rw [if_pos (nm_zero.2 rfl)]
    have h1 : ¬ ((0 : Rat) < 0) := by grind
    rw [if_neg h1, if_pos rfl]
  · rw [if_neg (fun e => h0 (nm_zero.1 e)), if_neg h0]
    have h1 : a < 0 ↔ a.num < 0 := by rw [Rat.lt_iff]; simp
    unfold negB
    by_cases h2 : a.num < 0
    · rw [if_pos (h1.2 h2)]; simp [h2]
    · rw [if_neg (fun e => h2 (h1.1 e))]; simp [h2]
/-- of two numbers of one sign the one with the greater product is farther from 0 -/
theorem cmpQ_eq (a b : Rat) : cmpQ a b = if a.num * b.den < b.num * a.den then -1 else if a.num * b.den = b.num * a.den then 0 else 1 := by
  unfold cmpQ
  by_cases h : a.num * b.den < b.num * a.den
  · rw [if_pos ((Rat.lt_iff a b).2 h), if_pos h]
  · rw [if_neg (fun e => h ((Rat.lt_iff a b).1 e)), if_neg h]
    by_cases h2 : a = b
    · subst h2; simp
    · have h3 : a.num * b.den ≠ b.num * a.den := by
        intro e
        apply h2
        have ha := Rat.mkRat_self a
        have hb := Rat.mkRat_self b
        rw [← ha, ← hb, Rat.mkRat_eq_iff a.den_nz b.den_nz]
        exact e
      rw [if_neg h2, if_neg h3]
theorem sgnQ_cmp (a b : Rat) (h : sgnQ a < sgnQ b) : cmpQ a b = -1 := by
  unfold sgnQ cmpQ at *
  split at h <;> split at h <;> (try split at h) <;> (try split at h) <;> first | omega | (rw [if_pos]; grind)
theorem sgnQ_cmp' (a b : Rat) (h : sgnQ b < sgnQ a) : cmpQ a b = 1 := by
  unfold sgnQ cmpQ at *
  split at h <;> split at h <;> (try split at h) <;> (try split at h) <;> first | omega | (rw [if_neg, if_neg] <;> grind)
/-- numbers of the same sign are compared by their absolute values -/
theorem cmpQ_same (a b : Rat) (h : sgnQ a = sgnQ b) : cmpQ a b = (if negB a then -1 else 1) * (if nm a * b.den < nm b * a.den then -1 else if nm a * b.den = nm b * a.den then 0 else 1) := by
  rw [cmpQ_eq]
  rw [sgnQ_eq, sgnQ_eq] at h
  have ea := sg_num a
  have eb := sg_num b
  have hs : nm a = 0 ∧ nm b = 0 ∨ negB a = negB b := by
    by_cases h1 : nm a = 0 <;> by_cases h2 : nm b = 0 <;> cases h3 : negB a <;> cases h4 : negB b <;> simp [h1, h2, h3, h4] at h ⊢
  have ka : a.num = sg (negB a) (nm a) := ea.symm
  have kb : b.num = sg (negB b) (nm b) := eb.symm
  rw [ka, kb]
  rcases hs with ⟨h1, h2⟩ | hs
  · have n1 : negB a = false := by
      cases hn : negB a
      · rfl
      · exact absurd h1 (nm_neg hn)
    have n2 : negB b = false := by
      cases hn : negB b
      · rfl
      · exact absurd h2 (nm_neg hn)
    rw [h1, h2, n1, n2]
    simp [sg]
  · rw [← hs]
    cases negB a
    · simp only [sg, Bool.false_eq_true, if_false, ← Int.natCast_mul]
      generalize nm a * b.den = x
      generalize nm b * a.den = y
      by_cases h1 : x < y
      · rw [if_pos (by omega), if_pos h1]; rfl
      · rw [if_neg (by omega), if_neg h1]
        by_cases h2 : x = y
        · rw [if_pos (by omega), if_pos h2]; rfl
        · rw [if_neg (by omega), if_neg h2]; rfl
    · simp only [sg, if_true, Int.neg_mul, ← Int.natCast_mul]
      generalize nm a * b.den = x
      generalize nm b * a.den = y
      by_cases h1 : x < y
      · rw [if_neg (by omega), if_neg (by omega), if_pos h1]; rfl
      · by_cases h2 : x = y
        · rw [if_neg (by omega), if_pos (by omega), if_neg h1, if_pos h2]; rfl
        · rw [if_pos (by omega), if_neg h1, if_neg h2]; rfl
/-- the integer that is not greater -/
theorem floor_eq (q : Rat) : ((q.floor : Int) : Rat) = mk (negB q) (nm q / q.den + (if negB q = true ∧ nm q % q.den ≠ 0 then 1 else 0)) 1 := by
  rw [mk_one]
  congr 1
  rw [Rat.floor_def]
  have e := sg_num q
  have hd : (0 : Int) < q.den := by have := q.den_pos; omega
  have hk : q.num = sg (negB q) (nm q) := e.symm
  rw [hk]
  cases negB q
  · simp [sg]
  · simp only [sg, if_true, true_and]
    exact floor_neg (nm q) q.den q.den_pos
where
  floor_neg (n d : Nat) (hd : 0 < d) : (-(n : Int)) / (d : Int) = -(((n / d + if n % d ≠ 0 then 1 else 0 : Nat)) : Int) := by
    have h1 := Nat.div_add_mod n d
    have h2 := Nat.mod_lt n hd
    generalize n % d = r at *
    generalize n / d = k at *
    by_cases h0 : r = 0
    · subst h0
      rw [if_neg (by simp), ← h1]
      have e : (-((d * k + 0 : Nat) : Int)) = (-(k : Int)) * (d : Int) := by push_cast; grind
      rw [e, Int.mul_ediv_cancel _ (by omega)]
      simp
    · rw [if_pos h0, ← h1]
      have e : (-((d * k + r : Nat) : Int)) = ((d : Int) - r) + (d : Int) * (-((k : Int) + 1)) := by push_cast; grind
      rw [e, Int.add_mul_ediv_left _ _ (by omega), Int.ediv_eq_zero_of_lt (by omega) (by omega)]
      simp
end Go.Proofs.YtpbgmpjnfndfjaaGreatDoor.RnR
namespace Go.Proofs.YtpbgmpjnfndfjaaGreatDoor.RnG
theorem here : True := trivial
open RnA RnB RnQ RnR
theorem cmp_add (a b c : Rat) : cmpQ (a + c) (b + c) = cmpQ a b := by
  unfold cmpQ
  by_cases h : a < b
  · rw [if_pos h, if_pos (by grind)]
  · rw [if_neg h, if_neg (by grind)]
    by_cases h2 : a = b
    · rw [if_pos h2, if_pos (by grind)]
    · rw [if_neg h2, if_neg (by grind)]
theorem tri (a b : Rat) : a < b ∨ a = b ∨ b < a := by grind
theorem cmp_mul (a b c : Rat) : cmpQ (a * c) (b * c) = cmpQ a b * sgnQ c := by
  unfold sgnQ cmpQ
  rcases tri c 0 with h | h | h
  · rw [if_pos h]
    have h1 : ∀ x y : Rat, x < y → y * c < x * c := fun x y hxy => by
      have h2 := Rat.mul_lt_mul_of_pos_right (c := -c) hxy (by grind)
      grind
    rcases tri a b with hab | hab | hab
    · have := h1 a b hab
      rw [if_neg (by grind), if_neg (by grind), if_pos hab]; rfl
    · subst hab; simp
    · have := h1 b a hab
      rw [if_pos this, if_neg (by grind), if_neg (by grind)]; rfl
  · subst h; simp
  · rw [if_neg (by grind : ¬ c < 0), if_neg (by grind : ¬ c = 0)]
    have h1 : ∀ x y : Rat, x < y → x * c < y * c := fun x y hxy => Rat.mul_lt_mul_of_pos_right hxy h
    rcases tri a b with hab | hab | hab
    · rw [if_pos (h1 a b hab), if_pos hab]; rfl
    · subst hab; simp
    · have := h1 b a hab
      rw [if_neg (by grind), if_neg (by grind), if_neg (by grind), if_neg (by grind)]; rfl
theorem sgn_nonneg {a : Rat} (h : 0 ≤ a) : 0 ≤ sgnQ a := by
  unfold sgnQ cmpQ
  rw [if_neg (by grind)]
  split <;> omega
theorem cmp_lt {a b : Rat} (h : a < b) : cmpQ a b < 0 := by unfold cmpQ; rw [if_pos h]; omega
theorem sgn_zero (b : Rat) : sgnQ b = 0 ↔ b = 0 := by
  unfold sgnQ cmpQ
  constructor
  · intro h
    split at h
    · omega
    · split at h
      · assumption
      · omega
  · rintro rfl; rw [if_neg (by grind), if_pos rfl]
theorem floor_bounds (q : Rat) : 0 ≤ q - (q.floor : Int) ∧ q - (q.floor : Int) < 1 := by
  have h1 := Rat.floor_le q
  have h2 := Rat.lt_floor_add_one q
  have e : ((q.floor + 1 : Int) : Rat) = (q.floor : Rat) + 1 := by simp
  rw [e] at h2
  constructor <;> grind
theorem int_den (n : Int) : encD ((n : Int) : Rat) = [] := by unfold encD; rw [if_pos (by simp)]
theorem mk_times (n d : Nat) (hd : d ≠ 0) : mk false n d * (d : Rat) = (n : Rat) := by
  unfold mk
  rw [Rat.mkRat_eq_div]
  have h : (d : Rat) ≠ 0 := by
    intro e
    have : ((d : Nat) : Rat) = ((0 : Nat) : Rat) := e
    exact hd (Rat.natCast_inj.1 this)
  have e : ((sg false n : Int) : Rat) = (n : Rat) := by simp [sg, Rat.intCast_natCast]
  rw [e]
  grind
/-- the number shown with p places: not farther from 0, by less than a unit -/
theorem trunc_bounds (n d P : Nat) (hd : d ≠ 0) (hP : P ≠ 0) : 0 ≤ mk false n d - mk false (n * P / d) P ∧ mk false n d - mk false (n * P / d) P < mk false 1 P := by
  have h1 := mk_times n d hd
  have h2 := mk_times (n * P / d) P hP
  have h3 := mk_times 1 P hP
  have hd0 : (0 : Rat) < (d : Rat) := by
    have : ((0 : Nat) : Rat) < ((d : Nat) : Rat) := Rat.natCast_lt_natCast.2 (by omega)
    exact this
  have hP0 : (0 : Rat) < (P : Rat) := by
    have : ((0 : Nat) : Rat) < ((P : Nat) : Rat) := Rat.natCast_lt_natCast.2 (by omega)
    exact this
  have hdP := Rat.mul_pos hd0 hP0
  have ha : (n * P / d) * d ≤ n * P := Nat.div_mul_le_self _ _
  have hb : n * P < (n * P / d) * d + d := by
    have h4 := Nat.div_add_mod (n * P) d
    have h5 := Nat.mod_lt (n * P) (Nat.pos_of_ne_zero hd)
    rw [Nat.mul_comm] at h4
    omega
  have ha' : (((n * P / d : Nat) : Rat)) * (d : Rat) ≤ (n : Rat) * (P : Rat) := by
    rw [← Rat.natCast_mul, ← Rat.natCast_mul]; exact Rat.natCast_le_natCast.2 ha
  have hb' : (n : Rat) * (P : Rat) < (((n * P / d : Nat) : Rat)) * (d : Rat) + (d : Rat) := by
    rw [← Rat.natCast_mul, ← Rat.natCast_mul, ← Rat.natCast_add]; exact Rat.natCast_lt_natCast.2 hb
  generalize mk false n d = A at *
  generalize mk false (n * P / d) P = X at *
  generalize mk false 1 P = U at *
  generalize ((n * P / d : Nat) : Rat) = t at *
  have e0 : (A - X) * ((d : Rat) * (P : Rat)) = (n : Rat) * P - t * d := by grind
  have e1 : U * ((d : Rat) * (P : Rat)) = d := by
    have : ((1 : Nat) : Rat) = 1 := rfl
    grind
  constructor
  · refine Rat.le_of_mul_le_mul_right (c := (d : Rat) * (P : Rat)) ?_ hdP
    rw [e0]; grind
  · refine Rat.lt_of_mul_lt_mul_right (c := (d : Rat) * (P : Rat)) ?_ (by grind)
    rw [e0, e1]; grind
/-- a unit of the p-th place -/
def unitQ : Nat → Rat
  | 0 => 1
  | p + 1 => unitQ p / 10
theorem unitQ_eq (p : Nat) : unitQ p = mk false 1 (10 ^ p) := by
  induction p with
  | zero => rfl
  | succ p ih =>
    rw [unitQ, ih]
    have h1 := mk_times 1 (10 ^ p) (by have : 0 < 10 ^ p := Nat.pow_pos (by omega); omega)
    have h2 := mk_times 1 (10 ^ (p + 1)) (by have : 0 < 10 ^ (p + 1) := Nat.pow_pos (by omega); omega)
    have e : (((10 ^ (p + 1) : Nat)) : Rat) = ((10 ^ p : Nat) : Rat) * 10 := by
      rw [Nat.pow_succ, Rat.natCast_mul]; rfl
    rw [e] at h2
    have h3 : ((10 ^ p : Nat) : Rat) ≠ 0 := by
      intro e0
      rw [e0] at h1
      have : ((1 : Nat) : Rat) = 1 := rfl
      grind
    have : ((1 : Nat) : Rat) = 1 := rfl
    grind
end Go.Proofs.YtpbgmpjnfndfjaaGreatDoor.RnG
namespace Go.Proofs.YtpbgmpjnfndfjaaGreatDoor.RnP
theorem here : True := trivial
open RnA RnB RnQ RnR RnD RnE
/-- a number as n or n/d -/
def formatQ (q : Rat) : List UInt8 := (if negB q then [45] else []) ++ (decOf (nm q) ++ (if q.den = 1 then [] else 47 :: decOf q.den))
def upTo (c : UInt8) (l : List UInt8) : List UInt8 := l.takeWhile (· != c)
def behind (c : UInt8) (l : List UInt8) : List UInt8 := (l.dropWhile (· != c)).drop 1
/-- what a text without its sign reads as -/
def readQ (neg : Bool) (l : List UInt8) : Rat × Int :=
  if 46 ∈ l then
    if isInt (upTo 46 l) = true ∧ digs (behind 46 l) = true ∧ behind 46 l ≠ [] then
      if 2000 < (upTo 46 l).length ∨ 2000 < (behind 46 l).length then (0, 2)
      else (mk neg (dec (upTo 46 l) * 10 ^ (behind 46 l).length + dec (behind 46 l)) (10 ^ (behind 46 l).length), 0)
    else (0, 3)
  else if 47 ∈ l then
    if isInt (upTo 47 l) = true ∧ isInt (behind 47 l) = true then
      if 2000 < (upTo 47 l).length ∨ 2000 < (behind 47 l).length then (0, 2)
      else if behind 47 l = [48] then (0, 1)
      else (mk neg (dec (upTo 47 l)) (dec (behind 47 l)), 0)
    else (0, 3)
  else if isInt l = true then
    if 2000 < l.length then (0, 2) else (mk neg (dec l) 1, 0)
  else (0, 3)
def parseQ (l : List UInt8) : Rat × Int := if l.head? = some 45 then readQ true l.tail else readQ false l
theorem upTo_app {c : UInt8} {a b : List UInt8} (h : c ∉ a) : upTo c (a ++ c :: b) = a ∧ behind c (a ++ c :: b) = b := by
  unfold upTo behind
  induction a with
  | nil => simp
  | cons x a ih =>
    have h1 : x ≠ c := fun e => h (by rw [e]; exact List.mem_cons_self ..)
    have h2 := ih (fun e => h (List.mem_cons_of_mem _ e))
    simp [h1]
    exact ⟨by simpa using h2.1, by simpa using h2.2⟩
theorem digs_mem {l : List UInt8} (h : digs l = true) {c : UInt8} (hc : c ∈ l) : 48 ≤ c.toNat ∧ c.toNat ≤ 57 := by
  unfold digs at h
  rw [List.all_eq_true] at h
  have := h c hc
  simpa [isDig] using this
theorem not_in_digs {l : List UInt8} (h : digs l = true) {c : UInt8} (hc : c.toNat < 48) : c ∉ l := fun hm => by
  have := digs_mem h hm
  omega
theorem digs_app {a b : List UInt8} : digs (a ++ b) = (digs a && digs b) := by unfold digs; rw [List.all_append]
theorem decOf_45 (n : Nat) (l : List UInt8) : (decOf n ++ l).head? ≠ some 45 := by
  rcases h : decOf n with _ | ⟨c, t⟩
  · exact absurd h (decOf_ne n)
  · intro e
    have hc : c = 45 := by simpa using e
    have := digs_mem (digs_decOf n) (c := c) (by rw [h]; exact List.mem_cons_self ..)
    subst hc
    simp at this
theorem parse_sign (neg : Bool) {l : List UInt8} (h : l.head? ≠ some 45) : parseQ ((if neg then [45] else []) ++ l) = readQ neg l := by
  unfold parseQ
  cases neg
  · rw [if_neg (by simpa using h)]; rfl
  · simp
theorem read_format (q : Rat) (neg : Bool) (h1 : (decOf (nm q)).length ≤ 2000) (h2 : (decOf q.den).length ≤ 2000) : readQ neg (decOf (nm q) ++ (if q.den = 1 then [] else 47 :: decOf q.den)) = (mk neg (nm q) q.den, 0) := by
  have n1 : (46 : UInt8) ∉ decOf (nm q) := not_in_digs (digs_decOf _) (by decide)
  have n2 : (46 : UInt8) ∉ decOf q.den := not_in_digs (digs_decOf _) (by decide)
  have m1 : (47 : UInt8) ∉ decOf (nm q) := not_in_digs (digs_decOf _) (by decide)
  by_cases hd : q.den = 1
  · rw [if_pos hd, List.append_nil]
    unfold readQ
    rw [if_neg n1, if_neg m1, if_pos (isInt_decOf _), if_neg (by omega), dec_decOf, hd]
  · rw [if_neg hd]
    unfold readQ
    have hn : (46 : UInt8) ∉ decOf (nm q) ++ 47 :: decOf q.den := by
      intro hm
      rcases List.mem_append.1 hm with hm | hm
      · exact n1 hm
      · rcases List.mem_cons.1 hm with hm | hm
        · exact absurd hm (by decide)
        · exact n2 hm
    obtain ⟨e1, e2⟩ := upTo_app (b := decOf q.den) m1
    rw [if_neg hn, if_pos (by simp), e1, e2, if_pos ⟨isInt_decOf _, isInt_decOf _⟩, if_neg (by omega), if_neg, dec_decOf, dec_decOf]
    intro e
    have : decOf q.den = decOf 0 := by rw [e, decOf_small (by omega)]; rfl
    exact q.den_nz (decOf_inj this)
theorem parse_format (q : Rat) (h1 : (decOf (nm q)).length ≤ 2000) (h2 : (decOf q.den).length ≤ 2000) : parseQ (formatQ q) = (q, 0) := by
  unfold formatQ
  rw [parse_sign _ (decOf_45 _ _), read_format q _ h1 h2, mk_nm]
/-- the digits of the number shown, before the point is set -/
def shown (t p : Nat) : List UInt8 := List.replicate (p + 1 - (decOf t).length) 48 ++ decOf t
def pointed (l : List UInt8) (p : Nat) : List UInt8 := if 0 < p then l.take (l.length - p) ++ 46 :: l.drop (l.length - p) else l
/-- a number with p decimal places, rounded toward 0 -/
def decimalQ (q : Rat) (p : Nat) : List UInt8 :=
  (if negB q = true ∧ nm q * 10 ^ p / q.den ≠ 0 then [45] else []) ++ pointed (shown (nm q * 10 ^ p / q.den) p) p
theorem digs_rep (n : Nat) : digs (List.replicate n 48) = true := by
  unfold digs
  rw [List.all_eq_true]
  intro x hx
  rw [(List.mem_replicate.1 hx).2]; rfl
theorem dec_rep (n : Nat) (l : List UInt8) : dec (List.replicate n 48 ++ l) = dec l := by
  induction n with
  | zero => rfl
  | succ n ih => rw [List.replicate_succ, List.cons_append, dec, ih]; simp
theorem shown_len (t p : Nat) : p + 1 ≤ (shown t p).length := by unfold shown; rw [List.length_append, List.length_replicate]; omega
theorem digs_shown (t p : Nat) : digs (shown t p) = true := by unfold shown; rw [digs_app, digs_rep, digs_decOf]; rfl
theorem dec_shown (t p : Nat) : dec (shown t p) = t := by unfold shown; rw [dec_rep, dec_decOf]
theorem isInt_whole (t p : Nat) (hp : 0 < p) : isInt ((shown t p).take ((shown t p).length - p)) = true := by
  have hl := shown_len t p
  have hd := digs_shown t p
  have hd2 : digs ((shown t p).take ((shown t p).length - p)) = true := by
    rw [← List.take_append_drop ((shown t p).length - p) (shown t p), digs_app, Bool.and_eq_true] at hd
    exact hd.1
  unfold isInt
  rw [hd2]
  have hne : (shown t p).take ((shown t p).length - p) ≠ [] := by
    intro e
    have := congrArg List.length e
    rw [List.length_take] at this
    simp at this
    omega
  simp only [Bool.true_and, Bool.and_eq_true, Bool.or_eq_true, decide_eq_true_eq]
  refine ⟨hne, ?_⟩
  by_cases h : (decOf t).length ≤ p
  · left
    unfold shown
    rw [List.length_append, List.length_replicate, show p + 1 - (decOf t).length + (decOf t).length - p = 1 by omega, show p + 1 - (decOf t).length = (p - (decOf t).length) + 1 by omega, List.replicate_succ]
    simp
  · right
    have e0 : shown t p = decOf t := by unfold shown; rw [show p + 1 - (decOf t).length = 0 by omega]; rfl
    rw [e0]
    have ht : t ≠ 0 := by
      rintro rfl
      rw [decOf_small (by omega)] at h
      simp at h
      omega
    obtain ⟨c, l, e, hc⟩ := decOf_head ht
    rw [e]
    have : (c :: l).length - p = ((c :: l).length - p - 1) + 1 := by rw [e] at h; omega
    rw [this, List.take_succ_cons]
    simpa using hc
theorem read_decimal (t p : Nat) (neg : Bool) (h1 : (decOf t).length ≤ 1900) (h2 : p ≤ 20) : readQ neg (pointed (shown t p) p) = (mk neg t (10 ^ p), 0) := by
  have hl := shown_len t p
  have hd := digs_shown t p
  have hll : (shown t p).length ≤ 1930 := by unfold shown; rw [List.length_append, List.length_replicate]; omega
  unfold pointed
  by_cases hp : 0 < p
  · rw [if_pos hp]
    have hw := isInt_whole t p hp
    have hsplit := List.take_append_drop ((shown t p).length - p) (shown t p)
    have hlt : ((shown t p).take ((shown t p).length - p)).length ≤ 1930 := by rw [List.length_take]; omega
    have hld : ((shown t p).drop ((shown t p).length - p)).length = p := by rw [List.length_drop]; omega
    have hds := dec_shown t p
    generalize (shown t p).take ((shown t p).length - p) = w at *
    generalize (shown t p).drop ((shown t p).length - p) = f at *
    rw [← hsplit, digs_app, Bool.and_eq_true] at hd
    rw [← hsplit, dec_append, hld] at hds
    have hn : (46 : UInt8) ∉ w := not_in_digs hd.1 (by decide)
    obtain ⟨e1, e2⟩ := upTo_app (b := f) hn
    unfold readQ
    rw [if_pos (by simp), e1, e2, if_pos ⟨hw, hd.2, by intro e; rw [e] at hld; simp at hld; omega⟩, if_neg (by omega), hld, Nat.mul_comm, hds]
  · have hp0 : p = 0 := by omega
    subst hp0
    rw [if_neg (by omega)]
    have e0 : shown t 0 = decOf t := by
      unfold shown
      have : 0 < (decOf t).length := List.length_pos_iff.2 (decOf_ne t)
      rw [show 0 + 1 - (decOf t).length = 0 by omega]; rfl
    rw [e0]
    unfold readQ
    rw [if_neg (not_in_digs (digs_decOf _) (by decide)), if_neg (not_in_digs (digs_decOf _) (by decide)), if_pos (isInt_decOf _), if_neg (by omega), dec_decOf]
theorem pointed_45 (t p : Nat) : (pointed (shown t p) p).head? ≠ some 45 := by
  have hd := digs_shown t p
  have hl := shown_len t p
  intro h
  have hmem : (45 : UInt8) ∈ shown t p := by
    unfold pointed at h
    split at h
    · rcases hs : shown t p with _ | ⟨c, l⟩
      · rw [hs] at hl; simp at hl
      · rw [hs] at h hl
        have : (c :: l).length - p = ((c :: l).length - p - 1) + 1 := by omega
        rw [this, List.take_succ_cons] at h
        have : c = 45 := by simpa using h
        rw [this]; exact List.mem_cons_self ..
    · exact List.mem_of_mem_head? h
  exact not_in_digs hd (by decide) hmem
theorem parse_decimal (q : Rat) (p : Nat) (h1 : (decOf (nm q * 10 ^ p / q.den)).length ≤ 1900) (h2 : p ≤ 20) : parseQ (decimalQ q p) = (mk (negB q) (nm q * 10 ^ p / q.den) (10 ^ p), 0) := by
  unfold decimalQ
  have hs := parse_sign (negB q && decide (nm q * 10 ^ p / q.den ≠ 0)) (pointed_45 (nm q * 10 ^ p / q.den) p)
  have e : (if (negB q && decide (nm q * 10 ^ p / q.den ≠ 0)) = true then ([45] : List UInt8) else []) = (if negB q = true ∧ nm q * 10 ^ p / q.den ≠ 0 then [45] else []) := by
    by_cases h : negB q = true ∧ nm q * 10 ^ p / q.den ≠ 0
    · rw [if_pos h, if_pos (by simpa using h)]
    · rw [if_neg h, if_neg (by simpa using h)]
  rw [e] at hs
  rw [hs, read_decimal _ _ _ h1 h2]
  by_cases h0 : nm q * 10 ^ p / q.den = 0
  · rw [h0, mk_zero, mk_zero]
  · cases negB q <;> simp [h0]
end Go.Proofs.YtpbgmpjnfndfjaaGreatDoor.RnP
namespace Go.Proofs.YtpbgmpjnfndfjaaGreatDoor.RnX
theorem here : True := trivial
theorem top_bit {n : Nat} (h : n < 4294967296) : n.testBit 31 = decide (2147483648 ≤ n) := by
  rw [Nat.testBit_eq_decide_div_mod_eq]
  rw [show (2 : Nat) ^ 31 = 2147483648 from rfl]
  by_cases h1 : 2147483648 ≤ n
  · rw [show n / 2147483648 = 1 by omega]; simp [h1]
  · rw [show n / 2147483648 = 0 by omega]; simp [h1]
theorem not_bit {n : Nat} (h : n < 4294967296) : (4294967295 - n).testBit 31 = !n.testBit 31 := by
  rw [top_bit h, top_bit (by omega)]
  by_cases h1 : 2147483648 ≤ n
  · have : ¬ 2147483648 ≤ 4294967295 - n := by omega
    simp [h1, this]
  · have : 2147483648 ≤ 4294967295 - n := by omega
    simp [h1, this]
theorem or_lt {a b : Nat} (ha : a < 4294967296) (hb : b < 4294967296) : a ||| b < 4294967296 := Nat.or_lt_two_pow (n := 32) ha hb
theorem and_lt {a b : Nat} (hb : b < 4294967296) : a &&& b < 4294967296 := Nat.and_lt_two_pow (n := 32) a hb
theorem xor_lt {a b : Nat} (ha : a < 4294967296) (hb : b < 4294967296) : a ^^^ b < 4294967296 := Nat.xor_lt_two_pow (n := 32) ha hb
theorem top_of {n : Nat} (h : n < 4294967296) : n / 2147483648 = if n.testBit 31 then 1 else 0 := by
  rw [top_bit h]
  by_cases h1 : 2147483648 ≤ n
  · simp [h1]; omega
  · simp [h1]; omega
/-- the borrow: diff = x - y - b modulo 2^32 -/
theorem borrow_bits {x y b d : Nat} (hx : x < 4294967296) (hy : y < 4294967296) (hb : b ≤ 1) (hd : d = (x + 8589934592 - y - b) % 4294967296) :
    (((4294967295 - x) &&& y) ||| ((4294967295 - (x ^^^ y)) &&& d)) / 2147483648 = if x < y + b then 1 else 0 := by
  have hdl : d < 4294967296 := by omega
  have hxy := xor_lt hx hy
  rw [top_of (or_lt (and_lt hy) (and_lt hdl)), Nat.testBit_or, Nat.testBit_and, Nat.testBit_and, not_bit hx, not_bit hxy, Nat.testBit_xor, top_bit hx, top_bit hy, top_bit hdl]
  by_cases h1 : 2147483648 ≤ x <;> by_cases h2 : 2147483648 ≤ y <;> by_cases h3 : 2147483648 ≤ d <;> by_cases h4 : x < y + b <;> simp [h1, h2, h3, h4] <;> omega
theorem borrow_sum {x y b d : Nat} (hx : x < 4294967296) (hy : y < 4294967296) (hb : b ≤ 1) (hd : d = (x + 8589934592 - y - b) % 4294967296) : d + y + b = x + (if x < y + b then 1 else 0) * 4294967296 := by
  split <;> omega
end Go.Proofs.YtpbgmpjnfndfjaaGreatDoor.RnX
namespace Go.Proofs.YtpbgmpjnfndfjaaGreatDoor.RnW
theorem here : True := trivial
open Go.RowKit RnA RnB RnS RnC
theorem hide {p : Prop} (h : p) : Hid p := h
def uv (l : List Nat) : List Value := l.map fun (x : Nat) => .int .u32 (x : Int)
def bv (l : List UInt8) : List Value := l.map fun c => .int .u8 (c.toNat : Int)
theorem uv_length (l : List Nat) : (uv l).length = l.length := by simp [uv]
theorem bv_length (l : List UInt8) : (bv l).length = l.length := by simp [bv]
theorem uv_append (a b : List Nat) : uv (a ++ b) = uv a ++ uv b := by simp [uv]
theorem bv_append (a b : List UInt8) : bv (a ++ b) = bv a ++ bv b := by simp [bv]
theorem uv_set (l : List Nat) (k x : Nat) : (uv l).set k (.int .u32 (x : Int)) = uv (l.set k x) := by simp [uv, List.map_set]
theorem bv_set (l : List UInt8) (k : Nat) (c : UInt8) : (bv l).set k (.int .u8 (c.toNat : Int)) = bv (l.set k c) := by simp [bv, List.map_set]
theorem uv_get {l : List Nat} {k x : Nat} (h : l[k]? = some x) : (uv l)[k]? = some (.int .u32 (x : Int)) := by simp [uv, h]
theorem bv_get {l : List UInt8} {k : Nat} {c : UInt8} (h : l[k]? = some c) : (bv l)[k]? = some (.int .u8 (c.toNat : Int)) := by simp [bv, h]
theorem made_uv (n : Nat) : (madeCells (Value.int .u32 0).cells (n * 1)).toList = uv (List.replicate n 0) := by
  simp [madeCells, Value.cells, uv, Nat.mod_one, List.map_const']
theorem made_bv (n : Nat) : (madeCells (Value.int .u8 0).cells (n * 1)).toList = bv (List.replicate n 0) := by
  simp [madeCells, Value.cells, bv, Nat.mod_one, List.map_const']
/-- a slice reads as a list of limbs -/
def LAt (w : World) (B : Nat) (A : Option Addr) (l : List Nat) : Prop :=
  Ok l ∧ l.length ≤ maxLen ∧ (0 < l.length → ∃ b off, A = some ⟨b, off, none⟩ ∧ b < B ∧ ∀ (k x : Nat), l[k]? = some x → w.cell? ⟨b, off + k, none⟩ = some (.int .u32 (x : Int)))
section
variable {w w' : World} {B B' : Nat} {A : Option Addr} {l : List Nat}
theorem LAt.ok (h : LAt w B A l) : Ok l := h.1
theorem LAt.len (h : LAt w B A l) : l.length ≤ 9223372036854775807 := by have := h.2.1; unfold maxLen at this; omega
theorem LAt.below (h : LAt w B A l) (hb : Below B w w') : LAt w' B A l :=
  ⟨h.1, h.2.1, fun hp => by
    obtain ⟨b, off, e, hlt, hc⟩ := h.2.2 hp
    exact ⟨b, off, e, hlt, fun k x hk => (hb.cell (p := ⟨b, off + k, none⟩) hlt).trans (hc k x hk)⟩⟩
theorem LAt.mono (h : LAt w B A l) (hb : B ≤ B') : LAt w B' A l :=
  ⟨h.1, h.2.1, fun hp => by
    obtain ⟨b, off, e, hlt, hc⟩ := h.2.2 hp
    exact ⟨b, off, e, by omega, hc⟩⟩
theorem LAt.next (h : LAt w w.heap.size A l) (hb : Below w.heap.size w w') : LAt w' w'.heap.size A l := (h.below hb).mono hb.size
theorem LAt.nil : LAt w B A [] := ⟨Ok.nil, Nat.zero_le _, fun h => by simp at h⟩
theorem LAt.take (h : LAt w B A l) (k : Nat) : LAt w B A (l.take k) := by
  refine ⟨h.1.take k, Nat.le_trans (List.length_take_le' ..) h.2.1, fun hp => ?_⟩
  obtain ⟨b, off, e, hlt, hc⟩ := h.2.2 (by rw [List.length_take] at hp; omega)
  refine ⟨b, off, e, hlt, fun j x hj => hc j x ?_⟩
  rw [List.getElem?_take] at hj
  split at hj
  · exact hj
  · cases hj
theorem LAt.of_own {base T n c : Nat} (h : w.ownsRow base T 1 (.slice A n c) n (uv l)) (ho : Ok l) : LAt w w.heap.size A l := by
  have hn : n = l.length := by have := h.1; rw [uv_length] at this; omega
  subst hn
  have hm : l.length ≤ maxLen := by
    rcases h.2 with ⟨_, h0⟩ | ⟨g, cap, cur, hv, _, _, hnc, hcm, _⟩
    · rw [h0]; exact Nat.zero_le _
    · exact Nat.le_trans hnc hcm
  refine ⟨ho, hm, fun hp => ?_⟩
  obtain ⟨g, cg, hA, _, hlt⟩ := h.form hp
  cases hA
  refine ⟨g, 0, rfl, hlt, fun k x hk => ?_⟩
  have hkl : k < l.length := (List.getElem?_eq_some_iff.1 hk).1
  rw [Nat.zero_add]
  exact (h.cellAt k (by omega)).trans (uv_get hk)
end
theorem own_slice {w : World} {base e size n : Nat} {v : Value} {xs : List Value} (h : w.ownsRow base e size v n xs) : ∃ A c, v = .slice A n c := by
  rcases h.2 with ⟨rfl, rfl⟩ | ⟨g, cap, cur, rfl, _⟩
  · exact ⟨_, _, rfl⟩
  · exact ⟨_, _, rfl⟩
theorem own_len {w : World} {B e size n : Nat} {v : Value} {xs : List Value} (h : w.ownsRow B e size v n xs) : n ≤ maxLen := by
  rcases h.2 with ⟨rfl, h0⟩ | ⟨g, cap, cur, hv, _, _, hnc, hcm, _⟩
  · rw [h0]; exact Nat.zero_le _
  · exact Nat.le_trans hnc hcm
theorem own_cap {w : World} {B e size n c : Nat} {A : Option Addr} {xs : List Value} (h : w.ownsRow B e size (.slice A n c) n xs) : n ≤ c ∧ c ≤ maxLen := by
  rcases h.2 with ⟨h0, _⟩ | ⟨g, cap, cur, h0, _, _, hnc, hcm, _⟩
  · injection h0 with _ h1 h2; omega
  · injection h0 with _ h1 h2; omega
theorem own_below {w w' : World} {base size n : Nat} {e : TypeId} {v : Value} {xs : List Value} (h : w.ownsRow base e size v n xs) (hb : Below w.heap.size w w') : w'.ownsRow base e size v n xs :=
  h.kept (row := none) ⟨hb.os, hb.tape, hb.output, hb.size, fun i hi _ => hb.block i hi⟩ (by cases hv : v.ownBlock <;> simp)
theorem below_next {w w1 w2 : World} (h : Below w.heap.size w w1) (h2 : Below w1.heap.size w1 w2) : Below w.heap.size w w2 := h.trans (h2.mono h.size)
theorem below_drewN {B : Nat} {a w : World} (h : Below B a w) (n : Nat) : Below B a (w.drewN n) := ⟨h.os, h.tape, h.output, h.size, h.block⟩
theorem ret_int {k : IntKind} {a b : Int} (h : a = b) : Ending.returned (.int k a) = .returned (.int k b) := by rw [h]
theorem ret_bool {a b : Bool} (h : a = b) : Ending.returned (.bool a) = Ending.returned (.bool b) := by rw [h]
theorem ret_str {a b : ByteArray} (h : a = b) : Ending.returned (.string a) = Ending.returned (.string b) := by rw [h]
/-- the string of a number -/
def bs (n : Nat) : ByteArray := ⟨(bytesOf n).toArray⟩
/-- the value of a string -/
def nv (s : ByteArray) : Nat := bval s.data.toList
theorem nv_bs (n : Nat) : nv (bs n) = n := by unfold nv bs; simp [bval_bytesOf]
theorem bs_size (n : Nat) : (bs n).size = (bytesOf n).length := by simp [bs, ByteArray.size]
/-- what a function that makes limbs answers -/
def LPost (l : List Nat) (w : World) (e : Ending) (w' : World) : Prop :=
  ∃ A c, e = .returned (.slice A l.length c) ∧ l.length ≤ c ∧ c ≤ maxLen ∧ LAt w' w'.heap.size A l ∧ Below w.heap.size w w'
/-- what a function that makes a string answers -/
def SPost (s : ByteArray) (w : World) (e : Ending) (w' : World) : Prop := e = .returned (.string s) ∧ Below w.heap.size w w'
end Go.Proofs.YtpbgmpjnfndfjaaGreatDoor.RnW
