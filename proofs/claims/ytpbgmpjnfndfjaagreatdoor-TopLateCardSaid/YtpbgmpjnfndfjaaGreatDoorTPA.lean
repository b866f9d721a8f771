/- TpA, TpB, TpC, TpD, TpE, TpF, in one text. -/

namespace Go.Proofs.YtpbgmpjnfndfjaaGreatDoor.TpA
/-- the sum of the first n values -/
def sm : Nat → (Nat → Rat) → Rat
  | 0, _ => 0
  | n + 1, f => sm n f + f n
theorem sm_congr {f g : Nat → Rat} : ∀ (n : Nat), (∀ i, i < n → f i = g i) → sm n f = sm n g
  | 0, _ => rfl
  | n + 1, h => by
    have h1 := sm_congr n (fun i hi => h i (by omega))
    have h2 := h n (by omega)
    simp only [sm, h1, h2]
theorem sm_zero (n : Nat) : sm n (fun _ => 0) = 0 := by
  induction n with
  | zero => rfl
  | succ n ih => simp only [sm, ih]; grind
theorem sm_add (f g : Nat → Rat) (n : Nat) : sm n (fun i => f i + g i) = sm n f + sm n g := by
  induction n with
  | zero => simp only [sm]; grind
  | succ n ih => simp only [sm, ih]; grind
theorem sm_sub (f g : Nat → Rat) (n : Nat) : sm n (fun i => f i - g i) = sm n f - sm n g := by
  induction n with
  | zero => simp only [sm]; grind
  | succ n ih => simp only [sm, ih]; grind
theorem sm_mul (c : Rat) (f : Nat → Rat) (n : Nat) : sm n (fun i => c * f i) = c * sm n f := by
  induction n with
  | zero => simp only [sm]; grind
  | succ n ih => simp only [sm, ih]; grind
theorem sm_mulr (c : Rat) (f : Nat → Rat) (n : Nat) : sm n (fun i => f i * c) = sm n f * c := by
  induction n with
  | zero => simp only [sm]; grind
  | succ n ih => simp only [sm, ih]; grind
theorem sm_le {f g : Nat → Rat} : ∀ (n : Nat), (∀ i, i < n → f i ≤ g i) → sm n f ≤ sm n g
  | 0, _ => by simp only [sm]; grind
  | n + 1, h => by
    have h1 := sm_le n (fun i hi => h i (by omega))
    have h2 := h n (by omega)
    simp only [sm]; grind
theorem sm_nonneg {f : Nat → Rat} (n : Nat) (h : ∀ i, i < n → 0 ≤ f i) : 0 ≤ sm n f := by
  have := sm_le (f := fun _ => 0) n h
  rwa [sm_zero] at this
theorem sm_swap (f : Nat → Nat → Rat) (m n : Nat) : sm m (fun i => sm n (fun j => f i j)) = sm n (fun j => sm m (fun i => f i j)) := by
  induction m with
  | zero => simp only [sm]; rw [sm_zero]
  | succ m ih => simp only [sm, ih]; rw [← sm_add]
/-- a sum of terms that are at most others, and equal in all: each is equal -/
theorem sm_eq_each {f g : Nat → Rat} : ∀ (n : Nat), (∀ i, i < n → f i ≤ g i) → sm n g ≤ sm n f → ∀ i, i < n → f i = g i
  | 0, _, _, i, hi => by omega
  | n + 1, h, he, i, hi => by
    have h1 := sm_le n (fun i hi => h i (by omega))
    have h2 := h n (by omega)
    simp only [sm] at he
    by_cases hin : i = n
    · subst hin; grind
    · exact sm_eq_each n (fun i hi => h i (by omega)) (by grind) i (by omega)
theorem sm_zero_each {f : Nat → Rat} (n : Nat) (h : ∀ i, i < n → 0 ≤ f i) (he : sm n f ≤ 0) : ∀ i, i < n → f i = 0 := by
  intro i hi
  have := sm_eq_each (f := fun _ => 0) n h (by rw [sm_zero]; exact he) i hi
  exact this.symm
theorem sm_term {f : Nat → Rat} {n i : Nat} (h : ∀ i, i < n → 0 ≤ f i) (hi : i < n) : f i ≤ sm n f := by
  induction n with
  | zero => omega
  | succ n ih =>
    simp only [sm]
    by_cases hin : i = n
    · subst hin; have := sm_nonneg i (fun k hk => h k (by omega)); grind
    · have := ih (fun k hk => h k (by omega)) (by omega); have := h n (by omega); grind
/-- a matrix whose columns sum to at most 1 -/
structure Sub1 (n : Nat) (M : Nat → Nat → Rat) : Prop where
  nn : ∀ j i, j < n → i < n → 0 ≤ M j i
  col : ∀ i, i < n → sm n (fun j => M j i) ≤ 1
/-- a set that nothing leaves -/
structure Shut (n : Nat) (M : Nat → Nat → Rat) (S : Nat → Prop) : Prop where
  out : ∀ j i, j < n → i < n → S i → ¬ S j → M j i = 0
  leak : ∀ i, i < n → S i → sm n (fun j => M j i) = 1
/-- no set without leaks but the empty one -/
def Open (n : Nat) (M : Nat → Nat → Rat) : Prop := ∀ S : Nat → Prop, Shut n M S → ∀ i, i < n → ¬ S i
/-- what is not negative and at most its image: the set where it is positive is without leaks -/
theorem shut_of {n : Nat} {M : Nat → Nat → Rat} (hM : Sub1 n M) {y : Nat → Rat} (h0 : ∀ i, i < n → 0 ≤ y i) (hy : ∀ j, j < n → y j ≤ sm n (fun i => M j i * y i)) :
    Shut n M (fun i => y i ≠ 0) ∧ ∀ j, j < n → y j = sm n (fun i => M j i * y i) := by
  have e : sm n (fun j => sm n (fun i => M j i * y i)) = sm n (fun i => sm n (fun j => M j i) * y i) := by
    rw [sm_swap]
    exact sm_congr n (fun i hi => sm_mulr (y i) (fun j => M j i) n)
  have hc : ∀ i, i < n → sm n (fun j => M j i) * y i ≤ y i := fun i hi => by
    have h1 := hM.col i hi
    have h2 := h0 i hi
    have := Rat.mul_le_mul_of_nonneg_right h1 h2
    rwa [Rat.one_mul] at this
  have h1 : sm n y ≤ sm n (fun j => sm n (fun i => M j i * y i)) := sm_le n hy
  have h2 : sm n (fun i => sm n (fun j => M j i) * y i) ≤ sm n y := sm_le n hc
  have hj := sm_eq_each n hy (by rw [e]; exact h2)
  have hi := sm_eq_each n hc (by rw [← e]; exact h1)
  refine ⟨⟨fun j i hjn hin hS hSj => ?_, fun i hin hS => ?_⟩, hj⟩
  · have hz : y j = 0 := Classical.not_not.1 hSj
    have hs := hj j hjn
    rw [hz] at hs
    have := sm_zero_each n (f := fun i => M j i * y i) (fun k hk => Rat.mul_nonneg (hM.nn j k hjn hk) (h0 k hk)) (by rw [← hs]; exact Rat.le_refl) i hin
    rcases Rat.mul_eq_zero.1 this with h | h
    · exact h
    · exact absurd h hS
  · have := hi i hin
    have hS' : y i ≠ 0 := hS
    grind
theorem open_nonneg {n : Nat} {M : Nat → Nat → Rat} (hM : Sub1 n M) (hO : Open n M) {v c : Nat → Rat} (hc : ∀ i, i < n → 0 ≤ c i) (hv : ∀ j, j < n → v j = sm n (fun i => M j i * v i) + c j) : ∀ j, j < n → 0 ≤ v j := by
  have h := shut_of hM (y := fun i => if v i < 0 then - v i else 0) (fun i hi => by show 0 ≤ (if v i < 0 then - v i else 0); split <;> grind) (fun j hj => by
    have hle : sm n (fun i => M j i * (-(if v i < 0 then - v i else 0))) ≤ sm n (fun i => M j i * v i) := sm_le n (fun i hi => by
      have h1 := hM.nn j i hj hi
      have h2 : (-(if v i < 0 then - v i else 0)) ≤ v i := by split <;> grind
      exact Rat.mul_le_mul_of_nonneg_left h2 h1)
    have he : sm n (fun i => M j i * (-(if v i < 0 then - v i else 0))) = - sm n (fun i => M j i * (if v i < 0 then - v i else 0)) := by
      have := sm_mul (-1) (fun i => M j i * (if v i < 0 then - v i else 0)) n
      have e2 : sm n (fun i => M j i * (-(if v i < 0 then - v i else 0))) = sm n (fun i => (-1) * (M j i * (if v i < 0 then - v i else 0))) := sm_congr n (fun i _ => by grind)
      rw [e2, this]; grind
    have h0 : 0 ≤ sm n (fun i => M j i * (if v i < 0 then - v i else 0)) := sm_nonneg n (fun i hi => Rat.mul_nonneg (hM.nn j i hj hi) (by split <;> grind))
    have h1 := hv j hj
    have h2 := hc j hj
    show (if v j < 0 then - v j else 0) ≤ _
    split <;> grind)
  intro j hj
  have := hO _ h.1 j hj
  have h2 : (if v j < 0 then - v j else 0) = 0 := Classical.not_not.1 this
  by_cases hlt : v j < 0
  · rw [if_pos hlt] at h2; grind
  · grind
/-- such a matrix moves no vector but 0 to itself -/
theorem open_kernel {n : Nat} {M : Nat → Nat → Rat} (hM : Sub1 n M) (hO : Open n M) {z : Nat → Rat} (hz : ∀ j, j < n → z j = sm n (fun i => M j i * z i)) : ∀ j, j < n → z j = 0 := by
  have h1 := open_nonneg hM hO (c := fun _ => 0) (v := z) (fun _ _ => by grind) (fun j hj => by have := hz j hj; grind)
  have h2 := open_nonneg hM hO (c := fun _ => 0) (v := fun i => - z i) (fun _ _ => by grind) (fun j hj => by
    have := hz j hj
    have e := sm_mul (-1) (fun i => M j i * z i) n
    have e2 : sm n (fun i => M j i * -z i) = sm n (fun i => (-1) * (M j i * z i)) := sm_congr n (fun i _ => by grind)
    rw [e2, e]; grind)
  intro j hj
  have := h1 j hj
  have := h2 j hj
  grind
/-- a class in which each reaches each: what it moves to itself is positive if it is somewhere -/
theorem class_pos {n : Nat} {M : Nat → Nat → Rat} (hM : Sub1 n M) (hC : ∀ S : Nat → Prop, Shut n M S → (∃ i, i < n ∧ S i) → ∀ i, i < n → S i) {z : Nat → Rat} (hz : ∀ j, j < n → z j = sm n (fun i => M j i * z i)) {f : Nat} (hf : f < n) (hp : 0 < z f) : ∀ j, j < n → 0 < z j := by
  have h := shut_of hM (y := fun i => if 0 < z i then z i else 0) (fun i hi => by show 0 ≤ (if 0 < z i then z i else 0); split <;> grind) (fun j hj => by
    have hle : sm n (fun i => M j i * z i) ≤ sm n (fun i => M j i * (if 0 < z i then z i else 0)) := sm_le n (fun i hi => by
      have h1 := hM.nn j i hj hi
      have h2 : z i ≤ (if 0 < z i then z i else 0) := by split <;> grind
      exact Rat.mul_le_mul_of_nonneg_left h2 h1)
    have h0 : 0 ≤ sm n (fun i => M j i * (if 0 < z i then z i else 0)) := sm_nonneg n (fun i hi => Rat.mul_nonneg (hM.nn j i hj hi) (by split <;> grind))
    have h1 := hz j hj
    show (if 0 < z j then z j else 0) ≤ _
    split <;> grind)
  intro j hj
  have := hC _ h.1 ⟨f, hf, by show (if 0 < z f then z f else 0) ≠ 0; rw [if_pos hp]; grind⟩ j hj
  have h2 : (if 0 < z j then z j else 0) ≠ 0 := this
  by_cases hlt : 0 < z j
  · exact hlt
  · rw [if_neg hlt] at h2; exact absurd rfl h2
/-- a fixed point at which no set is without leaks is the greatest: nothing above it is at most its image (c: the cash; P: what is passed on) -/
theorem greatest {n : Nat} {M : Nat → Nat → Rat} {P : (Nat → Rat) → Nat → Rat} {x z c : Nat → Rat} {h : Rat} (hM : Sub1 n M) (hO : Open n M) (hxz : ∀ i, i < n → x i ≤ z i) (hx : ∀ j, j < n → x j = c j + P x j) (hz : ∀ j, j < n → z j ≤ c j + P z j)
    (h0 : 0 < h) (hlin : ∀ j, j < n → P (fun i => x i + h * (z i - x i)) j = P x j + h * sm n (fun i => M j i * (z i - x i)))
    (hmono : ∀ j, j < n → P (fun i => x i + h * (z i - x i)) j ≤ P z j)
    (hlip : sm n (fun j => P z j - P (fun i => x i + h * (z i - x i)) j) ≤ sm n (fun i => z i - (x i + h * (z i - x i)))) : ∀ j, j < n → z j = x j := by
  -- e: how much z is above x
  have hMe0 : ∀ j, j < n → 0 ≤ sm n (fun i => M j i * (z i - x i)) := fun j hj => sm_nonneg n (fun i hi => Rat.mul_nonneg (hM.nn j i hj hi) (by have := hxz i hi; grind))
  have hcol : sm n (fun j => sm n (fun i => M j i * (z i - x i))) ≤ sm n (fun i => z i - x i) := by
    have e : sm n (fun j => sm n (fun i => M j i * (z i - x i))) = sm n (fun i => sm n (fun j => M j i) * (z i - x i)) := by
      rw [sm_swap]
      exact sm_congr n (fun i hi => sm_mulr (z i - x i) (fun j => M j i) n)
    rw [e]
    exact sm_le n (fun i hi => by
      have h1 := hM.col i hi
      have h2 : 0 ≤ z i - x i := by have := hxz i hi; grind
      have := Rat.mul_le_mul_of_nonneg_right h1 h2
      rwa [Rat.one_mul] at this)
  -- the image rises by at least e, and by no more
  have hup : ∀ j, j < n → z j - x j - h * sm n (fun i => M j i * (z i - x i)) ≤ P z j - P (fun i => x i + h * (z i - x i)) j := fun j hj => by
    have h1 := hx j hj
    have h2 := hz j hj
    have h3 := hlin j hj
    grind
  have hl := sm_le n hup
  have e1 : sm n (fun i => z i - (x i + h * (z i - x i))) = sm n (fun i => z i - x i) - h * sm n (fun i => z i - x i) := by
    rw [← sm_mul, ← sm_sub]
    exact sm_congr n (fun i _ => by grind)
  have e2 : sm n (fun j => z j - x j - h * sm n (fun i => M j i * (z i - x i))) = sm n (fun i => z i - x i) - h * sm n (fun j => sm n (fun i => M j i * (z i - x i))) := by
    rw [← sm_mul, ← sm_sub]
  rw [e2] at hl
  rw [e1] at hlip
  have hge : sm n (fun i => z i - x i) ≤ sm n (fun j => sm n (fun i => M j i * (z i - x i))) := by
    have h4 : h * sm n (fun i => z i - x i) ≤ h * sm n (fun j => sm n (fun i => M j i * (z i - x i))) := by grind
    exact Rat.le_of_mul_le_mul_left h4 h0
  have hEQ : sm n (fun j => sm n (fun i => M j i * (z i - x i))) = sm n (fun i => z i - x i) := by grind
  -- so each is equal
  have hup2 := sm_eq_each n hup (by rw [e2, hEQ]; exact hlip)
  -- where z is not above x the image does not rise
  have hzero : ∀ j, j < n → z j - x j = 0 → sm n (fun i => M j i * (z i - x i)) = 0 := fun j hj hej => by
    have h1 := hup2 j hj
    have h2 := hmono j hj
    have h3 := hMe0 j hj
    have h5 : 0 ≤ h * sm n (fun i => M j i * (z i - x i)) := Rat.mul_nonneg (by grind) h3
    have h6 : h * sm n (fun i => M j i * (z i - x i)) = 0 := by grind
    rcases Rat.mul_eq_zero.1 h6 with h7 | h7
    · grind
    · exact h7
  have hS : Shut n M (fun i => z i - x i ≠ 0) := by
    refine ⟨fun j i hj hi hSi hSj => ?_, fun i hi hSi => ?_⟩
    · have hz0 := hzero j hj (Classical.not_not.1 hSj)
      have := sm_zero_each n (f := fun i => M j i * (z i - x i)) (fun k hk => Rat.mul_nonneg (hM.nn j k hj hk) (by have := hxz k hk; grind)) (by rw [hz0]; exact Rat.le_refl) i hi
      rcases Rat.mul_eq_zero.1 this with h7 | h7
      · exact h7
      · exact absurd h7 hSi
    · have e : sm n (fun j => sm n (fun i => M j i * (z i - x i))) = sm n (fun i => sm n (fun j => M j i) * (z i - x i)) := by
        rw [sm_swap]
        exact sm_congr n (fun i hi => sm_mulr (z i - x i) (fun j => M j i) n)
      have := sm_eq_each n (f := fun i => sm n (fun j => M j i) * (z i - x i)) (g := fun i => z i - x i) (fun i hi => by
        have h1 := hM.col i hi
        have h2 : 0 ≤ z i - x i := by have := hxz i hi; grind
        have := Rat.mul_le_mul_of_nonneg_right h1 h2
        rwa [Rat.one_mul] at this) (by rw [← e, hEQ]; exact Rat.le_refl) i hi
      have hSi' : z i - x i ≠ 0 := hSi
      grind
  intro j hj
  have := hO _ hS j hj
  have : z j - x j = 0 := Classical.not_not.1 this
  grind
end Go.Proofs.YtpbgmpjnfndfjaaGreatDoor.TpA
namespace Go.Proofs.YtpbgmpjnfndfjaaGreatDoor.TpB
/-- what each tier takes of the money, the first one first -/
def takes : List Rat → Rat → List Rat
  | [], _ => []
  | s :: S, m => (if m < s then m else s) :: takes S (if m < s then 0 else m - s)
/-- how many tiers are paid in full, and what is left for the next one -/
def split : List Rat → Rat → Nat × Rat
  | [], m => (0, m)
  | s :: S, m => if m < s then (0, m) else ((split S (m - s)).1 + 1, (split S (m - s)).2)
/-- the rates at which the tiers take more -/
def rates : List Rat → Rat → List Rat
  | [], _ => []
  | s :: S, m => if m < s then 1 :: S.map (fun _ => 0) else 0 :: rates S (m - s)
/-- the money that is missing until the next tier is full -/
def gap : List Rat → Rat → Option Rat
  | [], _ => none
  | s :: S, m => if m < s then some (s - m) else gap S (m - s)
def sumR : List Rat → Rat
  | [] => 0
  | s :: S => s + sumR S
theorem sumR_app (a b : List Rat) : sumR (a ++ b) = sumR a + sumR b := by
  induction a with
  | nil => simp only [List.nil_append, sumR]; grind
  | cons x a ih => simp only [List.cons_append, sumR, ih]; grind
theorem sumR_zero {α : Type} (l : List α) : sumR (l.map (fun _ => 0)) = 0 := by
  induction l with
  | nil => rfl
  | cons x l ih => simp only [List.map_cons, sumR, ih]; grind
theorem takes_len : ∀ (S : List Rat) (m : Rat), (takes S m).length = S.length
  | [], _ => rfl
  | s :: S, m => by simp only [takes, List.length_cons, takes_len S]
theorem rates_len : ∀ (S : List Rat) (m : Rat), (rates S m).length = S.length
  | [], _ => rfl
  | s :: S, m => by
    simp only [rates]
    split
    · simp
    · simp only [List.length_cons, rates_len S]
theorem split_le : ∀ (S : List Rat) (m : Rat), (split S m).1 ≤ S.length
  | [], _ => by simp [split]
  | s :: S, m => by
    have := split_le S (m - s)
    simp only [split]
    split <;> simp <;> omega
/-- nothing is left over but what no tier takes -/
theorem takes_zero : ∀ (S : List Rat), (∀ s ∈ S, 0 ≤ s) → takes S 0 = S.map (fun _ => 0)
  | [], _ => rfl
  | s :: S, h => by
    have hs := h s (List.mem_cons_self ..)
    have ih := takes_zero S (fun t ht => h t (List.mem_cons_of_mem _ ht))
    simp only [takes, List.map_cons]
    by_cases h0 : (0 : Rat) < s
    · rw [if_pos h0, if_pos h0, ih]
    · have : s = 0 := by grind
      subst this
      rw [if_neg h0, if_neg h0, show (0 : Rat) - 0 = 0 by grind, ih]
theorem takes_split : ∀ (S : List Rat) (m : Rat), (∀ s ∈ S, 0 ≤ s) → ∀ k, (takes S m)[k]? = if k < (split S m).1 then S[k]? else if k = (split S m).1 ∧ k < S.length then some (split S m).2 else if k < S.length then some 0 else none
  | [], m, _, k => by simp [takes, split]
  | s :: S, m, h, k => by
    have hS : ∀ t ∈ S, 0 ≤ t := fun t ht => h t (List.mem_cons_of_mem _ ht)
    have ih := takes_split S (m - s) hS
    simp only [takes, split]
    by_cases hlt : m < s
    · simp only [if_pos hlt]
      cases k with
      | zero => simp
      | succ k =>
        rw [takes_zero S hS]
        simp only [List.getElem?_cons_succ, List.length_cons, List.getElem?_map]
        by_cases hk : k < S.length
        · rw [List.getElem?_eq_getElem hk]
          simp [hk]
        · rw [List.getElem?_eq_none (by omega)]
          simp [hk]
    · simp only [if_neg hlt]
      cases k with
      | zero => simp
      | succ k =>
        simp only [List.getElem?_cons_succ, List.length_cons, ih k, Nat.add_lt_add_iff_right, Nat.add_right_cancel_iff]
theorem takes_bd : ∀ (S : List Rat) (m : Rat), (∀ s ∈ S, 0 ≤ s) → 0 ≤ m → ∀ (k : Nat) (t s : Rat), (takes S m)[k]? = some t → S[k]? = some s → 0 ≤ t ∧ t ≤ s
  | [], _, _, _, k, t, s, ht, _ => by simp [takes] at ht
  | a :: S, m, h, hm, k, t, s, ht, hs => by
    have ha := h a (List.mem_cons_self ..)
    simp only [takes] at ht
    cases k with
    | zero =>
      simp only [List.getElem?_cons_zero, Option.some.injEq] at ht hs
      subst hs
      split at ht <;> grind
    | succ k =>
      simp only [List.getElem?_cons_succ] at ht hs
      exact takes_bd S _ (fun t ht => h t (List.mem_cons_of_mem _ ht)) (by split <;> grind) k t s ht hs
/-- each tier takes no less of more money -/
theorem takes_mono : ∀ (S : List Rat) (m m' : Rat), (∀ s ∈ S, 0 ≤ s) → 0 ≤ m → m ≤ m' → ∀ (k : Nat) (t t' : Rat), (takes S m)[k]? = some t → (takes S m')[k]? = some t' → t ≤ t'
  | [], _, _, _, _, _, k, t, t', ht, _ => by simp [takes] at ht
  | a :: S, m, m', h, hm, hmm, k, t, t', ht, ht' => by
    have ha := h a (List.mem_cons_self ..)
    simp only [takes] at ht ht'
    cases k with
    | zero =>
      simp only [List.getElem?_cons_zero, Option.some.injEq] at ht ht'
      split at ht <;> split at ht' <;> grind
    | succ k =>
      simp only [List.getElem?_cons_succ] at ht ht'
      exact takes_mono S _ _ (fun t ht => h t (List.mem_cons_of_mem _ ht)) (by split <;> grind) (by split <;> split <;> grind) k t t' ht ht'
/-- in all they take the money, as far as they go -/
theorem takes_sum : ∀ (S : List Rat) (m : Rat), (∀ s ∈ S, 0 ≤ s) → 0 ≤ m → sumR (takes S m) = if m < sumR S then m else sumR S
  | [], m, _, hm => by simp only [takes, sumR]; grind
  | a :: S, m, h, hm => by
    have ha := h a (List.mem_cons_self ..)
    have hS : ∀ t ∈ S, 0 ≤ t := fun t ht => h t (List.mem_cons_of_mem _ ht)
    have h0 : 0 ≤ sumR S := by
      have : ∀ (l : List Rat), (∀ s ∈ l, 0 ≤ s) → 0 ≤ sumR l := by
        intro l
        induction l with
        | nil => intro _; simp only [sumR]; grind
        | cons x l ih => intro hl; have h1 := hl x (List.mem_cons_self ..); have h2 := ih (fun s hs => hl s (List.mem_cons_of_mem _ hs)); simp only [sumR]; grind
      exact this S hS
    have ih := takes_sum S (if m < a then 0 else m - a) hS (by split <;> grind)
    simp only [takes, sumR, ih]
    grind
/-- up to the gap the tiers take more at their rates -/
theorem takes_lin : ∀ (S : List Rat) (m h : Rat), (∀ s ∈ S, 0 ≤ s) → 0 ≤ m → 0 ≤ h → (∀ g, gap S m = some g → h ≤ g) → ∀ (k : Nat) (t r : Rat), (takes S m)[k]? = some t → (rates S m)[k]? = some r → (takes S (m + h))[k]? = some (t + h * r)
  | [], _, _, _, _, _, _, k, t, r, ht, _ => by simp [takes] at ht
  | a :: S, m, h, hS, hm, hh, hg, k, t, r, ht, hr => by
    have ha := hS a (List.mem_cons_self ..)
    have hS' : ∀ t ∈ S, 0 ≤ t := fun t ht => hS t (List.mem_cons_of_mem _ ht)
    simp only [takes, rates, gap] at ht hr hg ⊢
    by_cases hlt : m < a
    · simp only [if_pos hlt] at ht hr hg
      have hga := hg _ rfl
      cases k with
      | zero =>
        simp only [List.getElem?_cons_zero, Option.some.injEq] at ht hr ⊢
        subst ht; subst hr
        clear hS hS' hg
        split <;> grind
      | succ k =>
        simp only [List.getElem?_cons_succ] at ht hr ⊢
        rw [takes_zero S hS'] at ht
        have e : (if m + h < a then 0 else m + h - a) = 0 := by split <;> grind
        rw [e, takes_zero S hS', ht]
        rw [List.getElem?_map] at hr
        cases hk : S[k]? with
        | none => rw [hk] at hr; cases hr
        | some s =>
          rw [hk] at hr
          have hr' : (0 : Rat) = r := by simpa using hr
          subst hr'
          congr 1
          grind
    · simp only [if_neg hlt] at ht hr hg
      have h2 : ¬ m + h < a := by grind
      simp only [if_neg h2]
      cases k with
      | zero =>
        simp only [List.getElem?_cons_zero, Option.some.injEq] at ht hr ⊢
        grind
      | succ k =>
        simp only [List.getElem?_cons_succ] at ht hr ⊢
        have := takes_lin S (m - a) h hS' (by grind) hh hg k t r ht hr
        rw [show m + h - a = m - a + h by grind]
        exact this
theorem gap_pos : ∀ (S : List Rat) (m g : Rat), gap S m = some g → 0 < g
  | [], _, _, h => by cases h
  | a :: S, m, g, h => by
    simp only [gap] at h
    split at h
    · injection h with h; grind
    · exact gap_pos S _ g h
/-- beyond the gap one tier more is full -/
theorem gap_next : ∀ (S : List Rat) (m g m' : Rat), (∀ s ∈ S, 0 ≤ s) → gap S m = some g → m + g ≤ m' → (split S m).1 < (split S m').1
  | [], _, _, _, _, h, _ => by cases h
  | a :: S, m, g, m', hS, h, hm => by
    simp only [gap] at h
    simp only [split]
    split at h
    · rename_i hlt
      injection h with h
      rw [if_pos hlt, if_neg (by grind)]
      simp
    · rename_i hge
      have := gap_pos S _ g h
      rw [if_neg hge, if_neg (by grind)]
      have := gap_next S (m - a) g (m' - a) (fun t ht => hS t (List.mem_cons_of_mem _ ht)) h (by grind)
      simp only
      omega
theorem split_mono : ∀ (S : List Rat) (m m' : Rat), m ≤ m' → (split S m).1 ≤ (split S m').1
  | [], _, _, _ => Nat.le_refl _
  | a :: S, m, m', hm => by
    simp only [split]
    by_cases h : m < a
    · rw [if_pos h]; simp
    · rw [if_neg h, if_neg (by grind)]
      have := split_mono S (m - a) (m' - a) (by grind)
      simp only
      omega
end Go.Proofs.YtpbgmpjnfndfjaaGreatDoor.TpB
namespace Go.Proofs.YtpbgmpjnfndfjaaGreatDoor.TpC
open TpB
/-- a part: a claim, or -1 for the reserve, and what it can receive -/
abbrev Part := Int × Rat
def tsum (t : List Part) : Rat := sumR (t.map (·.2))
/-- what the parts of a claim have in a list -/
def got (c : Int) (l : List Part) : Rat := sumR (l.map (fun p => if p.1 = c then p.2 else 0))
theorem got_nil (c : Int) : got c [] = 0 := rfl
theorem got_app (c : Int) (a b : List Part) : got c (a ++ b) = got c a + got c b := by
  unfold got; rw [List.map_append, sumR_app]
theorem got_cons (c : Int) (p : Part) (l : List Part) : got c (p :: l) = (if p.1 = c then p.2 else 0) + got c l := rfl
theorem tsum_cons (p : Part) (l : List Part) : tsum (p :: l) = p.2 + tsum l := rfl
theorem tsum_app (a b : List Part) : tsum (a ++ b) = tsum a + tsum b := by
  unfold tsum; rw [List.map_append, sumR_app]
/-- what the tiers of a ladder pay -/
def pays : List (List Part) → Rat → List Part
  | [], _ => []
  | t :: L, m => if m < tsum t then t.map (fun p => (p.1, p.2 * (m / tsum t))) else t ++ pays L (m - tsum t)
/-- what they pay more for more money -/
def slopes : List (List Part) → Rat → Rat → List Part
  | [], _, _ => []
  | t :: L, m, r => if m < tsum t then t.map (fun p => (p.1, p.2 * (r / tsum t))) else slopes L (m - tsum t) r
def sums (L : List (List Part)) : List Rat := L.map tsum
def dot : List Rat → List Rat → Rat
  | a :: l, b :: m => a * b + dot l m
  | _, _ => 0
/-- the share of a claim in each tier -/
def share (c : Int) (L : List (List Part)) : List Rat := L.map (fun t => got c t / tsum t)
def Pos (L : List (List Part)) : Prop := ∀ t ∈ L, ∀ p ∈ t, 0 ≤ p.2
theorem tsum_nn {t : List Part} (h : ∀ p ∈ t, 0 ≤ p.2) : 0 ≤ tsum t := by
  induction t with
  | nil => simp only [tsum, List.map_nil, sumR]; grind
  | cons p t ih =>
    rw [tsum_cons]
    have h1 := h p (List.mem_cons_self ..)
    have h2 := ih (fun q hq => h q (List.mem_cons_of_mem _ hq))
    grind
theorem got_nn {t : List Part} (c : Int) (h : ∀ p ∈ t, 0 ≤ p.2) : 0 ≤ got c t := by
  induction t with
  | nil => rw [got_nil]; grind
  | cons p t ih =>
    rw [got_cons]
    have h1 := h p (List.mem_cons_self ..)
    have h2 := ih (fun q hq => h q (List.mem_cons_of_mem _ hq))
    split <;> grind
theorem got_le {t : List Part} (c : Int) (h : ∀ p ∈ t, 0 ≤ p.2) : got c t ≤ tsum t := by
  induction t with
  | nil => rw [got_nil]; simp only [tsum, List.map_nil, sumR]; grind
  | cons p t ih =>
    rw [got_cons, tsum_cons]
    have h1 := h p (List.mem_cons_self ..)
    have h2 := ih (fun q hq => h q (List.mem_cons_of_mem _ hq))
    split <;> grind
theorem got_scale (c : Int) (k : Rat) (t : List Part) : got c (t.map (fun p => (p.1, p.2 * k))) = got c t * k := by
  induction t with
  | nil => rw [List.map_nil, got_nil]; grind
  | cons p t ih =>
    rw [List.map_cons, got_cons, got_cons, ih]
    simp only
    split <;> grind
theorem sums_nn {L : List (List Part)} (h : Pos L) : ∀ s ∈ sums L, 0 ≤ s := by
  intro s hs
  obtain ⟨t, ht, rfl⟩ := List.mem_map.1 hs
  exact tsum_nn (h t ht)
theorem dot_zero : ∀ (l : List Rat) {α : Type} (m : List α), dot l (m.map (fun _ => 0)) = 0
  | [], _, _ => by simp only [dot]
  | a :: l, _, [] => by simp only [List.map_nil, dot]
  | a :: l, _, x :: m => by
    simp only [List.map_cons, dot, dot_zero l m]
    grind
theorem pays_got (c : Int) : ∀ (L : List (List Part)) (m : Rat), Pos L → got c (pays L m) = dot (share c L) (takes (sums L) m)
  | [], m, _ => rfl
  | t :: L, m, h => by
    have ht := fun p hp => h t (List.mem_cons_self ..) p hp
    have hL : Pos L := fun u hu => h u (List.mem_cons_of_mem _ hu)
    have hs := tsum_nn ht
    have hg := got_nn c ht
    have hl := got_le c ht
    simp only [pays, share, sums, List.map_cons, takes, dot]
    by_cases hlt : m < tsum t
    · rw [if_pos hlt, if_pos hlt, if_pos hlt, got_scale]
      have hz : dot (L.map (fun t => got c t / tsum t)) (takes (L.map tsum) 0) = 0 := by
        rw [takes_zero (L.map tsum) (sums_nn hL)]
        exact dot_zero _ _
      rw [hz, Rat.div_def, Rat.div_def]
      grind
    · rw [if_neg hlt, if_neg hlt, if_neg hlt, got_app, pays_got c L _ hL]
      have e : got c t / tsum t * tsum t = got c t := by
        by_cases h0 : tsum t = 0
        · have : got c t = 0 := by grind
          rw [this, h0, Rat.mul_zero]
        · exact Rat.div_mul_cancel h0
      rw [e]
      rfl
theorem slopes_got (c : Int) (r : Rat) : ∀ (L : List (List Part)) (m : Rat), Pos L → got c (slopes L m r) = r * dot (share c L) (rates (sums L) m)
  | [], m, _ => by
    simp only [slopes, got_nil, share, List.map_nil, dot]
    grind
  | t :: L, m, h => by
    have hL : Pos L := fun u hu => h u (List.mem_cons_of_mem _ hu)
    simp only [slopes, share, sums, List.map_cons, rates]
    by_cases hlt : m < tsum t
    · rw [if_pos hlt, if_pos hlt, got_scale]
      simp only [dot]
      have hz : dot (L.map (fun t => got c t / tsum t)) ((L.map tsum).map (fun _ => 0)) = 0 := dot_zero _ _
      rw [hz, Rat.div_def, Rat.div_def]
      grind
    · rw [if_neg hlt, if_neg hlt, slopes_got c r L _ hL]
      simp only [dot]
      have : dot (share c L) (rates (sums L) (m - tsum t)) = dot (L.map (fun t => got c t / tsum t)) (rates (L.map tsum) (m - tsum t)) := rfl
      rw [this]
      grind
theorem share_nn {c : Int} {L : List (List Part)} (h : Pos L) : ∀ a ∈ share c L, 0 ≤ a := by
  intro a ha
  obtain ⟨t, ht, rfl⟩ := List.mem_map.1 ha
  have h1 := got_nn c (h t ht)
  have h2 := tsum_nn (h t ht)
  rw [Rat.div_def]
  exact Rat.mul_nonneg h1 (by
    by_cases h0 : tsum t = 0
    · rw [h0, Rat.inv_zero]; exact Rat.le_refl
    · exact Rat.le_of_lt (Rat.inv_pos.2 (by grind)))
/-- sums of products -/
theorem dot_mono : ∀ (l a b : List Rat), (∀ x ∈ l, 0 ≤ x) → a.length = b.length → (∀ (k : Nat) (x y : Rat), a[k]? = some x → b[k]? = some y → x ≤ y) → dot l a ≤ dot l b
  | [], a, b, _, _, _ => by simp only [dot]; grind
  | x :: l, [], [], _, _, _ => by simp only [dot]; grind
  | x :: l, [], _ :: _, _, h, _ => by simp at h
  | x :: l, _ :: _, [], _, h, _ => by simp at h
  | x :: l, a :: as, b :: bs, hl, he, h => by
    simp only [dot]
    have h1 := h 0 a b rfl rfl
    have h2 := dot_mono l as bs (fun y hy => hl y (List.mem_cons_of_mem _ hy)) (by simpa using he) (fun k u v hu hv => h (k + 1) u v (by simpa using hu) (by simpa using hv))
    have h3 := Rat.mul_le_mul_of_nonneg_left h1 (hl x (List.mem_cons_self ..))
    grind
theorem dot_lin (h : Rat) : ∀ (l a r b : List Rat), l.length = a.length → l.length = r.length → l.length = b.length → (∀ (k : Nat) (x y : Rat), a[k]? = some x → r[k]? = some y → b[k]? = some (x + h * y)) → dot l b = dot l a + h * dot l r
  | [], _, _, _, _, _, _, _ => by simp only [dot]; grind
  | x :: l, [], _, _, h, _, _, _ => by simp at h
  | x :: l, _ :: _, [], _, _, h, _, _ => by simp at h
  | x :: l, _ :: _, _ :: _, [], _, _, h, _ => by simp at h
  | x :: l, a :: as, r :: rs, b :: bs, h1, h2, h3, hk => by
    simp only [dot]
    have h4 := hk 0 a r rfl rfl
    simp only [List.getElem?_cons_zero, Option.some.injEq] at h4
    have h5 := dot_lin h l as rs bs (by simpa using h1) (by simpa using h2) (by simpa using h3) (fun k u v hu hv => by have := hk (k + 1) u v (by simpa using hu) (by simpa using hv); simpa using this)
    rw [h5, h4]
    grind
theorem dot_add : ∀ (a b c : List Rat), a.length = b.length → dot (List.zipWith (· + ·) a b) c = dot a c + dot b c
  | [], [], _, _ => by simp only [List.zipWith_nil_left, dot]; grind
  | [], _ :: _, _, h => by simp at h
  | _ :: _, [], _, h => by simp at h
  | x :: a, y :: b, [], _ => by simp only [List.zipWith_cons_cons, dot]; grind
  | x :: a, y :: b, z :: c, h => by
    simp only [List.zipWith_cons_cons, dot, dot_add a b c (by simpa using h)]
    grind
/-- what a claim is paid rises with the money -/
theorem paid_mono (c : Int) {L : List (List Part)} (hL : Pos L) {m m' : Rat} (h0 : 0 ≤ m) (h : m ≤ m') : got c (pays L m) ≤ got c (pays L m') := by
  rw [pays_got c L m hL, pays_got c L m' hL]
  exact dot_mono _ _ _ (share_nn hL) (by rw [takes_len, takes_len]) (takes_mono _ _ _ (sums_nn hL) h0 h)
theorem paid_lin (c : Int) {L : List (List Part)} (hL : Pos L) {m h : Rat} (h0 : 0 ≤ m) (hh : 0 ≤ h) (hg : ∀ g, gap (sums L) m = some g → h ≤ g) : got c (pays L (m + h)) = got c (pays L m) + h * got c (slopes L m 1) := by
  rw [pays_got c L m hL, pays_got c L _ hL, slopes_got c 1 L m hL, Rat.one_mul]
  have e1 : (share c L).length = (sums L).length := by simp [share, sums]
  exact dot_lin h _ _ _ _ (by rw [takes_len, e1]) (by rw [rates_len, e1]) (by rw [takes_len, e1]) (takes_lin _ _ _ (sums_nn hL) h0 hh hg)
theorem slope_scale (c : Int) {L : List (List Part)} (hL : Pos L) (m r : Rat) : got c (slopes L m r) = r * got c (slopes L m 1) := by
  rw [slopes_got c r L m hL, slopes_got c 1 L m hL, Rat.one_mul]
/-- all that is paid -/
theorem pays_all : ∀ (L : List (List Part)) (m : Rat), Pos L → 0 ≤ m → tsum (pays L m) = if m < sumR (sums L) then m else sumR (sums L)
  | [], m, _, hm => by simp only [pays, sums, List.map_nil, sumR, tsum]; grind
  | t :: L, m, h, hm => by
    have ht := fun p hp => h t (List.mem_cons_self ..) p hp
    have hL : Pos L := fun u hu => h u (List.mem_cons_of_mem _ hu)
    have hs := tsum_nn ht
    have hn : ∀ (l : List Rat), (∀ s ∈ l, 0 ≤ s) → 0 ≤ sumR l := by
      intro l
      induction l with
      | nil => intro _; simp only [sumR]; grind
      | cons x l ih => intro hl; have h1 := hl x (List.mem_cons_self ..); have h2 := ih (fun s hs => hl s (List.mem_cons_of_mem _ hs)); simp only [sumR]; grind
    have h1 := hn _ (sums_nn hL)
    simp only [pays, sums, List.map_cons, sumR]
    by_cases hlt : m < tsum t
    · rw [if_pos hlt]
      have e : tsum (t.map (fun p => (p.1, p.2 * (m / tsum t)))) = tsum t * (m / tsum t) := by
        have : ∀ (l : List Part) (k : Rat), tsum (l.map (fun p => (p.1, p.2 * k))) = tsum l * k := by
          intro l k
          induction l with
          | nil => simp only [List.map_nil, tsum, sumR]; grind
          | cons p l ih => rw [List.map_cons, tsum_cons, tsum_cons, ih]; grind
        exact this t _
      rw [e, if_pos (by have : sumR (sums L) = sumR (L.map tsum) := rfl; grind), Rat.mul_comm, Rat.div_mul_cancel (by grind)]
    · rw [if_neg hlt, tsum_app, pays_all L _ hL (by grind)]
      have : sumR (sums L) = sumR (L.map tsum) := rfl
      grind
end Go.Proofs.YtpbgmpjnfndfjaaGreatDoor.TpC
namespace Go.Proofs.YtpbgmpjnfndfjaaGreatDoor.TpD
open TpA TpB TpC
/-- an estate that is laid out: its ranks, and its pools (who takes part, and the ladder) -/
structure Lay where
  cnt : Nat
  ranks : List (List Part)
  pools : List (List Nat × List (List Part))
def gross (L : Lay) (x : Rat) (c : Nat) : Rat := got c (pays L.ranks x)
def rate (L : Lay) (x : Rat) (c : Nat) : Rat := got c (slopes L.ranks x 1)
def total (g : Nat → Rat) : List Nat → Rat
  | [] => 0
  | i :: l => g i + total g l
def inPool (L : Lay) (c : Nat) : Bool := L.pools.any (fun p => p.1.contains c)
/-- what all pools pay to a claim, or to the reserve -/
def fromPools (x : Rat) (L : Lay) (c : Int) : List (List Nat × List (List Part)) → Rat
  | [] => 0
  | p :: ps => got c (pays p.2 (total (gross L x) p.1)) + fromPools x L c ps
def slopePools (x : Rat) (L : Lay) (c : Int) : List (List Nat × List (List Part)) → Rat
  | [] => 0
  | p :: ps => got c (slopes p.2 (total (gross L x) p.1) (total (rate L x) p.1)) + slopePools x L c ps
def deliver (L : Lay) (x : Rat) (c : Nat) : Rat := (if inPool L c then 0 else gross L x c) + fromPools x L c L.pools
def slope (L : Lay) (x : Rat) (c : Nat) : Rat := (if inPool L c then 0 else rate L x c) + slopePools x L c L.pools
def reserved (L : Lay) (x : Rat) : Rat := fromPools x L (-1) L.pools
def reserveSlope (L : Lay) (x : Rat) : Rat := slopePools x L (-1) L.pools
def cand (x : Rat) (L : Lay) (p : List Nat × List (List Part)) (g : Rat) : Rat := match gap (sums p.2) (total (gross L x) p.1) with
  | some h => if 0 < total (rate L x) p.1 then (if h / total (rate L x) p.1 < g then h / total (rate L x) p.1 else g) else g
  | none => g
/-- the greatest step on which each pool stays at its tier -/
def least (x : Rat) (L : Lay) : List (List Nat × List (List Part)) → Rat → Rat
  | [], g => g
  | p :: ps, g => least x L ps (cand x L p g)
def step (L : Lay) (x : Rat) : Option Rat := match gap (sums L.ranks) x with
  | none => none
  | some g => some (least x L L.pools g)
structure Ok (L : Lay) : Prop where
  pos : Pos L.ranks
  ppos : ∀ p ∈ L.pools, Pos p.2
theorem total_congr {g h : Nat → Rat} : ∀ (l : List Nat), (∀ i ∈ l, g i = h i) → total g l = total h l
  | [], _ => rfl
  | i :: l, e => by simp only [total, e i (List.mem_cons_self ..), total_congr l (fun j hj => e j (List.mem_cons_of_mem _ hj))]
theorem total_lin (g r : Nat → Rat) (h : Rat) : ∀ (l : List Nat), total (fun i => g i + h * r i) l = total g l + h * total r l
  | [] => by simp only [total]; grind
  | i :: l => by simp only [total, total_lin g r h l]; grind
theorem total_mono {g h : Nat → Rat} : ∀ (l : List Nat), (∀ i ∈ l, g i ≤ h i) → total g l ≤ total h l
  | [], _ => by simp only [total]; grind
  | i :: l, e => by
    have h1 := e i (List.mem_cons_self ..)
    have h2 := total_mono l (fun j hj => e j (List.mem_cons_of_mem _ hj))
    simp only [total]; grind
theorem total_nn {g : Nat → Rat} (l : List Nat) (h : ∀ i ∈ l, 0 ≤ g i) : 0 ≤ total g l := by
  induction l with
  | nil => simp only [total]; grind
  | cons i l ih =>
    have h1 := h i (List.mem_cons_self ..)
    have h2 := ih (fun j hj => h j (List.mem_cons_of_mem _ hj))
    simp only [total]; grind
theorem pays_pos : ∀ {L : List (List Part)} {m : Rat}, Pos L → 0 ≤ m → ∀ p ∈ pays L m, 0 ≤ p.2
  | [], _, _, _, p, hp => by simp [pays] at hp
  | t :: L, m, h, hm, p, hp => by
    have ht := h t (List.mem_cons_self ..)
    have hs := tsum_nn ht
    simp only [pays] at hp
    split at hp
    · rename_i hlt
      obtain ⟨q, hq, rfl⟩ := List.mem_map.1 hp
      have h1 := ht q hq
      show 0 ≤ q.2 * (m / tsum t)
      refine Rat.mul_nonneg h1 ?_
      rw [Rat.div_def]
      exact Rat.mul_nonneg hm (Rat.le_of_lt (Rat.inv_pos.2 (by grind)))
    · rcases List.mem_append.1 hp with hp | hp
      · exact ht p hp
      · exact pays_pos (fun u hu => h u (List.mem_cons_of_mem _ hu)) (by grind) p hp
theorem slopes_pos : ∀ {L : List (List Part)} {m r : Rat}, Pos L → 0 ≤ m → 0 ≤ r → ∀ p ∈ slopes L m r, 0 ≤ p.2
  | [], _, _, _, _, _, p, hp => by simp [slopes] at hp
  | t :: L, m, r, h, hm, hr, p, hp => by
    have ht := h t (List.mem_cons_self ..)
    have hs := tsum_nn ht
    simp only [slopes] at hp
    split at hp
    · rename_i hlt
      obtain ⟨q, hq, rfl⟩ := List.mem_map.1 hp
      have h1 := ht q hq
      show 0 ≤ q.2 * (r / tsum t)
      refine Rat.mul_nonneg h1 ?_
      rw [Rat.div_def]
      exact Rat.mul_nonneg hr (Rat.le_of_lt (Rat.inv_pos.2 (by grind)))
    · exact slopes_pos (fun u hu => h u (List.mem_cons_of_mem _ hu)) (by grind) hr p hp
theorem gross_nn {L : Lay} (hL : Ok L) {x : Rat} (hx : 0 ≤ x) (c : Nat) : 0 ≤ gross L x c := got_nn _ (pays_pos hL.pos hx)
theorem rate_nn {L : Lay} (hL : Ok L) {x : Rat} (hx : 0 ≤ x) (c : Nat) : 0 ≤ rate L x c := got_nn _ (slopes_pos hL.pos hx (by decide))
theorem gross_mono {L : Lay} (hL : Ok L) {x y : Rat} (hx : 0 ≤ x) (h : x ≤ y) (c : Nat) : gross L x c ≤ gross L y c := paid_mono _ hL.pos hx h
theorem total_gross_nn {L : Lay} (hL : Ok L) {x : Rat} (hx : 0 ≤ x) (l : List Nat) : 0 ≤ total (gross L x) l := total_nn l (fun i _ => gross_nn hL hx i)
theorem total_rate_nn {L : Lay} (hL : Ok L) {x : Rat} (hx : 0 ≤ x) (l : List Nat) : 0 ≤ total (rate L x) l := total_nn l (fun i _ => rate_nn hL hx i)
theorem fromPools_nn {L : Lay} (hL : Ok L) {x : Rat} (hx : 0 ≤ x) (c : Int) : ∀ (ps : List (List Nat × List (List Part))), (∀ p ∈ ps, p ∈ L.pools) → 0 ≤ fromPools x L c ps
  | [], _ => by simp only [fromPools]; grind
  | p :: ps, h => by
    have h1 := got_nn c (pays_pos (hL.ppos p (h p (List.mem_cons_self ..))) (total_gross_nn hL hx p.1))
    have h2 := fromPools_nn hL hx c ps (fun q hq => h q (List.mem_cons_of_mem _ hq))
    simp only [fromPools]; grind
theorem slopePools_nn {L : Lay} (hL : Ok L) {x : Rat} (hx : 0 ≤ x) (c : Int) : ∀ (ps : List (List Nat × List (List Part))), (∀ p ∈ ps, p ∈ L.pools) → 0 ≤ slopePools x L c ps
  | [], _ => by simp only [slopePools]; grind
  | p :: ps, h => by
    have h1 := got_nn c (slopes_pos (hL.ppos p (h p (List.mem_cons_self ..))) (total_gross_nn hL hx p.1) (total_rate_nn hL hx p.1))
    have h2 := slopePools_nn hL hx c ps (fun q hq => h q (List.mem_cons_of_mem _ hq))
    simp only [slopePools]; grind
theorem fromPools_mono {L : Lay} (hL : Ok L) {x y : Rat} (hx : 0 ≤ x) (hxy : x ≤ y) (c : Int) : ∀ (ps : List (List Nat × List (List Part))), (∀ p ∈ ps, p ∈ L.pools) → fromPools x L c ps ≤ fromPools y L c ps
  | [], _ => by simp only [fromPools]; grind
  | p :: ps, h => by
    have h1 := paid_mono c (hL.ppos p (h p (List.mem_cons_self ..))) (total_gross_nn hL hx p.1) (total_mono p.1 (fun i _ => gross_mono hL hx hxy i))
    have h2 := fromPools_mono hL hx hxy c ps (fun q hq => h q (List.mem_cons_of_mem _ hq))
    simp only [fromPools]; grind
theorem deliver_nn {L : Lay} (hL : Ok L) {x : Rat} (hx : 0 ≤ x) (c : Nat) : 0 ≤ deliver L x c := by
  have h1 := fromPools_nn hL hx c L.pools (fun _ h => h)
  have h2 := gross_nn hL hx c
  unfold deliver
  split <;> grind
theorem slope_nn {L : Lay} (hL : Ok L) {x : Rat} (hx : 0 ≤ x) (c : Nat) : 0 ≤ slope L x c := by
  have h1 := slopePools_nn hL hx c L.pools (fun _ h => h)
  have h2 := rate_nn hL hx c
  unfold slope
  split <;> grind
theorem deliver_mono {L : Lay} (hL : Ok L) {x y : Rat} (hx : 0 ≤ x) (hxy : x ≤ y) (c : Nat) : deliver L x c ≤ deliver L y c := by
  have h1 := fromPools_mono hL hx hxy c L.pools (fun _ h => h)
  have h2 := gross_mono hL hx hxy c
  unfold deliver
  split <;> grind
theorem reserved_mono {L : Lay} (hL : Ok L) {x y : Rat} (hx : 0 ≤ x) (hxy : x ≤ y) : reserved L x ≤ reserved L y := fromPools_mono hL hx hxy (-1) L.pools (fun _ h => h)
/-- the step is at most the ranks' gap, and at most each pool's -/
theorem least_le (x : Rat) (L : Lay) : ∀ (ps : List (List Nat × List (List Part))) (g : Rat), least x L ps g ≤ g ∧ ∀ p ∈ ps, ∀ h, gap (sums p.2) (total (gross L x) p.1) = some h → 0 < total (rate L x) p.1 → least x L ps g ≤ h / total (rate L x) p.1
  | [], g => ⟨by simp only [least]; grind, fun p hp => by cases hp⟩
  | p :: ps, g => by
    simp only [least]
    obtain ⟨h1, h2⟩ := least_le x L ps (cand x L p g)
    refine ⟨?_, fun q hq h hgq hr => ?_⟩
    · refine Rat.le_trans h1 ?_
      unfold cand
      split
      · split
        · split <;> grind
        · grind
      · grind
    · rcases List.mem_cons.1 hq with rfl | hq
      · refine Rat.le_trans h1 ?_
        unfold cand
        rw [hgq]
        simp only [hr, if_true]
        split <;> grind
      · exact h2 q hq h hgq hr
theorem least_pos (x : Rat) (L : Lay) : ∀ (ps : List (List Nat × List (List Part))) (g : Rat), 0 < g → 0 < least x L ps g
  | [], g, h => h
  | p :: ps, g, h => by
    simp only [least]
    refine least_pos x L ps _ ?_
    unfold cand
    split
    · rename_i k hk
      have := gap_pos _ _ _ hk
      split
      · rename_i hr
        split
        · rw [Rat.div_def]
          exact Rat.mul_pos this (Rat.inv_pos.2 hr)
        · exact h
      · exact h
    · exact h
theorem step_pos {L : Lay} {x g : Rat} (h : step L x = some g) : 0 < g := by
  unfold step at h
  split at h
  · cases h
  · rename_i k hk
    injection h with h
    rw [← h]
    exact least_pos x L _ _ (gap_pos _ _ _ hk)
theorem gross_lin {L : Lay} (hL : Ok L) {x h : Rat} (hx : 0 ≤ x) (hh : 0 ≤ h) (hs : ∀ g, step L x = some g → h ≤ g) (c : Nat) : gross L (x + h) c = gross L x c + h * rate L x c := by
  refine paid_lin _ hL.pos hx hh (fun g hg => ?_)
  have := hs (least x L L.pools g) (by unfold step; rw [hg])
  exact Rat.le_trans this (least_le x L L.pools g).1
theorem none_rates : ∀ (S : List Rat) (m : Rat), gap S m = none → rates S m = S.map (fun _ => 0)
  | [], _, _ => rfl
  | s :: S, m, h => by
    simp only [gap, rates, List.map_cons] at h ⊢
    split
    · rename_i hlt; rw [if_pos hlt] at h; cases h
    · rename_i hlt; rw [if_neg hlt] at h; rw [none_rates S _ h]
theorem none_rate {L : Lay} (hL : Ok L) {x : Rat} (h : gap (sums L.ranks) x = none) (c : Nat) : rate L x c = 0 := by
  unfold rate
  rw [slopes_got _ 1 _ _ hL.pos, none_rates _ _ h, dot_zero]
  grind
theorem total_zero (l : List Nat) : total (fun _ => 0) l = 0 := by
  induction l with
  | nil => rfl
  | cons i l ih => simp only [total, ih]; grind
theorem pool_lin {L : Lay} (hL : Ok L) {x h : Rat} (hx : 0 ≤ x) (hh : 0 ≤ h) (hs : ∀ g, step L x = some g → h ≤ g) (c : Int) : ∀ (ps : List (List Nat × List (List Part))), (∀ p ∈ ps, p ∈ L.pools) → fromPools (x + h) L c ps = fromPools x L c ps + h * slopePools x L c ps
  | [], _ => by simp only [fromPools, slopePools]; grind
  | p :: ps, hp => by
    have hm := hp p (List.mem_cons_self ..)
    have hP := hL.ppos p hm
    have ih := pool_lin hL hx hh hs c ps (fun q hq => hp q (List.mem_cons_of_mem _ hq))
    have e : total (gross L (x + h)) p.1 = total (gross L x) p.1 + h * total (rate L x) p.1 := by
      rw [← total_lin]
      exact total_congr p.1 (fun i _ => gross_lin hL hx hh hs i)
    have hr := total_rate_nn hL hx p.1
    have hg := total_gross_nn hL hx p.1
    simp only [fromPools, slopePools, ih, e]
    rw [slope_scale c hP _ (total (rate L x) p.1)]
    have key : got c (pays p.2 (total (gross L x) p.1 + h * total (rate L x) p.1)) = got c (pays p.2 (total (gross L x) p.1)) + (h * total (rate L x) p.1) * got c (slopes p.2 (total (gross L x) p.1) 1) := by
      refine paid_lin c hP hg (Rat.mul_nonneg hh hr) (fun k hk => ?_)
      by_cases h0 : total (rate L x) p.1 = 0
      · rw [h0, Rat.mul_zero]
        exact Rat.le_of_lt (gap_pos _ _ _ hk)
      · have hpos : 0 < total (rate L x) p.1 := by grind
        cases hgr : gap (sums L.ranks) x with
        | none =>
          exfalso
          apply h0
          rw [total_congr p.1 (fun i _ => none_rate hL hgr i)]
          exact total_zero _
        | some g =>
          have h1 := hs (least x L L.pools g) (by unfold step; rw [hgr])
          have h2 := (least_le x L L.pools g).2 p hm k hk hpos
          have h3 : h ≤ k / total (rate L x) p.1 := Rat.le_trans h1 h2
          have h4 := Rat.mul_le_mul_of_nonneg_right h3 hr
          rwa [Rat.div_mul_cancel h0] at h4
    rw [key]
    grind
/-- up to the step all is paid at the slopes -/
theorem deliver_lin {L : Lay} (hL : Ok L) {x h : Rat} (hx : 0 ≤ x) (hh : 0 ≤ h) (hs : ∀ g, step L x = some g → h ≤ g) (c : Nat) : deliver L (x + h) c = deliver L x c + h * slope L x c := by
  have h1 := pool_lin hL hx hh hs c L.pools (fun _ h => h)
  have h2 := gross_lin hL hx hh hs c
  unfold deliver slope
  rw [h1, h2]
  split <;> grind
theorem reserved_lin {L : Lay} (hL : Ok L) {x h : Rat} (hx : 0 ≤ x) (hh : 0 ≤ h) (hs : ∀ g, step L x = some g → h ≤ g) : reserved L (x + h) = reserved L x + h * reserveSlope L x := pool_lin hL hx hh hs (-1) L.pools (fun _ h => h)
end Go.Proofs.YtpbgmpjnfndfjaaGreatDoor.TpD
namespace Go.Proofs.YtpbgmpjnfndfjaaGreatDoor.TpE
open TpA TpB TpC TpD
/-- how many ranks and tiers are paid in full -/
def posPools (x : Rat) (L : Lay) : List (List Nat × List (List Part)) → Nat
  | [] => 0
  | p :: ps => (split (sums p.2) (total (gross L x) p.1)).1 + posPools x L ps
def pos (L : Lay) (x : Rat) : Nat := (split (sums L.ranks) x).1 + posPools x L L.pools
def boundPools : List (List Nat × List (List Part)) → Nat
  | [] => 0
  | p :: ps => p.2.length + boundPools ps
def bound (L : Lay) : Nat := L.ranks.length + boundPools L.pools
theorem posPools_le (x : Rat) (L : Lay) : ∀ ps, posPools x L ps ≤ boundPools ps
  | [] => Nat.le_refl _
  | p :: ps => by
    have h1 := split_le (sums p.2) (total (gross L x) p.1)
    have h2 := posPools_le x L ps
    simp only [sums, List.length_map] at h1
    simp only [posPools, boundPools, sums]
    omega
theorem pos_le (L : Lay) (x : Rat) : pos L x ≤ bound L := by
  have h1 := split_le (sums L.ranks) x
  have h2 := posPools_le x L L.pools
  simp only [sums, List.length_map] at h1
  simp only [pos, bound, sums]
  omega
theorem posPools_mono {L : Lay} (hL : Ok L) {x y : Rat} (hx : 0 ≤ x) (hxy : x ≤ y) : ∀ ps, posPools x L ps ≤ posPools y L ps
  | [] => Nat.le_refl _
  | p :: ps => by
    have h1 := split_mono (sums p.2) _ _ (total_mono p.1 (fun i _ => gross_mono hL hx hxy i))
    have h2 := posPools_mono hL hx hxy ps
    simp only [posPools]
    omega
theorem pos_mono {L : Lay} (hL : Ok L) {x y : Rat} (hx : 0 ≤ x) (hxy : x ≤ y) : pos L x ≤ pos L y := by
  have h1 := split_mono (sums L.ranks) _ _ hxy
  have h2 := posPools_mono hL hx hxy L.pools
  unfold pos
  omega
/-- the step is reached somewhere -/
theorem least_at (x : Rat) (L : Lay) : ∀ (ps : List (List Nat × List (List Part))) (g : Rat), least x L ps g = g ∨ ∃ p ∈ ps, ∃ h, gap (sums p.2) (total (gross L x) p.1) = some h ∧ 0 < total (rate L x) p.1 ∧ least x L ps g = h / total (rate L x) p.1
  | [], g => .inl rfl
  | p :: ps, g => by
    simp only [least]
    rcases least_at x L ps (cand x L p g) with e | ⟨q, hq, h, h1, h2, h3⟩
    · rw [e]
      unfold cand
      split
      · rename_i h hh
        split
        · rename_i hr
          split
          · exact .inr ⟨p, List.mem_cons_self .., h, hh, hr, rfl⟩
          · exact .inl rfl
        · exact .inl rfl
      · exact .inl rfl
    · exact .inr ⟨q, List.mem_cons_of_mem _ hq, h, h1, h2, h3⟩
theorem posPools_lt {L : Lay} (hL : Ok L) {x y : Rat} (hx : 0 ≤ x) (hxy : x ≤ y) {p : List Nat × List (List Part)} (hlt : (split (sums p.2) (total (gross L x) p.1)).1 < (split (sums p.2) (total (gross L y) p.1)).1) : ∀ ps, p ∈ ps → posPools x L ps < posPools y L ps
  | [], h => by cases h
  | q :: ps, h => by
    have h1 := split_mono (sums q.2) _ _ (total_mono q.1 (fun i _ => gross_mono hL hx hxy i))
    have h2 := posPools_mono hL hx hxy ps
    simp only [posPools]
    rcases List.mem_cons.1 h with rfl | h
    · omega
    · have := posPools_lt hL hx hxy hlt ps h
      omega
theorem step_next {L : Lay} (hL : Ok L) {x g : Rat} (hx : 0 ≤ x) (h : step L x = some g) : pos L x < pos L (x + g) := by
  have hg := step_pos h
  have hs : ∀ g', step L x = some g' → g ≤ g' := fun g' h' => by rw [h] at h'; injection h' with e; rw [e]; exact Rat.le_refl
  have hxy : x ≤ x + g := by grind
  have hr := split_mono (sums L.ranks) _ _ hxy
  have hp := posPools_mono hL hx hxy L.pools
  have h' := h
  unfold step at h
  split at h
  · cases h
  · rename_i k hk
    injection h with h
    rcases least_at x L L.pools k with e | ⟨p, hpm, q, h1, h2, h3⟩
    · have : (split (sums L.ranks) x).1 < (split (sums L.ranks) (x + g)).1 := gap_next _ _ _ _ (sums_nn hL.pos) hk (by rw [← h, e]; exact Rat.le_refl)
      unfold pos
      omega
    · have et : total (gross L (x + g)) p.1 = total (gross L x) p.1 + g * total (rate L x) p.1 := by
        rw [← total_lin]
        exact total_congr p.1 (fun i _ => gross_lin hL hx (Rat.le_of_lt hg) hs i)
      have e2 : g * total (rate L x) p.1 = q := by
        rw [← h, h3]
        exact Rat.div_mul_cancel (by grind)
      have : (split (sums p.2) (total (gross L x) p.1)).1 < (split (sums p.2) (total (gross L (x + g)) p.1)).1 := by
        rw [et, e2]
        exact gap_next _ _ _ _ (sums_nn (hL.ppos p hpm)) h1 Rat.le_refl
      have := posPools_lt hL hx hxy this L.pools hpm
      unfold pos
      omega
/-- whether the slopes are the same -/
def same (L : Lay) (x y : Rat) : Bool := decide (reserveSlope L x = reserveSlope L y) && (List.range L.cnt).all (fun c => decide (slope L x c = slope L y c))
theorem same_iff {L : Lay} {x y : Rat} : same L x y = true ↔ reserveSlope L x = reserveSlope L y ∧ ∀ c, c < L.cnt → slope L x c = slope L y c := by
  unfold same
  rw [Bool.and_eq_true, decide_eq_true_eq, List.all_eq_true]
  exact and_congr Iff.rfl ⟨fun h c hc => of_decide_eq_true (h c (List.mem_range.2 hc)), fun h c hc => decide_eq_true (h c (List.mem_range.1 hc))⟩
/-- the next money at which the slopes are others -/
def nextF (L : Lay) (x : Rat) : Nat → Rat → Option Rat
  | 0, _ => none
  | n + 1, m => match step L m with
    | none => none
    | some g => if same L x (m + g) then nextF L x n (m + g) else some (m + g)
def next (L : Lay) (x : Rat) : Option Rat := nextF L x (bound L + 1) x
theorem nextF_some {L : Lay} (hL : Ok L) {x : Rat} : ∀ (n : Nat) (m y : Rat), 0 ≤ m → same L x m = true → nextF L x n m = some y →
    m < y ∧ pos L m < pos L y ∧ ∀ h, 0 ≤ h → m + h ≤ y → reserved L (m + h) = reserved L m + h * reserveSlope L x ∧ ∀ c, c < L.cnt → deliver L (m + h) c = deliver L m c + h * slope L x c
  | 0, _, _, _, _, h => by cases h
  | n + 1, m, y, hm, hs, h => by
    simp only [nextF] at h
    split at h
    · cases h
    · rename_i g hg
      have hp := step_pos hg
      have hn := step_next hL hm hg
      obtain ⟨s1, s2⟩ := same_iff.1 hs
      have lin : ∀ h, 0 ≤ h → h ≤ g → reserved L (m + h) = reserved L m + h * reserveSlope L x ∧ ∀ c, c < L.cnt → deliver L (m + h) c = deliver L m c + h * slope L x c := fun h h0 h1 => by
        have hst : ∀ g', step L m = some g' → h ≤ g' := fun g' e => by rw [hg] at e; injection e with e; rw [← e]; exact h1
        refine ⟨by rw [s1]; exact reserved_lin hL hm h0 hst, fun c hc => ?_⟩
        rw [s2 c hc]
        exact deliver_lin hL hm h0 hst c
      split at h
      · rename_i hsm
        obtain ⟨h1, h2, h3⟩ := nextF_some hL n (m + g) y (by grind) hsm h
        refine ⟨by grind, by omega, fun k hk hky => ?_⟩
        by_cases hkg : k ≤ g
        · exact lin k hk hkg
        · obtain ⟨l1, l2⟩ := lin g (Rat.le_of_lt hp) Rat.le_refl
          obtain ⟨r1, r2⟩ := h3 (k - g) (by grind) (by grind)
          rw [show m + g + (k - g) = m + k by grind] at r1 r2
          refine ⟨by rw [r1, l1]; grind, fun c hc => ?_⟩
          rw [r2 c hc, l2 c hc]
          grind
      · injection h with h
        subst h
        exact ⟨by grind, hn, fun k hk hky => lin k hk (by grind)⟩
theorem nextF_none {L : Lay} (hL : Ok L) {x : Rat} : ∀ (n : Nat) (m : Rat), 0 ≤ m → bound L < pos L m + n → same L x m = true → nextF L x n m = none →
    ∀ h, 0 ≤ h → reserved L (m + h) = reserved L m + h * reserveSlope L x ∧ ∀ c, c < L.cnt → deliver L (m + h) c = deliver L m c + h * slope L x c
  | 0, m, _, hb, _, _ => by have := pos_le L m; omega
  | n + 1, m, hm, hb, hs, h => by
    simp only [nextF] at h
    obtain ⟨s1, s2⟩ := same_iff.1 hs
    split at h
    · rename_i hg
      intro k hk
      have hst : ∀ g', step L m = some g' → k ≤ g' := fun g' e => by rw [hg] at e; cases e
      refine ⟨by rw [s1]; exact reserved_lin hL hm hk hst, fun c hc => ?_⟩
      rw [s2 c hc]
      exact deliver_lin hL hm hk hst c
    · rename_i g hg
      have hp := step_pos hg
      have hn := step_next hL hm hg
      have lin : ∀ h, 0 ≤ h → h ≤ g → reserved L (m + h) = reserved L m + h * reserveSlope L x ∧ ∀ c, c < L.cnt → deliver L (m + h) c = deliver L m c + h * slope L x c := fun h h0 h1 => by
        have hst : ∀ g', step L m = some g' → h ≤ g' := fun g' e => by rw [hg] at e; injection e with e; rw [← e]; exact h1
        refine ⟨by rw [s1]; exact reserved_lin hL hm h0 hst, fun c hc => ?_⟩
        rw [s2 c hc]
        exact deliver_lin hL hm h0 hst c
      split at h
      · rename_i hsm
        have h3 := nextF_none hL n (m + g) (by grind) (by omega) hsm h
        intro k hk
        by_cases hkg : k ≤ g
        · exact lin k hk hkg
        · obtain ⟨l1, l2⟩ := lin g (Rat.le_of_lt hp) Rat.le_refl
          obtain ⟨r1, r2⟩ := h3 (k - g) (by grind)
          rw [show m + g + (k - g) = m + k by grind] at r1 r2
          refine ⟨by rw [r1, l1]; grind, fun c hc => ?_⟩
          rw [r2 c hc, l2 c hc]
          grind
      · cases h
theorem same_refl (L : Lay) (x : Rat) : same L x x = true := same_iff.2 ⟨rfl, fun _ _ => rfl⟩
/-- up to the next money what is delivered is linear -/
theorem next_lin {L : Lay} (hL : Ok L) {x h : Rat} (hx : 0 ≤ x) (hh : 0 ≤ h) (hn : ∀ y, next L x = some y → x + h ≤ y) :
    reserved L (x + h) = reserved L x + h * reserveSlope L x ∧ ∀ c, c < L.cnt → deliver L (x + h) c = deliver L x c + h * slope L x c := by
  cases e : next L x with
  | none => exact nextF_none hL _ x hx (by omega) (same_refl L x) e h hh
  | some y => exact (nextF_some hL _ x y hx (same_refl L x) e).2.2 h hh (hn y e)
theorem next_gt {L : Lay} (hL : Ok L) {x y : Rat} (hx : 0 ≤ x) (h : next L x = some y) : x < y ∧ pos L x < pos L y :=
  ⟨(nextF_some hL _ x y hx (same_refl L x) h).1, (nextF_some hL _ x y hx (same_refl L x) h).2.1⟩
end Go.Proofs.YtpbgmpjnfndfjaaGreatDoor.TpE
namespace Go.Proofs.YtpbgmpjnfndfjaaGreatDoor.TpF
open TpA TpB TpC TpD TpE
/-- an estate that is laid out well: each pool's ladder pays its members and the reserve alone, has room for all that its members have, and no claim is in two pools -/
structure Ok2 (L : Lay) : Prop extends Ok L where
  rin : ∀ t ∈ L.ranks, ∀ p ∈ t, 0 ≤ p.1 ∧ p.1 < L.cnt
  pin : ∀ P ∈ L.pools, ∀ t ∈ P.2, ∀ p ∈ t, p.1 = -1 ∨ (0 ≤ p.1 ∧ p.1 < L.cnt)
  nodup : ∀ P ∈ L.pools, P.1.Nodup
  mem : ∀ P ∈ L.pools, ∀ i ∈ P.1, i < L.cnt
  disj : L.pools.Pairwise (fun P Q => ∀ i ∈ P.1, i ∉ Q.1)
  cover : ∀ P ∈ L.pools, total (fun i => got i L.ranks.flatten) P.1 ≤ sumR (sums P.2)
theorem sm_one (n : Nat) (i : Nat) (v : Rat) (hi : i < n) : sm n (fun c => if i = c then v else 0) = v := by
  induction n with
  | zero => omega
  | succ n ih =>
    simp only [sm]
    by_cases h : i = n
    · subst h
      rw [sm_congr (g := fun _ => 0) i (fun c hc => by rw [if_neg (by omega)]), sm_zero]
      simp only [if_true]
      grind
    · rw [ih (by omega), if_neg h]
      grind
theorem got_all (n : Nat) : ∀ (l : List Part), (∀ p ∈ l, p.1 = -1 ∨ (0 ≤ p.1 ∧ p.1 < n)) → sm n (fun c => got c l) + got (-1) l = tsum l
  | [], _ => by
    rw [sm_congr (g := fun _ => 0) n (fun c _ => got_nil _), sm_zero, got_nil]
    simp only [tsum, List.map_nil, sumR]
    grind
  | p :: l, h => by
    have ih := got_all n l (fun q hq => h q (List.mem_cons_of_mem _ hq))
    have hp := h p (List.mem_cons_self ..)
    rw [tsum_cons, got_cons, ← ih]
    have e : sm n (fun c => got (c : Int) (p :: l)) = sm n (fun c => if p.1 = (c : Int) then p.2 else 0) + sm n (fun c => got (c : Int) l) := by
      rw [← sm_add]
      exact sm_congr n (fun c _ => got_cons _ _ _)
    rw [e]
    rcases hp with hp | ⟨h1, h2⟩
    · rw [sm_congr (g := fun _ => 0) n (fun c _ => by rw [if_neg (by omega)]), sm_zero, if_pos hp]
      grind
    · obtain ⟨i, hi⟩ := Int.eq_ofNat_of_zero_le h1
      rw [sm_congr (g := fun c => if i = c then p.2 else 0) n (fun c _ => by
        by_cases hc : i = c
        · rw [if_pos (by omega), if_pos hc]
        · rw [if_neg (by omega), if_neg hc]), sm_one n i p.2 (by omega), if_neg (by omega)]
      grind
theorem got_none (c : Int) : ∀ (l : List Part), (∀ p ∈ l, p.1 ≠ c) → got c l = 0
  | [], _ => rfl
  | p :: l, h => by
    rw [got_cons, if_neg (h p (List.mem_cons_self ..)), got_none c l (fun q hq => h q (List.mem_cons_of_mem _ hq))]
    grind
theorem pays_claims {Q : Int → Prop} : ∀ (L : List (List Part)) (m : Rat), (∀ t ∈ L, ∀ p ∈ t, Q p.1) → ∀ p ∈ pays L m, Q p.1
  | [], _, _, p, hp => by simp [pays] at hp
  | t :: L, m, h, p, hp => by
    simp only [pays] at hp
    split at hp
    · obtain ⟨q, hq, rfl⟩ := List.mem_map.1 hp
      exact h t (List.mem_cons_self ..) q hq
    · rcases List.mem_append.1 hp with hp | hp
      · exact h t (List.mem_cons_self ..) p hp
      · exact pays_claims L _ (fun u hu => h u (List.mem_cons_of_mem _ hu)) p hp
theorem got_pays_le (c : Int) : ∀ (L : List (List Part)) (m : Rat), Pos L → 0 ≤ m → got c (pays L m) ≤ got c L.flatten
  | [], m, _, _ => by simp only [pays, List.flatten_nil]; exact Rat.le_refl
  | t :: L, m, h, hm => by
    have ht := h t (List.mem_cons_self ..)
    have hL : Pos L := fun u hu => h u (List.mem_cons_of_mem _ hu)
    have hs := tsum_nn ht
    have hg := got_nn c ht
    have hfl : 0 ≤ got c L.flatten := got_nn c (fun p hp => by
      obtain ⟨u, hu, hpu⟩ := List.mem_flatten.1 hp
      exact hL u hu p hpu)
    simp only [pays, List.flatten_cons]
    rw [got_app]
    split
    · rename_i hlt
      rw [got_scale]
      have hq : m / tsum t ≤ 1 := by
        have h0 : 0 < tsum t := by grind
        have h1 : m / tsum t * tsum t ≤ 1 * tsum t := by rw [Rat.div_mul_cancel (by grind), Rat.one_mul]; exact Rat.le_of_lt hlt
        exact Rat.le_of_mul_le_mul_right h1 h0
      have := Rat.mul_le_mul_of_nonneg_left hq hg
      grind
    · rw [got_app]
      have := got_pays_le c L (m - tsum t) hL (by grind)
      grind
theorem total_sm (n : Nat) (g : Nat → Rat) : ∀ (l : List Nat), l.Nodup → (∀ i ∈ l, i < n) → total g l = sm n (fun c => if l.contains c then g c else 0)
  | [], _, _ => by
    rw [sm_congr (g := fun _ => 0) n (fun c _ => by simp), sm_zero]
    rfl
  | i :: l, hn, hl => by
    have ih := total_sm n g l (List.nodup_cons.1 hn).2 (fun j hj => hl j (List.mem_cons_of_mem _ hj))
    have hi := hl i (List.mem_cons_self ..)
    have hni := (List.nodup_cons.1 hn).1
    simp only [total]
    rw [ih, ← sm_one n i (g i) hi, ← sm_add]
    exact sm_congr n (fun c _ => by
      by_cases hc : i = c
      · subst hc
        have : l.contains i = false := by simpa using hni
        rw [if_pos rfl, this]
        simp
        grind
      · have : (i :: l).contains c = l.contains c := by
          rw [List.contains_cons]
          have : (c == i) = false := by simpa using fun e => hc e.symm
          rw [this, Bool.false_or]
        rw [if_neg hc, this]
        grind)
/-- what the pools pay in all is what their members bring -/
theorem pools_all {L : Lay} (hL : Ok2 L) {x : Rat} (hx : 0 ≤ x) : ∀ (ps : List (List Nat × List (List Part))), (∀ p ∈ ps, p ∈ L.pools) → ps.Pairwise (fun P Q => ∀ i ∈ P.1, i ∉ Q.1) →
    sm L.cnt (fun c => fromPools x L c ps) + fromPools x L (-1) ps = sm L.cnt (fun c => if ps.any (fun p => p.1.contains c) then gross L x c else 0)
  | [], _, _ => by
    have a1 : sm L.cnt (fun c => fromPools x L c []) = 0 := sm_zero _
    have a2 : sm L.cnt (fun c => if ([] : List (List Nat × List (List Part))).any (fun p => p.1.contains c) then gross L x c else 0) = 0 := by
      rw [sm_congr (g := fun _ => 0) L.cnt (fun c _ => by simp), sm_zero]
    rw [a1, a2]
    simp only [fromPools]
    grind
  | p :: ps, hm, hd => by
    have hp := hm p (List.mem_cons_self ..)
    have ih := pools_all hL hx ps (fun q hq => hm q (List.mem_cons_of_mem _ hq)) (List.pairwise_cons.1 hd).2
    have hdp := (List.pairwise_cons.1 hd).1
    have hg := total_gross_nn hL.toOk hx p.1
    have h1 := got_all L.cnt (pays p.2 (total (gross L x) p.1)) (pays_claims (Q := fun c => c = -1 ∨ (0 ≤ c ∧ c < L.cnt)) p.2 _ (fun t ht q hq => hL.pin p hp t ht q hq))
    have h2 := pays_all p.2 (total (gross L x) p.1) (hL.ppos p hp) hg
    have h3 : total (gross L x) p.1 ≤ sumR (sums p.2) := Rat.le_trans (total_mono p.1 (fun i _ => got_pays_le i L.ranks x hL.pos hx)) (hL.cover p hp)
    have h4 : tsum (pays p.2 (total (gross L x) p.1)) = total (gross L x) p.1 := by rw [h2]; split <;> grind
    have h5 := total_sm L.cnt (gross L x) p.1 (hL.nodup p hp) (hL.mem p hp)
    have e1 : sm L.cnt (fun c => fromPools x L c (p :: ps)) = sm L.cnt (fun c => got c (pays p.2 (total (gross L x) p.1))) + sm L.cnt (fun c => fromPools x L c ps) := by
      rw [← sm_add]
      rfl
    have e2 : sm L.cnt (fun c => if (p :: ps).any (fun p => p.1.contains c) then gross L x c else 0) = sm L.cnt (fun c => if p.1.contains c then gross L x c else 0) + sm L.cnt (fun c => if ps.any (fun p => p.1.contains c) then gross L x c else 0) := by
      rw [← sm_add]
      exact sm_congr L.cnt (fun c _ => by
        rw [List.any_cons]
        by_cases hc : p.1.contains c = true
        · have : ps.any (fun p => p.1.contains c) = false := by
            rw [List.any_eq_false]
            intro q hq h
            exact hdp q hq c (by simpa using hc) (by simpa using h)
          rw [hc, this]
          simp
          grind
        · have hc' : p.1.contains c = false := by simpa using hc
          rw [hc', Bool.false_or]
          simp
          grind)
    rw [e1, e2]
    simp only [fromPools]
    grind
/-- an estate gives out its money as far as its claims reach -/
theorem deliver_all {L : Lay} (hL : Ok2 L) {x : Rat} (hx : 0 ≤ x) : sm L.cnt (deliver L x) + reserved L x = if x < sumR (sums L.ranks) then x else sumR (sums L.ranks) := by
  have h1 := pools_all hL hx L.pools (fun _ h => h) hL.disj
  have h2 := got_all L.cnt (pays L.ranks x) (pays_claims (Q := fun c => c = -1 ∨ (0 ≤ c ∧ c < L.cnt)) L.ranks x (fun t ht p hp => .inr (hL.rin t ht p hp)))
  have h3 := got_none (-1) (pays L.ranks x) (pays_claims (Q := fun c => c ≠ -1) L.ranks x (fun t ht p hp => by have := hL.rin t ht p hp; omega))
  rw [h3, pays_all L.ranks x hL.pos hx] at h2
  have e : sm L.cnt (deliver L x) = sm L.cnt (fun c => if inPool L c then 0 else gross L x c) + sm L.cnt (fun c => fromPools x L c L.pools) := by
    rw [← sm_add]
    rfl
  have e2 : sm L.cnt (fun c => got c (pays L.ranks x)) = sm L.cnt (fun c => if inPool L c then 0 else gross L x c) + sm L.cnt (fun c => if L.pools.any (fun p => p.1.contains c) then gross L x c else 0) := by
    rw [← sm_add]
    exact sm_congr L.cnt (fun c _ => by
      unfold inPool gross
      split <;> grind)
  unfold reserved
  rw [e]
  rw [e2] at h2
  grind
theorem deliver_lip {L : Lay} (hL : Ok2 L) {x y : Rat} (hx : 0 ≤ x) (hxy : x ≤ y) : sm L.cnt (fun c => deliver L y c - deliver L x c) ≤ y - x := by
  have h1 := deliver_all hL hx
  have h2 := deliver_all hL (show 0 ≤ y by grind)
  have h3 := reserved_mono hL.toOk hx hxy
  have e : sm L.cnt (fun c => deliver L y c - deliver L x c) = sm L.cnt (deliver L y) - sm L.cnt (deliver L x) := sm_sub _ _ _
  rw [e]
  split at h1 <;> split at h2 <;> grind
/-- the slopes sum to at most 1 -/
theorem slope_le {L : Lay} (hL : Ok2 L) {x : Rat} (hx : 0 ≤ x) : sm L.cnt (slope L x) ≤ 1 := by
  obtain ⟨h, h0, hs⟩ : ∃ h : Rat, 0 < h ∧ ∀ g, step L x = some g → h ≤ g := by
    cases e : step L x with
    | none => exact ⟨1, by decide, fun g hg => by cases hg⟩
    | some g => exact ⟨g, step_pos e, fun g' hg => by injection hg with hg; rw [hg]; exact Rat.le_refl⟩
  have h1 := deliver_lip hL hx (y := x + h) (by grind)
  have e : sm L.cnt (fun c => deliver L (x + h) c - deliver L x c) = h * sm L.cnt (slope L x) := by
    rw [← sm_mul]
    exact sm_congr L.cnt (fun c _ => by rw [deliver_lin hL.toOk hx (Rat.le_of_lt h0) hs c]; grind)
  rw [e] at h1
  have h2 : h * sm L.cnt (slope L x) ≤ h * 1 := by grind
  exact Rat.le_of_mul_le_mul_left h2 h0
end Go.Proofs.YtpbgmpjnfndfjaaGreatDoor.TpF
