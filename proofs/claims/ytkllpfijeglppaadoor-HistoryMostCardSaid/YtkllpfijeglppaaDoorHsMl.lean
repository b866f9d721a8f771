/- Plain: the greatest number of pairs of corresponding rows; the pairs of Match are that many. -/
import Derived.Test.YtkllpfijeglppaaDoorHsMi
namespace Go.Proofs.YtkllpfijeglppaaDoor.HsMl
open Go.RowKit Hs HsMa HsMe
/-- the row at an index corresponds -/
def nearAt (s : Int) (x : HRow) (b : List HRow) (k : Nat) : Bool := match b[k]? with
  | some y => near s x y
  | none => false
def upd (U : Nat → Bool) (k : Nat) : Nat → Bool := fun j => decide (j = k) || U j
theorem upd_comm (U : Nat → Bool) (k j : Nat) : upd (upd U k) j = upd (upd U j) k := by
  funext i
  unfold upd
  cases decide (i = k) <;> cases decide (i = j) <;> rfl
theorem upd_false {U : Nat → Bool} {k j : Nat} : upd U k j = false ↔ j ≠ k ∧ U j = false := by simp [upd]
/-- the loop over the rows of b from the n-th from the end on -/
def mostLoop (f : (Nat → Bool) → Nat) (s : Int) (x : HRow) (b : List HRow) (U : Nat → Bool) : Nat → Nat → Nat
  | 0, m => m
  | n + 1, m => mostLoop f s x b U n (if U (b.length - (n + 1)) = false ∧ nearAt s x b (b.length - (n + 1)) = true then max m (1 + f (upd U (b.length - (n + 1)))) else m)
def mostOf (s : Int) (b : List HRow) : List HRow → (Nat → Bool) → Nat
  | [], _ => 0
  | x :: a, U => mostLoop (mostOf s b a) s x b U b.length (mostOf s b a U)
theorem most_cons (s : Int) (b : List HRow) (x : HRow) (a : List HRow) (U : Nat → Bool) : mostOf s b (x :: a) U = mostLoop (mostOf s b a) s x b U b.length (mostOf s b a U) := rfl
theorem ml_ge (f : (Nat → Bool) → Nat) (s : Int) (x : HRow) (b : List HRow) (U : Nat → Bool) : ∀ n m, m ≤ mostLoop f s x b U n m
  | 0, m => Nat.le_refl m
  | n + 1, m => by
    unfold mostLoop
    refine Nat.le_trans ?_ (ml_ge f s x b U n _)
    split <;> omega
theorem ml_ge_k (f : (Nat → Bool) → Nat) (s : Int) (x : HRow) (b : List HRow) (U : Nat → Bool) {k : Nat} (hk : k < b.length) (hu : U k = false) (hn : nearAt s x b k = true) : ∀ n m, b.length ≤ n + k → n ≤ b.length → 1 + f (upd U k) ≤ mostLoop f s x b U n m
  | 0, m, h, _ => by omega
  | n + 1, m, h, h' => by
    unfold mostLoop
    by_cases e : b.length - (n + 1) = k
    · rw [e, if_pos ⟨hu, hn⟩]
      exact Nat.le_trans (Nat.le_max_right _ _) (ml_ge f s x b U n _)
    · exact ml_ge_k f s x b U hk hu hn n _ (by omega) (by omega)
theorem ml_le (f : (Nat → Bool) → Nat) (s : Int) (x : HRow) (b : List HRow) (U : Nat → Bool) {c : Nat} : ∀ n m, n ≤ b.length → m ≤ c → (∀ k, b.length ≤ n + k → k < b.length → U k = false → nearAt s x b k = true → 1 + f (upd U k) ≤ c) → mostLoop f s x b U n m ≤ c
  | 0, m, _, h, _ => h
  | n + 1, m, hn, h, hc => by
    unfold mostLoop
    refine ml_le f s x b U n _ (by omega) ?_ (fun k h1 h2 => hc k (by omega) h2)
    split
    · rename_i hh
      exact Nat.max_le.2 ⟨h, hc _ (by omega) (by omega) hh.1 hh.2⟩
    · exact h
theorem most_drop (s : Int) (b : List HRow) (k0 : Nat) : ∀ (a : List HRow) (U : Nat → Bool), mostOf s b a U ≤ 1 + mostOf s b a (upd U k0)
  | [], U => by simp [mostOf]
  | x :: a, U => by
    have ih := most_drop s b k0 a
    rw [most_cons, most_cons]
    refine ml_le _ s x b U _ _ (Nat.le_refl _) ?_ ?_
    · exact Nat.le_trans (ih U) (Nat.add_le_add_left (ml_ge _ _ _ _ _ _ _) 1)
    · intro k _ hk hu hn
      by_cases e : k = k0
      · subst e
        exact Nat.add_le_add_left (ml_ge _ _ _ _ _ _ _) 1
      · have h1 := ml_ge_k (mostOf s b a) s x b (upd U k0) hk (upd_false.2 ⟨e, hu⟩) hn b.length (mostOf s b a (upd U k0)) (by omega) (Nat.le_refl _)
        have h2 := ih (upd U k)
        rw [upd_comm] at h2
        omega
theorem most_swap (s : Int) (b : List HRow) {k0 k : Nat} (hkl : k < b.length) (hne : k ≠ k0) : ∀ (a : List HRow) (U : Nat → Bool), (∀ y ∈ a, nearAt s y b k0 = true → nearAt s y b k = true) → U k = false → U k0 = false → mostOf s b a (upd U k) ≤ mostOf s b a (upd U k0)
  | [], _, _, _, _ => by simp [mostOf]
  | x :: a, U, hP, hk, hk0 => by
    have ih := most_swap s b hkl hne a
    have hPa := fun y hy => hP y (List.mem_cons_of_mem _ hy)
    rw [most_cons, most_cons]
    refine ml_le _ s x b _ _ _ (Nat.le_refl _) ?_ ?_
    · exact Nat.le_trans (ih U hPa hk hk0) (ml_ge _ _ _ _ _ _ _)
    · intro k' _ hk' hu' hn'
      obtain ⟨hkk, hu⟩ := upd_false.1 hu'
      by_cases e : k' = k0
      · subst e
        have h1 := ml_ge_k (mostOf s b a) s x b (upd U k') hkl (upd_false.2 ⟨hne, hk⟩) (hP x (List.mem_cons_self ..) hn') b.length (mostOf s b a (upd U k')) (by omega) (Nat.le_refl _)
        rw [upd_comm]; exact h1
      · have h1 := ml_ge_k (mostOf s b a) s x b (upd U k0) hk' (upd_false.2 ⟨e, hu⟩) hn' b.length (mostOf s b a (upd U k0)) (by omega) (Nat.le_refl _)
        have h2 := ih (upd U k') hPa (upd_false.2 ⟨fun e => hkk e.symm, hk⟩) (upd_false.2 ⟨fun h => e h.symm, hk0⟩)
        rw [upd_comm U k k']
        rw [upd_comm U k0 k'] at h1
        omega
def ub (used : List Bool) : Nat → Bool := fun k => used.getD k false
theorem ub_set {used : List Bool} {k : Nat} (h : k < used.length) : ub (used.set k true) = upd (ub used) k := by
  funext j
  show (used.set k true).getD j false = (decide (j = k) || used.getD j false)
  rw [List.getD_eq_getElem?_getD, List.getD_eq_getElem?_getD, List.getElem?_set]
  by_cases e : k = j
  · subst e; simp [h]
  · have : ¬ j = k := fun h => e h.symm
    simp [e, this]
theorem pick_none {s : Int} {x : HRow} {b : List HRow} {used : List Bool} : ∀ n, n ≤ b.length → pick s x b used n = none → ∀ k, b.length ≤ n + k → k < b.length → ub used k = false → nearAt s x b k = false
  | 0, _, _, k, h1, h2, _ => by omega
  | n + 1, hn, h, k, h1, h2, hu => by
    unfold pick at h
    split at h
    · cases h
    · rename_i hh
      by_cases e : b.length - (n + 1) = k
      · rw [e] at hh
        unfold nearAt
        rw [List.getElem?_eq_getElem h2]
        cases hc : near s x b[k]
        · exact hc
        · refine absurd ⟨hu, ?_⟩ hh
          rw [List.getD_eq_getElem?_getD, List.getElem?_eq_getElem h2]
          exact hc
      · exact pick_none n (by omega) h k (by omega) h2 hu
theorem pick_some {s : Int} {x : HRow} {b : List HRow} {used : List Bool} {k0 : Nat} : ∀ n, n ≤ b.length → pick s x b used n = some k0 → k0 < b.length ∧ ub used k0 = false ∧ nearAt s x b k0 = true ∧ ∀ k, b.length ≤ n + k → k < k0 → ub used k = false → nearAt s x b k = false
  | 0, _, h => by simp [pick] at h
  | n + 1, hn, h => by
    unfold pick at h
    split at h
    · rename_i hh
      injection h with h
      subst h
      have hl : b.length - (n + 1) < b.length := by omega
      refine ⟨hl, hh.1, ?_, fun k h1 h2 => by omega⟩
      have h2 := hh.2
      rw [List.getD_eq_getElem?_getD, List.getElem?_eq_getElem hl] at h2
      unfold nearAt
      rw [List.getElem?_eq_getElem hl]
      exact h2
    · rename_i hh
      obtain ⟨h1, h2, h3, h4⟩ := pick_some n (by omega) h
      refine ⟨h1, h2, h3, fun k hk hlt hu => ?_⟩
      by_cases e : b.length - (n + 1) = k
      · rw [e] at hh
        unfold nearAt
        rw [List.getElem?_eq_getElem (by omega)]
        cases hc : near s x (b[k]'(by omega))
        · exact hc
        · refine absurd ⟨hu, ?_⟩ hh
          rw [List.getD_eq_getElem?_getD, List.getElem?_eq_getElem (by omega)]
          exact hc
      · exact h4 k (by omega) hlt hu
theorem near_iff {s : Int} {a b : HRow} : near s a b = true ↔ (a.kind = b.kind ∧ a.src = b.src ∧ a.dst = b.dst ∧ a.amount = b.amount ∧ a.worth = b.worth) ∧ a.day - b.day ≤ s ∧ b.day - a.day ≤ s := by
  simp [near, sameButDay]
  omega
/-- a later row that corresponds to the first may be given the second -/
theorem near_swap {s : Int} {x y p q : HRow} (h1 : near s x p = true) (h2 : near s x q = true) (h3 : near s y p = true) (hxy : x.day ≤ y.day) (hpq : p.day ≤ q.day) : near s y q = true := by
  rw [near_iff] at *
  omega
/-- Match's pairs are as many as any set of pairs -/
theorem pairs_most (s : Int) (b : List HRow) (hb : b.Pairwise (fun p q => p.day ≤ q.day)) : ∀ (a : List HRow) (i : Nat) (used : List Bool), a.Pairwise (fun p q => p.day ≤ q.day) → used.length = b.length → (pairs s b i a used).length = mostOf s b a (ub used)
  | [], _, _, _, _ => by simp [pairs, mostOf]
  | x :: a, i, used, ha, hu => by
    obtain ⟨hx, ha'⟩ := List.pairwise_cons.1 ha
    rcases hp : pick s x b used b.length with _ | k0
    · have hn := pick_none b.length (Nat.le_refl _) hp
      rw [pairs, hp]
      show (pairs s b (i + 1) a used).length = _
      rw [pairs_most s b hb a (i + 1) used ha' hu]
      rw [most_cons]
      refine Nat.le_antisymm (ml_ge _ _ _ _ _ _ _) (ml_le _ s x b _ _ _ (Nat.le_refl _) (Nat.le_refl _) ?_)
      intro k h1 h2 h3 h4
      rw [hn k h1 h2 h3] at h4
      cases h4
    · obtain ⟨hk0, hu0, hn0, hleast⟩ := pick_some b.length (Nat.le_refl _) hp
      rw [pairs, hp]
      show (pairs s b (i + 1) a (used.set k0 true)).length + 1 = _
      rw [pairs_most s b hb a (i + 1) _ ha' (by simpa using hu), ub_set (by omega)]
      rw [most_cons]
      refine Nat.le_antisymm ?_ ?_
      · have := ml_ge_k (mostOf s b a) s x b (ub used) hk0 hu0 hn0 b.length (mostOf s b a (ub used)) (by omega) (Nat.le_refl _)
        omega
      · refine ml_le _ s x b _ _ _ (Nat.le_refl _) ?_ ?_
        · have := most_drop s b k0 a (ub used); omega
        · intro k _ hk huk hnk
          by_cases e : k = k0
          · subst e; omega
          · have hlt : k0 < k := by
              rcases Nat.lt_or_ge k0 k with h | h
              · exact h
              · have := hleast k (by omega) (by omega) huk
                rw [this] at hnk; cases hnk
            have hday : ∀ p q, b[k0]? = some p → b[k]? = some q → p.day ≤ q.day := by
              intro p q h1 h2
              obtain ⟨h1', rfl⟩ := List.getElem?_eq_some_iff.1 h1
              obtain ⟨h2', rfl⟩ := List.getElem?_eq_some_iff.1 h2
              exact List.pairwise_iff_getElem.1 hb k0 k h1' h2' hlt
            have := most_swap s b hk e a (ub used) (fun y hy hny => by
              unfold nearAt at hn0 hnk hny ⊢
              rcases hp0 : b[k0]? with _ | p
              · rw [hp0] at hn0; cases hn0
              · rcases hq0 : b[k]? with _ | q
                · rw [hq0] at hnk; cases hnk
                · rw [hp0] at hn0 hny
                  rw [hq0] at hnk
                  exact near_swap hn0 hnk hny (hx y hy) (hday p q hp0 hq0)) huk hu0
            omega
/-- what the law asks of each pair -/
def okPairs (s : Int) (a b : List HRow) : Nat → List Bool → List (Nat × Nat) → Prop
  | _, _, [] => True
  | lo, used, (p, q) :: l => lo ≤ p ∧ (∃ x y, a[p]? = some x ∧ b[q]? = some y ∧ near s x y = true) ∧ used[q]? = some false ∧ okPairs s a b (p + 1) (used.set q true) l
theorem okPairs_mono {s : Int} {a b : List HRow} {lo lo' : Nat} {used : List Bool} {l : List (Nat × Nat)} (h : okPairs s a b lo used l) (hl : lo' ≤ lo) : okPairs s a b lo' used l := by
  rcases l with _ | ⟨⟨p, q⟩, l⟩
  · trivial
  · obtain ⟨h1, h2⟩ := h
    exact ⟨by omega, h2⟩
theorem pairs_ok (s : Int) (a0 b : List HRow) : ∀ (a : List HRow) (i : Nat) (used : List Bool), a0.drop i = a → used.length = b.length → okPairs s a0 b i used (pairs s b i a used)
  | [], _, _, _, _ => by simp [pairs, okPairs]
  | x :: a, i, used, h, hu => by
    have hx : a0[i]? = some x := by rw [← List.head?_drop, h]; rfl
    have ha : a0.drop (i + 1) = a := by rw [← List.tail_drop, h]; rfl
    rcases hp : pick s x b used b.length with _ | k0
    · rw [pairs, hp]
      exact okPairs_mono (pairs_ok s a0 b a (i + 1) used ha hu) (by omega)
    · obtain ⟨hk0, hu0, hn0, _⟩ := pick_some b.length (Nat.le_refl _) hp
      rw [pairs, hp]
      refine ⟨Nat.le_refl _, ⟨x, b[k0], hx, List.getElem?_eq_getElem hk0, ?_⟩, ?_, pairs_ok s a0 b a (i + 1) _ ha (by simpa using hu)⟩
      · unfold nearAt at hn0
        rw [List.getElem?_eq_getElem hk0] at hn0
        exact hn0
      · unfold ub at hu0
        rw [List.getD_eq_getElem?_getD, List.getElem?_eq_getElem (by omega)] at hu0
        rw [List.getElem?_eq_getElem (by omega)]
        exact congrArg some hu0
theorem ml_bound (f : (Nat → Bool) → Nat) (s : Int) (x : HRow) (b : List HRow) (U : Nat → Bool) {c : Nat} (hf : ∀ V, f V ≤ c) {n m : Nat} (hn : n ≤ b.length) (hm : m ≤ c + 1) : mostLoop f s x b U n m ≤ c + 1 :=
  ml_le f s x b U n m hn hm (fun _ _ _ _ _ => by have := hf (upd U ‹_›); omega)
theorem most_le (s : Int) (b : List HRow) : ∀ (a : List HRow) (U : Nat → Bool), mostOf s b a U ≤ a.length
  | [], _ => by simp [mostOf]
  | x :: a, U => by
    rw [most_cons]
    exact ml_bound _ s x b U (most_le s b a) (Nat.le_refl _) (by have := most_le s b a U; omega)
theorem ub_replicate (n : Nat) : ub (List.replicate n false) = fun _ => false := by
  funext k
  unfold ub
  rw [List.getD_eq_getElem?_getD, List.getElem?_replicate]
  split <;> rfl
theorem steps_of_pairwise : ∀ {l : List HRow}, l.Pairwise (fun p q => p.day ≤ q.day) → stepsUp l = true
  | [], _ => rfl
  | [_], _ => rfl
  | a :: b :: l, h => by
    obtain ⟨h1, h2⟩ := List.pairwise_cons.1 h
    have := h1 b (List.mem_cons_self ..)
    simp [stepsUp, this, steps_of_pairwise h2]
end Go.Proofs.YtkllpfijeglppaaDoor.HsMl
