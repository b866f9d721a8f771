/- Plain: what Format writes, Parse reads. -/
import Derived.Test.YtkllpfijeglppaaDoorHsU
namespace Go.Proofs.YtkllpfijeglppaaDoor.HsPa
open Go.RowKit Hs HsB HsC HsD HsF HsG HsH HsE HsI HsJ HsK HsL HsM HsN HsO HsP HsQ HsR HsS HsT HsU
theorem dec_step (u : Nat) : Lib.decDigits u = if u < 10 then [UInt8.ofNat (48 + u)] else Lib.decDigits (u / 10) ++ [UInt8.ofNat (48 + u % 10)] := by
  rw [Lib.decDigits]; split <;> rfl
theorem digit_num {m : Nat} (h : m < 10) : (UInt8.ofNat (48 + m)).toNat = 48 + m := by
  rw [UInt8.toNat_ofNat']; omega
theorem dec_facts : ∀ (n u : Nat), u ≤ n → numVal (Lib.decDigits u) = u ∧ (Lib.decDigits u).all isDig = true ∧ Lib.decDigits u ≠ [] ∧ (1 ≤ u → (Lib.decDigits u).head? ≠ some 48) := by
  intro n
  induction n with
  | zero =>
    intro u hu
    obtain rfl : u = 0 := by omega
    rw [dec_step, if_pos (by omega)]
    exact ⟨rfl, rfl, by simp, fun h => by omega⟩
  | succ n ih =>
    intro u hu
    rw [dec_step]
    by_cases h : u < 10
    · rw [if_pos h]
      have hd := digit_num h
      refine ⟨?_, ?_, by simp, fun h1 => ?_⟩
      · simp only [numVal, List.foldl_cons, List.foldl_nil]; omega
      · have := (isDig_iff (UInt8.ofNat (48 + u))).2 ⟨by omega, by omega⟩
        simp only [List.all_cons, List.all_nil, this, Bool.and_true]
      · intro e
        have e2 : UInt8.ofNat (48 + u) = 48 := by simpa using e
        have := congrArg UInt8.toNat e2
        rw [hd] at this
        have h48 : (48 : UInt8).toNat = 48 := rfl
        omega
    · rw [if_neg h]
      obtain ⟨i1, i2, i3, i4⟩ := ih (u / 10) (by omega)
      have hd := digit_num (show u % 10 < 10 by omega)
      refine ⟨?_, ?_, by simp, fun _ => ?_⟩
      · rw [numVal_snoc, i1, hd]; omega
      · rw [List.all_append, i2]
        have := (isDig_iff (UInt8.ofNat (48 + u % 10))).2 ⟨by omega, by omega⟩
        simp only [List.all_cons, List.all_nil, this, Bool.and_true]
      · have := i4 (by omega)
        cases hc : Lib.decDigits (u / 10) with
        | nil => exact absurd hc i3
        | cons a b => rw [hc] at this; simpa using this
theorem num_dec {u : Nat} (h : u ≤ 999999999999999999) : numOf (Lib.decDigits u) = some u := by
  obtain ⟨h1, h2, h3, h4⟩ := dec_facts u u (Nat.le_refl _)
  have hl := (lt_pow_of_digits u).2 h
  unfold numOf
  rw [if_neg, h1]
  rw [h2]
  simp only [or_false, Bool.true_eq_false]
  simp only [badHead, Bool.or_eq_true, Bool.and_eq_true, decide_eq_true_eq, not_or, not_and]
  refine ⟨⟨h3, by omega⟩, fun e => ?_⟩
  rcases Nat.eq_zero_or_pos u with rfl | hp
  · rw [Lib.decDigits_one (by omega)]; simp
  · exact absurd e (h4 hp)
theorem num_tx {n : Int} (h : fits n = true) : numOf (tx n).data.toList = some n.toNat := by
  rw [fits_iff] at h
  simp at h
  obtain ⟨u, rfl⟩ := Int.eq_ofNat_of_zero_le h.1
  rw [tx_list, Lib.itoa_nonneg]
  exact num_dec (by omega)
/-- no byte of a list is c -/
def Free (c : UInt8) (l : List UInt8) : Prop := ∀ x ∈ l, x ≠ c
theorem free_dec {c : UInt8} (hc : isDig c = false) (u : Nat) : Free c (Lib.decDigits u) := by
  have h := (dec_facts u u (Nat.le_refl _)).2.1
  rw [List.all_eq_true] at h
  intro x hx e
  subst e
  rw [h x hx] at hc; cases hc
theorem free_tx {c : UInt8} (hc : isDig c = false) {n : Int} (h : fits n = true) : Free c (tx n).data.toList := by
  rw [fits_iff] at h
  simp at h
  obtain ⟨u, rfl⟩ := Int.eq_ofNat_of_zero_le h.1
  rw [tx_list, Lib.itoa_nonneg]
  exact free_dec hc u
theorem splA_word {c : UInt8} : ∀ {w cur rest : List UInt8}, Free c w → splA c cur (w ++ c :: rest) = (cur ++ w) :: splA c [] rest
  | [], cur, rest, _ => by simp [splA]
  | x :: w, cur, rest, h => by
    have hx : x ≠ c := h x (by simp)
    rw [List.cons_append, splA, if_neg hx, splA_word (fun y hy => h y (by simp [hy]))]
    simp
theorem splA_last {c : UInt8} : ∀ {w cur : List UInt8}, Free c w → splA c cur w = [cur ++ w]
  | [], cur, _ => by simp [splA]
  | x :: w, cur, h => by
    have hx : x ≠ c := h x (by simp)
    rw [splA, if_neg hx, splA_last (fun y hy => h y (by simp [hy]))]
    simp
theorem cut_line {body rest : List UInt8} (h : Free 10 body) : Lib.cut (body ++ 10 :: rest) [10] = (body, rest, true) := by
  have h1 : Lib.index (body ++ 10 :: rest) [10] = (body.length : Nat) := index_at (by intro x hx; rw [List.take_left] at hx; exact h x hx) (by simp)
  unfold Lib.cut
  rw [h1, if_pos (by omega)]
  simp
/-- the line of a row, without its line feed -/
def bodyOf (r : HRow) : List UInt8 :=
  (tx r.day).data.toList ++ 32 :: ((if r.kind = 1 then k1L else if r.kind = 2 then k2L else k3L) ++ 32 :: ((tx r.src).data.toList ++ 32 :: ((tx r.dst).data.toList ++ 32 :: ((tx r.amount).data.toList ++ if r.kind = 3 then 32 :: (tx r.worth).data.toList else []))))
theorem ok_parts {r : HRow} (h : okB r = true) : (fits r.day = true ∧ fits r.src = true ∧ fits r.dst = true ∧ fits r.amount = true ∧ fits r.worth = true) ∧ (r.kind = 1 ∨ r.kind = 2 ∨ r.kind = 3) ∧ (r.kind ≠ 3 → r.worth = 0) := by
  unfold okB five at h
  simp only [List.all_cons, List.all_nil, Bool.and_true, Bool.and_eq_true, Bool.or_eq_true, beq_iff_eq] at h
  obtain ⟨⟨a, b, c, d, e⟩, f⟩ := h
  refine ⟨⟨a, b, c, d, e⟩, ?_, ?_⟩
  · rcases f with f | ⟨f | f, _⟩ <;> simp [f]
  · intro h3
    rcases f with f | ⟨_, f⟩
    · exact absurd f h3
    · exact f
theorem line_body {r : HRow} (h : okB r = true) : (lineOf r).1.data.toList = bodyOf r ++ [10] := by
  obtain ⟨_, hk, _⟩ := ok_parts h
  rcases hk with hk | hk | hk
  · rw [line_text1 hk]; unfold text5 bodyOf; simp [hk, ByteArray.data_append, key1, k1L]
  · rw [line_text2 hk]; unfold text5 bodyOf; simp [hk, ByteArray.data_append, key2, k2L]
  · rw [line_text3 hk]; unfold text5 bodyOf; simp [hk, ByteArray.data_append, key3, k3L]
theorem free_key (c : UInt8) (hc : c = 32 ∨ c = 10) : Free c k1L ∧ Free c k2L ∧ Free c k3L := by
  rcases hc with rfl | rfl
  all_goals
    refine ⟨?_, ?_, ?_⟩
    all_goals
      intro x hx
      simp only [k1L, k2L, k3L, List.mem_cons, List.mem_nil_iff, or_false] at hx
      rcases hx with rfl | rfl | rfl | rfl | rfl | rfl | rfl | rfl <;> decide
theorem body_free {r : HRow} (h : okB r = true) : Free 10 (bodyOf r) := by
  obtain ⟨⟨a, b, c, d, e⟩, hk, _⟩ := ok_parts h
  have hd : isDig 10 = false := by decide
  obtain ⟨f1, f2, f3⟩ := free_key 10 (.inr rfl)
  unfold bodyOf
  intro x hx
  simp only [List.mem_append, List.mem_cons] at hx
  rcases hx with hx | rfl | hx | rfl | hx | rfl | hx | rfl | hx | hx
  · exact free_tx hd a x hx
  · decide
  · split at hx
    · exact f1 x hx
    · split at hx
      · exact f2 x hx
      · exact f3 x hx
  · decide
  · exact free_tx hd b x hx
  · decide
  · exact free_tx hd c x hx
  · decide
  · exact free_tx hd d x hx
  · split at hx
    · rcases List.mem_cons.1 hx with rfl | hx
      · decide
      · exact free_tx hd e x hx
    · cases hx
theorem fit_nn {n : Int} (h : fits n = true) : ((n.toNat : Nat) : Int) = n := by
  rw [fits_iff] at h
  simp at h
  omega
theorem row_body {r : HRow} (h : okB r = true) : rowOf (bodyOf r) = some r := by
  obtain ⟨⟨a, b, c, d, e⟩, hk, hw⟩ := ok_parts h
  have hd : isDig 32 = false := by decide
  obtain ⟨f1, f2, f3⟩ := free_key 32 (.inl rfl)
  obtain ⟨d0, k0, s0, t0, a0, x0⟩ := r
  dsimp only at a b c d e hk hw
  have key : ∀ (kw : List UInt8), Free 32 kw → splA 32 [] ((tx d0).data.toList ++ 32 :: (kw ++ 32 :: ((tx s0).data.toList ++ 32 :: ((tx t0).data.toList ++ 32 :: (tx a0).data.toList)))) = [(tx d0).data.toList, kw, (tx s0).data.toList, (tx t0).data.toList, (tx a0).data.toList] := by
    intro kw hkw
    rw [splA_word (free_tx hd a), splA_word hkw, splA_word (free_tx hd b), splA_word (free_tx hd c), splA_last (free_tx hd d)]
    simp
  unfold rowOf bodyOf
  dsimp only
  rcases hk with rfl | rfl | rfl
  · obtain rfl := hw (by decide)
    have e0 : (if (1 : Int) = 3 then 32 :: (tx 0).data.toList else []) = [] := by rw [if_neg (by decide)]
    rw [e0, List.append_nil, if_pos rfl, key k1L f1]
    refine (row_good (k := 1) (ns := [d0.toNat, s0.toNat, t0.toNat, a0.toNat]) (by simp) (show kindW (List.getD [_, k1L, _, _, _] 1 []) = 1 from (by decide : kindW k1L = 1)) (by decide) (by rfl) ?_).trans ?_
    · simp [numsOf, num_tx a, num_tx b, num_tx c, num_tx d]
    · simp only [rowN, List.getD_cons_zero, List.getD_cons_succ, List.getD_nil, fit_nn a, fit_nn b, fit_nn c, fit_nn d]; rfl
  · obtain rfl := hw (by decide)
    have e0 : (if (2 : Int) = 3 then 32 :: (tx 0).data.toList else []) = [] := by rw [if_neg (by decide)]
    rw [e0, List.append_nil, if_neg (by decide), if_pos rfl, key k2L f2]
    refine (row_good (k := 2) (ns := [d0.toNat, s0.toNat, t0.toNat, a0.toNat]) (by simp) (show kindW (List.getD [_, k2L, _, _, _] 1 []) = 2 from (by decide : kindW k2L = 2)) (by decide) (by rfl) ?_).trans ?_
    · simp [numsOf, num_tx a, num_tx b, num_tx c, num_tx d]
    · simp only [rowN, List.getD_cons_zero, List.getD_cons_succ, List.getD_nil, fit_nn a, fit_nn b, fit_nn c, fit_nn d]; rfl
  · rw [if_neg (by decide), if_neg (by decide), if_pos rfl, splA_word (free_tx hd a), splA_word f3, splA_word (free_tx hd b), splA_word (free_tx hd c), splA_word (free_tx hd d), splA_last (free_tx hd e)]
    simp only [List.nil_append]
    refine (row_good (k := 3) (ns := [d0.toNat, s0.toNat, t0.toNat, a0.toNat, x0.toNat]) (by simp) (show kindW (List.getD [_, k3L, _, _, _, _] 1 []) = 3 from (by decide : kindW k3L = 3)) (by decide) (by rfl) ?_).trans ?_
    · simp [numsOf, num_tx a, num_tx b, num_tx c, num_tx d, num_tx e]
    · simp only [rowN, List.getD_cons_zero, List.getD_cons_succ, fit_nn a, fit_nn b, fit_nn c, fit_nn d, fit_nn e]
theorem parseF_text : ∀ (l out : List HRow) (f : Nat), (∀ r ∈ l, okB r = true) → l.length < f → out.length + l.length ≤ 256 → parseF f out (fmtText l) = (out ++ l, 0, 0)
  | [], out, f, _, hf, _ => by
    obtain ⟨g, rfl⟩ : ∃ g, f = g + 1 := ⟨f - 1, by simp at hf; omega⟩
    have : fmtText [] = [] := rfl
    rw [this, parseF_end, List.append_nil]
  | r :: l, out, f, h, hf, hl => by
    obtain ⟨g, rfl⟩ : ∃ g, f = g + 1 := ⟨f - 1, by omega⟩
    have hr := h r (by simp)
    have e : fmtText (r :: l) = bodyOf r ++ 10 :: fmtText l := by
      simp only [fmtText, List.flatMap_cons, line_body hr, List.append_assoc, List.singleton_append]
    have hc := cut_line (rest := fmtText l) (body_free hr)
    simp only [List.length_cons] at hf hl
    rw [e, parseF_go (r := r) (by simp) (by omega) (by rw [hc]; exact row_body hr) (by rw [hc]), hc, parseF_text l (out ++ [r]) g (fun x hx => h x (by simp [hx])) (by omega) (by simp; omega)]
    simp
theorem parse_text {l : List HRow} (h : ∀ r ∈ l, okB r = true) (hl : l.length ≤ 256) (hs : (fmtText l).length ≤ 8192) : parseOf (formatOf l) = (l, 0, 0) ∧ formatOf l = fmtText l := by
  have ha : allLines l = true := by
    unfold allLines
    rw [List.all_eq_true]
    intro r hr
    rw [ok_eq]; exact h r hr
  have hf : formatOf l = fmtText l := by
    unfold formatOf
    rw [ha, if_neg (by simp; omega)]
  refine ⟨?_, hf⟩
  rw [hf]
  unfold parseOf
  rw [if_neg (by omega)]
  have hlen : l.length ≤ (fmtText l).length := by
    clear hs ha hf hl
    induction l with
    | nil => simp
    | cons r l ih =>
      have := ih (fun x hx => h x (by simp [hx]))
      have e : (fmtText (r :: l)).length = ((lineOf r).1.data.toList).length + (fmtText l).length := by simp [fmtText]
      rw [e, line_body (h r (by simp))]
      simp
      omega
  rw [parseF_text l [] _ h (by omega) (by simpa using hl)]
  rfl
end Go.Proofs.YtkllpfijeglppaaDoor.HsPa
