/- Plain: rational numbers as texts. -/
import Derived.Test.YthppojbabkljpaaGreatDoorRnR
import Derived.Test.YthppojbabkljpaaGreatDoorRnE
namespace Go.Proofs.YthppojbabkljpaaGreatDoor.RnP
open RnA RnB RnQ RnR RnD RnE
/-- a number as n or n/d -/
def formatQ (q : Rat) : List UInt8 := (if negB q then [45] else []) ++ (decOf (nm q) ++ (if q.den = 1 then [] else 47 :: decOf q.den))
def upTo (c : UInt8) (l : List UInt8) : List UInt8 := l.takeWhile (· != c)
def behind (c : UInt8) (l : List UInt8) : List UInt8 := (l.dropWhile (· != c)).drop 1
/-- what a text without its sign reads as -/
def readQ (neg : Bool) (l : List UInt8) : Rat × Int :=
  if 46 ∈ l then
    if isInt (upTo 46 l) = true ∧ digs (behind 46 l) = true ∧ behind 46 l ≠ [] then
      if 2000 < (upTo 46 l).length ∨ 2000 < (behind 46 l).length then (0, 2)
      else (mk neg (dec (upTo 46 l) * 10 ^ (behind 46 l).length + dec (behind 46 l)) (10 ^ (behind 46 l).length), 0)
    else (0, 3)
  else if 47 ∈ l then
    if isInt (upTo 47 l) = true ∧ isInt (behind 47 l) = true then
      if 2000 < (upTo 47 l).length ∨ 2000 < (behind 47 l).length then (0, 2)
      else if behind 47 l = [48] then (0, 1)
      else (mk neg (dec (upTo 47 l)) (dec (behind 47 l)), 0)
    else (0, 3)
  else if isInt l = true then
    if 2000 < l.length then (0, 2) else (mk neg (dec l) 1, 0)
  else (0, 3)
def parseQ (l : List UInt8) : Rat × Int := if l.head? = some 45 then readQ true l.tail else readQ false l
theorem upTo_app {c : UInt8} {a b : List UInt8} (h : c ∉ a) : upTo c (a ++ c :: b) = a ∧ behind c (a ++ c :: b) = b := by
  unfold upTo behind
  induction a with
  | nil => simp
  | cons x a ih =>
    have h1 : x ≠ c := fun e => h (by rw [e]; exact List.mem_cons_self ..)
    have h2 := ih (fun e => h (List.mem_cons_of_mem _ e))
    simp [h1]
    exact ⟨by simpa using h2.1, by simpa using h2.2⟩
theorem digs_mem {l : List UInt8} (h : digs l = true) {c : UInt8} (hc : c ∈ l) : 48 ≤ c.toNat ∧ c.toNat ≤ 57 := by
  unfold digs at h
  rw [List.all_eq_true] at h
  have := h c hc
  simpa [isDig] using this
theorem not_in_digs {l : List UInt8} (h : digs l = true) {c : UInt8} (hc : c.toNat < 48) : c ∉ l := fun hm => by
  have := digs_mem h hm
  omega
theorem digs_app {a b : List UInt8} : digs (a ++ b) = (digs a && digs b) := by unfold digs; rw [List.all_append]
theorem decOf_45 (n : Nat) (l : List UInt8) : (decOf n ++ l).head? ≠ some 45 := by
  rcases h : decOf n with _ | ⟨c, t⟩
  · exact absurd h (decOf_ne n)
  · intro e
    have hc : c = 45 := by simpa using e
    have := digs_mem (digs_decOf n) (c := c) (by rw [h]; exact List.mem_cons_self ..)
    subst hc
    simp at this
theorem parse_sign (neg : Bool) {l : List UInt8} (h : l.head? ≠ some 45) : parseQ ((if neg then [45] else []) ++ l) = readQ neg l := by
  unfold parseQ
  cases neg
  · rw [if_neg (by simpa using h)]; rfl
  · simp
theorem read_format (q : Rat) (neg : Bool) (h1 : (decOf (nm q)).length ≤ 2000) (h2 : (decOf q.den).length ≤ 2000) : readQ neg (decOf (nm q) ++ (if q.den = 1 then [] else 47 :: decOf q.den)) = (mk neg (nm q) q.den, 0) := by
  have n1 : (46 : UInt8) ∉ decOf (nm q) := not_in_digs (digs_decOf _) (by decide)
  have n2 : (46 : UInt8) ∉ decOf q.den := not_in_digs (digs_decOf _) (by decide)
  have m1 : (47 : UInt8) ∉ decOf (nm q) := not_in_digs (digs_decOf _) (by decide)
  by_cases hd : q.den = 1
  · rw [if_pos hd, List.append_nil]
    unfold readQ
    rw [if_neg n1, if_neg m1, if_pos (isInt_decOf _), if_neg (by omega), dec_decOf, hd]
  · rw [if_neg hd]
    unfold readQ
    have hn : (46 : UInt8) ∉ decOf (nm q) ++ 47 :: decOf q.den := by
      intro hm
      rcases List.mem_append.1 hm with hm | hm
      · exact n1 hm
      · rcases List.mem_cons.1 hm with hm | hm
        · exact absurd hm (by decide)
        · exact n2 hm
    obtain ⟨e1, e2⟩ := upTo_app (b := decOf q.den) m1
    rw [if_neg hn, if_pos (by simp), e1, e2, if_pos ⟨isInt_decOf _, isInt_decOf _⟩, if_neg (by omega), if_neg, dec_decOf, dec_decOf]
    intro e
    have : decOf q.den = decOf 0 := by rw [e, decOf_small (by omega)]; rfl
    exact q.den_nz (decOf_inj this)
theorem parse_format (q : Rat) (h1 : (decOf (nm q)).length ≤ 2000) (h2 : (decOf q.den).length ≤ 2000) : parseQ (formatQ q) = (q, 0) := by
  unfold formatQ
  rw [parse_sign _ (decOf_45 _ _), read_format q _ h1 h2, mk_nm]
/-- the digits of the number shown, before the point is set -/
def shown (t p : Nat) : List UInt8 := List.replicate (p + 1 - (decOf t).length) 48 ++ decOf t
def pointed (l : List UInt8) (p : Nat) : List UInt8 := if 0 < p then l.take (l.length - p) ++ 46 :: l.drop (l.length - p) else l
/-- a number with p decimal places, rounded toward 0 -/
def decimalQ (q : Rat) (p : Nat) : List UInt8 :=
  (if negB q = true ∧ nm q * 10 ^ p / q.den ≠ 0 then [45] else []) ++ pointed (shown (nm q * 10 ^ p / q.den) p) p
theorem digs_rep (n : Nat) : digs (List.replicate n 48) = true := by
  unfold digs
  rw [List.all_eq_true]
  intro x hx
  rw [(List.mem_replicate.1 hx).2]; rfl
theorem dec_rep (n : Nat) (l : List UInt8) : dec (List.replicate n 48 ++ l) = dec l := by
  induction n with
  | zero => rfl
  | succ n ih => rw [List.replicate_succ, List.cons_append, dec, ih]; simp
theorem shown_len (t p : Nat) : p + 1 ≤ (shown t p).length := by unfold shown; rw [List.length_append, List.length_replicate]; omega
theorem digs_shown (t p : Nat) : digs (shown t p) = true := by unfold shown; rw [digs_app, digs_rep, digs_decOf]; rfl
theorem dec_shown (t p : Nat) : dec (shown t p) = t := by unfold shown; rw [dec_rep, dec_decOf]
theorem isInt_whole (t p : Nat) (hp : 0 < p) : isInt ((shown t p).take ((shown t p).length - p)) = true := by
  have hl := shown_len t p
  have hd := digs_shown t p
  have hd2 : digs ((shown t p).take ((shown t p).length - p)) = true := by
    rw [← List.take_append_drop ((shown t p).length - p) (shown t p), digs_app, Bool.and_eq_true] at hd
    exact hd.1
  unfold isInt
  rw [hd2]
  have hne : (shown t p).take ((shown t p).length - p) ≠ [] := by
    intro e
    have := congrArg List.length e
    rw [List.length_take] at this
    simp at this
    omega
  simp only [Bool.true_and, Bool.and_eq_true, Bool.or_eq_true, decide_eq_true_eq]
  refine ⟨hne, ?_⟩
  by_cases h : (decOf t).length ≤ p
  · left
    unfold shown
    rw [List.length_append, List.length_replicate, show p + 1 - (decOf t).length + (decOf t).length - p = 1 by omega, show p + 1 - (decOf t).length = (p - (decOf t).length) + 1 by omega, List.replicate_succ]
    simp
  · right
    have e0 : shown t p = decOf t := by unfold shown; rw [show p + 1 - (decOf t).length = 0 by omega]; rfl
    rw [e0]
    have ht : t ≠ 0 := by
      rintro rfl
      rw [decOf_small (by omega)] at h
      simp at h
      omega
    obtain ⟨c, l, e, hc⟩ := decOf_head ht
    rw [e]
    have : (c :: l).length - p = ((c :: l).length - p - 1) + 1 := by rw [e] at h; omega
    rw [this, List.take_succ_cons]
    simpa using hc
theorem read_decimal (t p : Nat) (neg : Bool) (h1 : (decOf t).length ≤ 1900) (h2 : p ≤ 20) : readQ neg (pointed (shown t p) p) = (mk neg t (10 ^ p), 0) := by
  have hl := shown_len t p
  have hd := digs_shown t p
  have hll : (shown t p).length ≤ 1930 := by unfold shown; rw [List.length_append, List.length_replicate]; omega
  unfold pointed
  by_cases hp : 0 < p
  · rw [if_pos hp]
    have hw := isInt_whole t p hp
    have hsplit := List.take_append_drop ((shown t p).length - p) (shown t p)
    have hlt : ((shown t p).take ((shown t p).length - p)).length ≤ 1930 := by rw [List.length_take]; omega
    have hld : ((shown t p).drop ((shown t p).length - p)).length = p := by rw [List.length_drop]; omega
    have hds := dec_shown t p
    generalize (shown t p).take ((shown t p).length - p) = w at *
    generalize (shown t p).drop ((shown t p).length - p) = f at *
    rw [← hsplit, digs_app, Bool.and_eq_true] at hd
    rw [← hsplit, dec_append, hld] at hds
    have hn : (46 : UInt8) ∉ w := not_in_digs hd.1 (by decide)
    obtain ⟨e1, e2⟩ := upTo_app (b := f) hn
    unfold readQ
    rw [if_pos (by simp), e1, e2, if_pos ⟨hw, hd.2, by intro e; rw [e] at hld; simp at hld; omega⟩, if_neg (by omega), hld, Nat.mul_comm, hds]
  · have hp0 : p = 0 := by omega
    subst hp0
    rw [if_neg (by omega)]
    have e0 : shown t 0 = decOf t := by
      unfold shown
      have : 0 < (decOf t).length := List.length_pos_iff.2 (decOf_ne t)
      rw [show 0 + 1 - (decOf t).length = 0 by omega]; rfl
    rw [e0]
    unfold readQ
    rw [if_neg (not_in_digs (digs_decOf _) (by decide)), if_neg (not_in_digs (digs_decOf _) (by decide)), if_pos (isInt_decOf _), if_neg (by omega), dec_decOf]
theorem pointed_45 (t p : Nat) : (pointed (shown t p) p).head? ≠ some 45 := by
  have hd := digs_shown t p
  have hl := shown_len t p
  intro h
  have hmem : (45 : UInt8) ∈ shown t p := by
    unfold pointed at h
    split at h
    · rcases hs : shown t p with _ | ⟨c, l⟩
      · rw [hs] at hl; simp at hl
      · rw [hs] at h hl
        have : (c :: l).length - p = ((c :: l).length - p - 1) + 1 := by omega
        rw [this, List.take_succ_cons] at h
        have : c = 45 := by simpa using h
        rw [this]; exact List.mem_cons_self ..
    · exact List.mem_of_mem_head? h
  exact not_in_digs hd (by decide) hmem
theorem parse_decimal (q : Rat) (p : Nat) (h1 : (decOf (nm q * 10 ^ p / q.den)).length ≤ 1900) (h2 : p ≤ 20) : parseQ (decimalQ q p) = (mk (negB q) (nm q * 10 ^ p / q.den) (10 ^ p), 0) := by
  unfold decimalQ
  have hs := parse_sign (negB q && decide (nm q * 10 ^ p / q.den ≠ 0)) (pointed_45 (nm q * 10 ^ p / q.den) p)
  have e : (if (negB q && decide (nm q * 10 ^ p / q.den ≠ 0)) = true then ([45] : List UInt8) else []) = (if negB q = true ∧ nm q * 10 ^ p / q.den ≠ 0 then [45] else []) := by
    by_cases h : negB q = true ∧ nm q * 10 ^ p / q.den ≠ 0
    · rw [if_pos h, if_pos (by simpa using h)]
    · rw [if_neg h, if_neg (by simpa using h)]
  rw [e] at hs
  rw [hs, read_decimal _ _ _ h1 h2]
  by_cases h0 : nm q * 10 ^ p / q.den = 0
  · rw [h0, mk_zero, mk_zero]
  · cases negB q <;> simp [h0]
end Go.Proofs.YthppojbabkljpaaGreatDoor.RnP
