/- Plain: Parse inverts Format on documents. -/
import Derived.Test.YtghbhchkdomfhaaGreatDoorPFC
import Derived.Test.YtghbhchkdomfhaaGreatDoorPFB
import Derived.Lib.ItoaLen
namespace Go.Proofs.YtghbhchkdomfhaaGreatDoor.PfV
open Lx RnQ RnR RnP PfS PfB PfA PfO PfP PfQ PfT PfU
theorem dec_step (u : Nat) : Lib.decDigits u = if u < 10 then [UInt8.ofNat (48 + u)] else Lib.decDigits (u / 10) ++ [UInt8.ofNat (48 + u % 10)] := by
  rw [Lib.decDigits]; split <;> rfl
theorem digit_num {m : Nat} (h : m < 10) : (UInt8.ofNat (48 + m)).toNat = 48 + m := by
  rw [UInt8.toNat_ofNat']; omega
theorem dec_facts : ∀ (n u : Nat), u ≤ n → numVal (Lib.decDigits u) = u ∧ (Lib.decDigits u).all PfS.isDig = true ∧ Lib.decDigits u ≠ [] ∧ (1 ≤ u → (Lib.decDigits u).head? ≠ some 48) := by
  intro n
  induction n with
  | zero =>
    intro u hu
    obtain rfl : u = 0 := by omega
    rw [dec_step, if_pos (by omega)]
    exact ⟨rfl, rfl, by simp, fun h => by omega⟩
  | succ n ih =>
    intro u hu
    rw [dec_step]
    by_cases h : u < 10
    · rw [if_pos h]
      have hd := digit_num h
      refine ⟨?_, ?_, by simp, fun h1 => ?_⟩
      · simp only [numVal, List.foldl_cons, List.foldl_nil]; omega
      · have := (isDig_iff (UInt8.ofNat (48 + u))).2 ⟨by omega, by omega⟩
        simp only [List.all_cons, List.all_nil, this, Bool.and_true]
      · intro e
        have e2 : UInt8.ofNat (48 + u) = 48 := by simpa using e
        have := congrArg UInt8.toNat e2
        rw [hd] at this
        have h48 : (48 : UInt8).toNat = 48 := rfl
        omega
    · rw [if_neg h]
      obtain ⟨i1, i2, i3, i4⟩ := ih (u / 10) (by omega)
      have hd := digit_num (show u % 10 < 10 by omega)
      refine ⟨?_, ?_, by simp, fun _ => ?_⟩
      · rw [numVal_snoc, i1, hd]; omega
      · rw [List.all_append, i2]
        have := (isDig_iff (UInt8.ofNat (48 + u % 10))).2 ⟨by omega, by omega⟩
        simp only [List.all_cons, List.all_nil, this, Bool.and_true]
      · have := i4 (by omega)
        cases hc : Lib.decDigits (u / 10) with
        | nil => exact absurd hc i3
        | cons a b => rw [hc] at this; simpa using this
theorem dec_len : ∀ (k u : Nat), u < 10 ^ (k + 1) → (Lib.decDigits u).length ≤ k + 1
  | 0, u, h => by rw [dec_step, if_pos (by simpa using h)]; simp
  | k + 1, u, h => by
    rw [dec_step]
    split
    · simp
    · have := dec_len k (u / 10) (by rw [Nat.pow_succ] at h; omega)
      simp
      omega
theorem num_dec {u : Nat} (h : u ≤ 999999999) : numOf (Lib.decDigits u) = some u := by
  obtain ⟨h1, h2, h3, h4⟩ := dec_facts u u (Nat.le_refl _)
  have hl := dec_len 8 u (by omega)
  unfold numOf
  rw [if_neg, h1]
  rw [h2]
  simp only [or_false, Bool.true_eq_false]
  simp only [badHead, Bool.or_eq_true, Bool.and_eq_true, decide_eq_true_eq, not_or, not_and]
  refine ⟨⟨h3, by omega⟩, fun e => ?_⟩
  rcases Nat.eq_zero_or_pos u with rfl | hp
  · rw [Lib.decDigits_one (by omega)]; simp
  · exact absurd e (h4 hp)
theorem num_itoa {n : Int} (h0 : 0 ≤ n) (h1 : n ≤ 999999999) : numOf (Lib.itoa n) = some n.toNat := by
  obtain ⟨u, rfl⟩ := Int.eq_ofNat_of_zero_le h0
  rw [Lib.itoa_nonneg]
  exact num_dec (by omega)
theorem itoa_len {n : Int} (h0 : 0 ≤ n) (h1 : n ≤ 9999999) : (Lib.itoa n).length ≤ 7 := by
  obtain ⟨u, rfl⟩ := Int.eq_ofNat_of_zero_le h0
  rw [Lib.itoa_nonneg]
  exact dec_len 6 u (by omega)
/-- no byte of a list is c -/
def Free (c : UInt8) (l : List UInt8) : Prop := ∀ x ∈ l, x ≠ c
theorem Free.app {c : UInt8} {a b : List UInt8} (h : Free c a) (k : Free c b) : Free c (a ++ b) := fun x hx => (List.mem_append.1 hx).elim (h x) (k x)
theorem Free.cons {c x : UInt8} {b : List UInt8} (h : x ≠ c) (k : Free c b) : Free c (x :: b) := fun y hy => (List.mem_cons.1 hy).elim (fun e => e ▸ h) (k y)
theorem Free.nil (c : UInt8) : Free c [] := fun _ h => by cases h
theorem free_itoa {c : UInt8} (hc : PfS.isDig c = false) {n : Int} (h0 : 0 ≤ n) : Free c (Lib.itoa n) := by
  obtain ⟨u, rfl⟩ := Int.eq_ofNat_of_zero_le h0
  rw [Lib.itoa_nonneg]
  have h := (dec_facts u u (Nat.le_refl _)).2.1
  rw [List.all_eq_true] at h
  intro x hx e
  subst e
  rw [h x hx] at hc; cases hc
theorem free_decOf {c : UInt8} (hc : RnD.isDig c = false) (n : Nat) : Free c (RnD.decOf n) := by
  have h := RnD.digs_decOf n
  unfold RnD.digs at h
  rw [List.all_eq_true] at h
  intro x hx e
  subst e
  rw [h x hx] at hc; cases hc
theorem free_fmt {c : UInt8} (hc : RnD.isDig c = false) (h1 : (45 : UInt8) ≠ c) (h2 : (47 : UInt8) ≠ c) (q : Rat) : Free c (formatQ q) := by
  unfold formatQ
  refine Free.app ?_ (Free.app (free_decOf hc _) ?_)
  · split
    · exact Free.cons h1 (Free.nil c)
    · exact Free.nil c
  · split
    · exact Free.nil c
    · exact Free.cons h2 (free_decOf hc _)
theorem free_code {c : UInt8} (hc : isUp c = false) {l : List UInt8} (h : codeB l = true) : Free c l := by
  unfold codeB at h
  simp only [Bool.and_eq_true] at h
  have h1 := h.1
  rw [List.all_eq_true] at h1
  intro x hx e
  subst e
  rw [h1 x hx] at hc; cases hc
theorem all_take {α : Type} {p : α → Bool} : ∀ {l : List α}, (l.takeWhile p).length = l.length → ∀ x ∈ l, p x = true
  | [], _, x, hx => by cases hx
  | y :: l, h, x, hx => by
    rw [List.takeWhile_cons] at h
    split at h
    · rename_i hy
      rcases List.mem_cons.1 hx with rfl | hx
      · exact hy
      · exact all_take (by simpa using h) x hx
    · simp at h
theorem free_name {c : UInt8} (hc : inName (c.toNat : Int) = false) {s : ByteArray} (h : NmA.nmB s = true) : Free c s.data.toList := by
  unfold NmA.nmB skip at h
  simp only [Bool.and_eq_true, decide_eq_true_eq, List.drop_zero, Nat.zero_add] at h
  have h1 := all_take (l := s.data.toList) (p := fun c => inName (c.toNat : Int)) (by rw [h.2.2.2]; simp)
  intro x hx e
  subst e
  rw [h1 x hx] at hc; cases hc
theorem splA_word {c : UInt8} : ∀ {w cur rest : List UInt8}, Free c w → splA c cur (w ++ c :: rest) = (cur ++ w) :: splA c [] rest
  | [], cur, rest, _ => by simp [splA]
  | x :: w, cur, rest, h => by
    have hx : x ≠ c := h x (by simp)
    rw [List.cons_append, splA, if_neg hx, splA_word (fun y hy => h y (by simp [hy]))]
    simp
theorem splA_last {c : UInt8} : ∀ {w cur : List UInt8}, Free c w → splA c cur w = [cur ++ w]
  | [], cur, _ => by simp [splA]
  | x :: w, cur, h => by
    have hx : x ≠ c := h x (by simp)
    rw [splA, if_neg hx, splA_last (fun y hy => h y (by simp [hy]))]
    simp
theorem join_two (x y : List UInt8) (r : List (List UInt8)) : Lib.join (x :: y :: r) [32] = x ++ 32 :: Lib.join (y :: r) [32] := by
  rw [Lib.join_cons, Lib.join_cons]
  simp [Lib.joinTail]
/-- words of a line -/
def GoodW (ws : List (List UInt8)) : Prop := ws ≠ [] ∧ ∀ w ∈ ws, Free 32 w ∧ Free 10 w
theorem spl_ln : ∀ {ws : List (List UInt8)}, GoodW ws → splA 32 [] (Lib.join ws [32]) = ws
  | [], h => absurd rfl h.1
  | [x], h => by rw [Lib.join_one, splA_last (h.2 x (by simp)).1]; rfl
  | x :: y :: r, h => by
    rw [join_two, splA_word (h.2 x (by simp)).1, spl_ln (ws := y :: r) ⟨by simp, fun w hw => h.2 w (by simp [List.mem_cons.1 hw])⟩]
    rfl
theorem free_ln : ∀ {ws : List (List UInt8)}, GoodW ws → Free 10 (Lib.join ws [32])
  | [], h => absurd rfl h.1
  | [x], h => by rw [Lib.join_one]; exact (h.2 x (by simp)).2
  | x :: y :: r, h => by
    rw [join_two]
    exact Free.app (h.2 x (by simp)).2 (Free.cons (by decide) (free_ln (ws := y :: r) ⟨by simp, fun w hw => h.2 w (by simp [List.mem_cons.1 hw])⟩))
def lnW (ws : List (List UInt8)) : List UInt8 := Lib.join ws [32]
theorem spl_text : ∀ (Ls : List (List (List UInt8))) (rest : List UInt8), (∀ ws ∈ Ls, GoodW ws) → splA 10 [] (Ls.flatMap ln ++ rest) = Ls.map lnW ++ splA 10 [] rest
  | [], rest, _ => rfl
  | ws :: Ls, rest, h => by
    rw [List.flatMap_cons, show ln ws = lnW ws ++ [10] from rfl, List.append_assoc, List.append_assoc, List.singleton_append, splA_word (show Free 10 (lnW ws) from free_ln (h ws (by simp))), spl_text Ls rest (fun x hx => h x (by simp [hx]))]
    rfl
/-- the lines of a document -/
def docWs (d : Dc) : List (List (List UInt8)) :=
  [[kProof, d.id.data.toList], [kEstate, Lib.itoa d.est], [kCreditor, Lib.itoa d.cred], [kAmount, d.code.data.toList, formatQ d.amt], [kIncurred, Lib.itoa d.inc], [kRank, Lib.itoa d.rank]]
    ++ (if 0 < sgnQ d.rate then [[kInterest, formatQ d.rate, kFrom, Lib.itoa d.rfrom]] else []) ++ (if 0 ≤ d.sec then [[kSecured, Lib.itoa d.sec]] else [])
theorem docL_eq (d : Dc) : docL d = (docWs d).flatMap ln := by
  unfold docL docWs
  by_cases h1 : 0 < sgnQ d.rate <;> by_cases h2 : 0 ≤ d.sec <;> simp [h1, h2]
theorem textD_eq (l : List Dc) : textD l = (l.flatMap docWs).flatMap ln := by
  unfold textD
  induction l with
  | nil => rfl
  | cons d l ih => rw [List.flatMap_cons, List.flatMap_cons, List.flatMap_append, docL_eq, ih]
/-- a document that can be written and read back -/
structure Good (d : Dc) : Prop where
  chk : checkD d = 0
  v1 : validB d.neg d.num.data.toList d.den.data.toList = true
  v2 : validB d.rneg d.rnum.data.toList d.rden.data.toList = true
  n1 : nm d.amt < 10000
  n2 : d.amt.den < 10000
  n3 : nm d.rate < 10000
  n4 : d.rate.den < 10000
theorem in_iff {n m : Int} : inB n m = true ↔ 0 ≤ n ∧ n ≤ m := by simp [inB]
theorem check_all {d : Dc} (h : checkD d = 0) : NmA.nmB d.id = true ∧ (0 ≤ d.est ∧ d.est ≤ 7) ∧ (0 ≤ d.cred ∧ d.cred ≤ 31) ∧ codeB d.code.data.toList = true ∧ ¬ sgnQ d.amt < 0 ∧ (0 ≤ d.inc ∧ d.inc ≤ 1048576) ∧ (0 ≤ d.rank ∧ d.rank ≤ 7)
    ∧ ¬ sgnQ d.rate < 0 ∧ (0 ≤ d.rfrom ∧ d.rfrom ≤ 1048576) ∧ (sgnQ d.rate = 0 → d.rfrom = 0) ∧ (-1 ≤ d.sec ∧ d.sec ≤ 7) := by
  unfold checkD at h
  split at h
  · omega
  split at h
  · omega
  split at h
  · omega
  split at h
  · omega
  split at h
  · omega
  split at h
  · omega
  split at h
  · omega
  split at h
  · omega
  split at h
  · omega
  split at h
  · omega
  split at h
  · omega
  rename_i h1 h2 h3 h4 h5 h6 h7 h8 h9 h10 h11
  rw [Bool.not_eq_false] at h1 h2 h3 h4 h6 h7 h9 h11
  have k := in_iff.1 h11
  exact ⟨h1, in_iff.1 h2, in_iff.1 h3, h4, h5, in_iff.1 h6, in_iff.1 h7, h8, in_iff.1 h9, fun e => Classical.byContradiction fun hn => h10 ⟨e, hn⟩, by omega, by omega⟩
theorem good_ws {d : Dc} (h : checkD d = 0) : ∀ ws ∈ docWs d, GoodW ws := by
  obtain ⟨h1, h2, h3, h4, h5, h6, h7, h8, h9, h10, h11⟩ := check_all h
  have n32 : ∀ {n : Int}, 0 ≤ n → Free 32 (Lib.itoa n) ∧ Free 10 (Lib.itoa n) := fun h => ⟨free_itoa (by decide) h, free_itoa (by decide) h⟩
  have f32 : ∀ q : Rat, Free 32 (formatQ q) ∧ Free 10 (formatQ q) := fun q => ⟨free_fmt (by decide) (by decide) (by decide) q, free_fmt (by decide) (by decide) (by decide) q⟩
  have k1 : Free 32 kProof ∧ Free 10 kProof := by constructor <;> (unfold Free kProof; decide)
  have k2 : Free 32 kEstate ∧ Free 10 kEstate := by constructor <;> (unfold Free kEstate; decide)
  have k3 : Free 32 kCreditor ∧ Free 10 kCreditor := by constructor <;> (unfold Free kCreditor; decide)
  have k4 : Free 32 kAmount ∧ Free 10 kAmount := by constructor <;> (unfold Free kAmount; decide)
  have k5 : Free 32 kIncurred ∧ Free 10 kIncurred := by constructor <;> (unfold Free kIncurred; decide)
  have k6 : Free 32 kRank ∧ Free 10 kRank := by constructor <;> (unfold Free kRank; decide)
  have k7 : Free 32 kInterest ∧ Free 10 kInterest := by constructor <;> (unfold Free kInterest; decide)
  have k8 : Free 32 kSecured ∧ Free 10 kSecured := by constructor <;> (unfold Free kSecured; decide)
  have k9 : Free 32 kFrom ∧ Free 10 kFrom := by constructor <;> (unfold Free kFrom; decide)
  have hn : Free 32 d.id.data.toList ∧ Free 10 d.id.data.toList := ⟨free_name (by decide) h1, free_name (by decide) h1⟩
  have hc : Free 32 d.code.data.toList ∧ Free 10 d.code.data.toList := ⟨free_code (by decide) h4, free_code (by decide) h4⟩
  have two : ∀ {a b : List UInt8}, (Free 32 a ∧ Free 10 a) → (Free 32 b ∧ Free 10 b) → GoodW [a, b] := fun ha hb => ⟨by simp, fun w hw => by
    rcases List.mem_cons.1 hw with rfl | hw
    · exact ha
    · rw [List.mem_singleton.1 hw]; exact hb⟩
  intro ws hw
  unfold docWs at hw
  rw [List.mem_append, List.mem_append] at hw
  rcases hw with (hw | hw) | hw
  · simp only [List.mem_cons, List.not_mem_nil, or_false] at hw
    rcases hw with rfl | rfl | rfl | rfl | rfl | rfl
    · exact two k1 hn
    · exact two k2 (n32 h2.1)
    · exact two k3 (n32 h3.1)
    · refine ⟨by simp, fun w hw => ?_⟩
      simp only [List.mem_cons, List.not_mem_nil, or_false] at hw
      rcases hw with rfl | rfl | rfl
      · exact k4
      · exact hc
      · exact f32 _
    · exact two k5 (n32 h6.1)
    · exact two k6 (n32 h7.1)
  · split at hw
    · rw [List.mem_singleton.1 hw]
      refine ⟨by simp, fun w hw => ?_⟩
      simp only [List.mem_cons, List.not_mem_nil, or_false] at hw
      rcases hw with rfl | rfl | rfl | rfl
      · exact k7
      · exact f32 _
      · exact k9
      · exact n32 h9.1
    · cases hw
  · split at hw
    · rw [List.mem_singleton.1 hw]
      exact two k8 (n32 (by assumption))
    · cases hw
theorem line_step {ws : List (List UInt8)} {r r' : Rdr} {l : List (List UInt8)} {i : Nat} (hw : GoodW ws) (h : lineD ws r = (0, r')) : linesD (lnW ws :: l) i r = linesD l (i + 1) r' := by
  rw [linesD, show splA 32 [] (lnW ws) = ws from spl_ln hw, h, if_neg (by simp)]
theorem line_stop {ws : List (List UInt8)} {r : Rdr} {l : List (List UInt8)} {i : Nat} {c : Int} (hw : GoodW ws) (h : (lineD ws r).1 = c) (hc : c ≠ 0) : linesD (lnW ws :: l) i r = ((i + 1, c), r) := by
  rw [linesD, show splA 32 [] (lnW ws) = ws from spl_ln hw, h, if_pos hc]
theorem line_field {k a : Nat} {ws : List (List UInt8)} {l : List Dc} {d0 d1 : Dc} (hk : kindOf (wd ws 0) = k) (h2 : 2 ≤ k) (ha : k - 2 = a ∨ (a < k - 2 ∧ 5 ≤ a)) (hf : fieldD k ws d0 = (0, d1)) : lineD ws ⟨l ++ [d0], a⟩ = (0, ⟨l ++ [d1], k - 1⟩) := by
  unfold lineD
  simp only [hk]
  rw [if_neg (by omega), if_neg (by simp; omega)]
  have hl : lastD (l ++ [d0]) = d0 := by simp [lastD]
  rw [hl, hf, List.dropLast_concat]
theorem str_self (s : ByteArray) : str s.data.toList = s := by obtain ⟨⟨l⟩⟩ := s; rfl
theorem dlen {n : Nat} (h : n < 10000) : (RnD.decOf n).length ≤ 4 := RnD.decOf_len_le (k := 3) h
theorem int_field {k : Nat} {key : List UInt8} {n : Int} {d : Dc} (hk : k = 2 ∨ k = 3 ∨ k = 5 ∨ k = 6 ∨ k = 8) (h0 : 0 ≤ n) (h1 : n ≤ mostK k) (h2 : n ≤ 999999999) : fieldD k [key, Lib.itoa n] d = (0, setK k n.toNat d) := by
  unfold fieldD integerD
  rw [if_neg (by omega), if_neg (by omega), if_neg (by simp), show wd [key, Lib.itoa n] 1 = Lib.itoa n from rfl, num_itoa h0 h2]
  dsimp only
  rw [if_neg (by omega)]
theorem amt_fmt {q : Rat} (h1 : nm q < 10000) (h2 : q.den < 10000) (h : ¬ sgnQ q < 0) : amtP (formatQ q) = (q, 0) := by
  have hp := parse_format q (by have := dlen h1; omega) (by have := dlen h2; omega)
  rw [PfC.amt_ok (by rw [hp]) (by rw [hp]; exact h), hp]
theorem line_first (x : List UInt8) (r : Rdr) : lineD [kProof, x] r = firstD [kProof, x] r := by
  unfold lineD
  exact if_pos (by show kindOf kProof = 1; decide)
theorem lines_doc {d : Dc} {l : List Dc} {a i : Nat} {rest : List (List UInt8)} (hg : Good d) (hc : l = [] ∨ 5 ≤ a) (hu : ∀ x ∈ l, x.id ≠ d.id) (hl : l.length < 64) :
    ∃ a', 5 ≤ a' ∧ linesD ((docWs d).map lnW ++ rest) i ⟨l, a⟩ = linesD rest (i + (docWs d).length) ⟨l ++ [d], a'⟩ := by
  have hgw := good_ws hg.chk
  obtain ⟨c1, c2, c3, c4, c5, c6, c7, c8, c9, c10, c11⟩ := check_all hg.chk
  obtain ⟨e1, e2, e3⟩ := enc_fix hg.v1
  obtain ⟨e4, e5, e6⟩ := enc_fix hg.v2
  have m1 := amt_fmt hg.n1 hg.n2 c5
  have m2 := amt_fmt hg.n3 hg.n4 c8
  have z : ¬ 0 < sgnQ d.rate → d.rate = 0 ∧ d.rfrom = 0 := fun h => by
    have h0 : sgnQ d.rate = 0 := by omega
    refine ⟨?_, c10 h0⟩
    rw [sgnQ_eq] at h0
    split at h0
    · rename_i h1; exact nm_zero.1 h1
    · split at h0 <;> omega
  change negB d.amt = d.neg at e1
  change encN d.amt = d.num.data.toList at e2
  change encD d.amt = d.den.data.toList at e3
  change negB d.rate = d.rneg at e4
  change encN d.rate = d.rnum.data.toList at e5
  change encD d.rate = d.rden.data.toList at e6
  have s1 : lineD [kProof, d.id.data.toList] ⟨l, a⟩ = (0, ⟨l ++ [newDc d.id], 0⟩) := by
    rw [line_first]
    unfold firstD
    rw [show wd [kProof, d.id.data.toList] 1 = d.id.data.toList from rfl, str_self, c1]
    rw [if_neg (by
      rw [not_or]
      refine ⟨by simp, ?_⟩
      unfold Rdr.complete
      rcases hc with rfl | h <;> simp [*]), if_neg (by simp)]
    rw [if_neg (by
      simp only [List.any_eq_true, decide_eq_true_eq, not_exists, not_and]
      exact fun x hx => hu x hx), if_neg (by show ¬ 64 ≤ l.length; omega)]
  have s2 : lineD [kEstate, Lib.itoa d.est] ⟨l ++ [newDc d.id], 0⟩ = (0, ⟨l ++ [setK 2 d.est.toNat (newDc d.id)], 1⟩) := line_field (k := 2) rfl (by omega) (.inl rfl) (int_field (by omega) c2.1 (by show _ ≤ 7; exact c2.2) (by omega))
  generalize hD1 : setK 2 d.est.toNat (newDc d.id) = D1 at s2
  have s3 : lineD [kCreditor, Lib.itoa d.cred] ⟨l ++ [D1], 1⟩ = (0, ⟨l ++ [setK 3 d.cred.toNat D1], 2⟩) := line_field (k := 3) rfl (by omega) (.inl rfl) (int_field (by omega) c3.1 (by show _ ≤ 31; exact c3.2) (by omega))
  generalize hD2 : setK 3 d.cred.toNat D1 = D2 at s3
  have s4 : lineD [kAmount, d.code.data.toList, formatQ d.amt] ⟨l ++ [D2], 2⟩ = (0, ⟨l ++ [{ D2 with code := d.code, neg := d.neg, num := d.num, den := d.den }], 3⟩) := by
    refine line_field (k := 4) rfl (by omega) (.inl rfl) ?_
    unfold fieldD amountD
    rw [if_pos rfl, if_neg (by simp), show wd [kAmount, d.code.data.toList, formatQ d.amt] 1 = d.code.data.toList from rfl, show wd [kAmount, d.code.data.toList, formatQ d.amt] 2 = formatQ d.amt from rfl, m1, c4, if_neg (by simp), if_neg (by simp), e1, e2, e3, str_self, str_self, str_self]
  generalize hD3 : ({ D2 with code := d.code, neg := d.neg, num := d.num, den := d.den } : Dc) = D3 at s4
  have s5 : lineD [kIncurred, Lib.itoa d.inc] ⟨l ++ [D3], 3⟩ = (0, ⟨l ++ [setK 5 d.inc.toNat D3], 4⟩) := line_field (k := 5) rfl (by omega) (.inl rfl) (int_field (by omega) c6.1 (by show _ ≤ 1048576; exact c6.2) (by omega))
  generalize hD4 : setK 5 d.inc.toNat D3 = D4 at s5
  have s6 : lineD [kRank, Lib.itoa d.rank] ⟨l ++ [D4], 4⟩ = (0, ⟨l ++ [setK 6 d.rank.toNat D4], 5⟩) := line_field (k := 6) rfl (by omega) (.inl rfl) (int_field (by omega) c7.1 (by show _ ≤ 7; exact c7.2) (by omega))
  generalize hD5 : setK 6 d.rank.toNat D4 = D5 at s6
  have hD5e : D5 = { d with rneg := false, rnum := ⟨#[]⟩, rden := ⟨#[]⟩, rfrom := 0, sec := -1 } := by
    subst hD5; subst hD4; subst hD3; subst hD2; subst hD1
    simp only [setK, newDc]
    simp only [show ¬ (3 : Nat) = 2 by decide, show ¬ (5 : Nat) = 2 by decide, show ¬ (5 : Nat) = 3 by decide, show ¬ (6 : Nat) = 2 by decide, show ¬ (6 : Nat) = 3 by decide, show ¬ (6 : Nat) = 5 by decide, if_true, if_false]
    rw [Int.toNat_of_nonneg c2.1, Int.toNat_of_nonneg c3.1, Int.toNat_of_nonneg c6.1, Int.toNat_of_nonneg c7.1]
  clear hD1 hD2 hD3 hD4 hD5
  have g : ∀ ws ∈ docWs d, GoodW ws := hgw
  have g1 := g [kProof, d.id.data.toList] (by simp [docWs])
  have g2 := g [kEstate, Lib.itoa d.est] (by simp [docWs])
  have g3 := g [kCreditor, Lib.itoa d.cred] (by simp [docWs])
  have g4 := g [kAmount, d.code.data.toList, formatQ d.amt] (by simp [docWs])
  have g5 := g [kIncurred, Lib.itoa d.inc] (by simp [docWs])
  have g6 := g [kRank, Lib.itoa d.rank] (by simp [docWs])
  by_cases hr : 0 < sgnQ d.rate
  · have g7 := g [kInterest, formatQ d.rate, kFrom, Lib.itoa d.rfrom] (by simp [docWs, hr])
    have s7 : lineD [kInterest, formatQ d.rate, kFrom, Lib.itoa d.rfrom] ⟨l ++ [D5], 5⟩ = (0, ⟨l ++ [{ d with sec := -1 }], 6⟩) := by
      refine line_field (k := 7) rfl (by omega) (.inl rfl) ?_
      unfold fieldD interestD
      rw [if_neg (by omega), if_pos rfl, if_neg (by rw [not_or]; exact ⟨by simp, by simp [wd]⟩), show wd [kInterest, formatQ d.rate, kFrom, Lib.itoa d.rfrom] 3 = Lib.itoa d.rfrom from rfl, show wd [kInterest, formatQ d.rate, kFrom, Lib.itoa d.rfrom] 1 = formatQ d.rate from rfl, num_itoa c9.1 (by omega), m2]
      dsimp only
      rw [if_neg (by simp), if_neg (by omega), e4, e5, e6, str_self, str_self, hD5e, Int.toNat_of_nonneg c9.1]
    by_cases hs : 0 ≤ d.sec
    · have g8 := g [kSecured, Lib.itoa d.sec] (by simp [docWs, hs])
      have s8 : lineD [kSecured, Lib.itoa d.sec] ⟨l ++ [{ d with sec := -1 }], 6⟩ = (0, ⟨l ++ [d], 7⟩) := by
        refine line_field (k := 8) rfl (by omega) (.inl rfl) ((int_field (by omega) hs (by show _ ≤ 7; exact c11.2) (by omega)).trans ?_)
        simp only [setK]
        simp only [show ¬ (8 : Nat) = 2 by decide, show ¬ (8 : Nat) = 3 by decide, show ¬ (8 : Nat) = 5 by decide, show ¬ (8 : Nat) = 6 by decide, if_false]
        rw [Int.toNat_of_nonneg hs]
      refine ⟨7, by omega, ?_⟩
      have e : docWs d = [[kProof, d.id.data.toList], [kEstate, Lib.itoa d.est], [kCreditor, Lib.itoa d.cred], [kAmount, d.code.data.toList, formatQ d.amt], [kIncurred, Lib.itoa d.inc], [kRank, Lib.itoa d.rank], [kInterest, formatQ d.rate, kFrom, Lib.itoa d.rfrom], [kSecured, Lib.itoa d.sec]] := by simp [docWs, hr, hs]
      rw [e]
      simp only [List.map_cons, List.map_nil, List.cons_append, List.nil_append, List.length_cons, List.length_nil]
      rw [line_step g1 s1, line_step g2 s2, line_step g3 s3, line_step g4 s4, line_step g5 s5, line_step g6 s6, line_step g7 s7, line_step g8 s8]
    · have hd : ({ d with sec := -1 } : Dc) = d := by
        obtain ⟨_, _, _, _, _, _, _, _, _, _, _, _, _, sec⟩ := d
        have : sec = -1 := by simp only at hs c11; omega
        subst this; rfl
      rw [hd] at s7
      refine ⟨6, by omega, ?_⟩
      have e : docWs d = [[kProof, d.id.data.toList], [kEstate, Lib.itoa d.est], [kCreditor, Lib.itoa d.cred], [kAmount, d.code.data.toList, formatQ d.amt], [kIncurred, Lib.itoa d.inc], [kRank, Lib.itoa d.rank], [kInterest, formatQ d.rate, kFrom, Lib.itoa d.rfrom]] := by simp [docWs, hr, hs]
      rw [e]
      simp only [List.map_cons, List.map_nil, List.cons_append, List.nil_append, List.length_cons, List.length_nil]
      rw [line_step g1 s1, line_step g2 s2, line_step g3 s3, line_step g4 s4, line_step g5 s5, line_step g6 s6, line_step g7 s7]
  · obtain ⟨z1, z2⟩ := z hr
    rw [z1] at e4 e5 e6
    have y1 : d.rneg = false := by rw [← e4]; decide
    have y2 : d.rnum = ⟨#[]⟩ := by rw [← str_self d.rnum, ← e5]; decide +kernel
    have y3 : d.rden = ⟨#[]⟩ := by rw [← str_self d.rden, ← e6]; decide +kernel
    have hD : D5 = { d with sec := -1 } := by
      rw [hD5e]
      obtain ⟨_, _, _, _, _, _, _, _, _, rneg, rnum, rden, rfrom, _⟩ := d
      simp only at y1 y2 y3 z2
      subst y1; subst y2; subst y3; subst z2; rfl
    rw [hD] at s6
    by_cases hs : 0 ≤ d.sec
    · have g8 := g [kSecured, Lib.itoa d.sec] (by simp [docWs, hs])
      have s8 : lineD [kSecured, Lib.itoa d.sec] ⟨l ++ [{ d with sec := -1 }], 5⟩ = (0, ⟨l ++ [d], 7⟩) := by
        refine line_field (k := 8) rfl (by omega) (.inr ⟨by omega, by omega⟩) ((int_field (by omega) hs (by show _ ≤ 7; exact c11.2) (by omega)).trans ?_)
        simp only [setK]
        simp only [show ¬ (8 : Nat) = 2 by decide, show ¬ (8 : Nat) = 3 by decide, show ¬ (8 : Nat) = 5 by decide, show ¬ (8 : Nat) = 6 by decide, if_false]
        rw [Int.toNat_of_nonneg hs]
      refine ⟨7, by omega, ?_⟩
      have e : docWs d = [[kProof, d.id.data.toList], [kEstate, Lib.itoa d.est], [kCreditor, Lib.itoa d.cred], [kAmount, d.code.data.toList, formatQ d.amt], [kIncurred, Lib.itoa d.inc], [kRank, Lib.itoa d.rank], [kSecured, Lib.itoa d.sec]] := by simp [docWs, hr, hs]
      rw [e]
      simp only [List.map_cons, List.map_nil, List.cons_append, List.nil_append, List.length_cons, List.length_nil]
      rw [line_step g1 s1, line_step g2 s2, line_step g3 s3, line_step g4 s4, line_step g5 s5, line_step g6 s6, line_step g8 s8]
    · have hd : ({ d with sec := -1 } : Dc) = d := by
        obtain ⟨_, _, _, _, _, _, _, _, _, _, _, _, _, sec⟩ := d
        have : sec = -1 := by simp only at hs c11; omega
        subst this; rfl
      rw [hd] at s6
      refine ⟨5, by omega, ?_⟩
      have e : docWs d = [[kProof, d.id.data.toList], [kEstate, Lib.itoa d.est], [kCreditor, Lib.itoa d.cred], [kAmount, d.code.data.toList, formatQ d.amt], [kIncurred, Lib.itoa d.inc], [kRank, Lib.itoa d.rank]] := by simp [docWs, hr, hs]
      rw [e]
      simp only [List.map_cons, List.map_nil, List.cons_append, List.nil_append, List.length_cons, List.length_nil]
      rw [line_step g1 s1, line_step g2 s2, line_step g3 s3, line_step g4 s4, line_step g5 s5, line_step g6 s6]
theorem lines_docs : ∀ (m : List Dc) (l : List Dc) (a i : Nat) (rest : List (List UInt8)), (∀ d ∈ m, Good d) → (l = [] ∨ 5 ≤ a) → ((l ++ m).map (·.id)).Nodup → l.length + m.length ≤ 64 →
    ∃ a', (l ++ m = [] ∨ 5 ≤ a') ∧ linesD ((m.flatMap docWs).map lnW ++ rest) i ⟨l, a⟩ = linesD rest (i + (m.flatMap docWs).length) ⟨l ++ m, a'⟩
  | [], l, a, i, rest, _, hc, _, _ => ⟨a, by simpa using hc, by simp⟩
  | d :: m, l, a, i, rest, hg, hc, hu, hn => by
    simp only [List.length_cons] at hn
    have hu1 : ∀ x ∈ l, x.id ≠ d.id := fun x hx e => by
      rw [List.map_append, List.nodup_append] at hu
      exact hu.2.2 x.id (List.mem_map_of_mem hx) d.id (by simp) e
    obtain ⟨a1, h1, h2⟩ := lines_doc (rest := (m.flatMap docWs).map lnW ++ rest) (i := i) (hg d (by simp)) hc hu1 (by omega)
    obtain ⟨a2, h3, h4⟩ := lines_docs m (l ++ [d]) a1 (i + (docWs d).length) rest (fun x hx => hg x (by simp [hx])) (.inr h1) (by simpa using hu) (by simp; omega)
    refine ⟨a2, by simpa using h3, ?_⟩
    rw [List.flatMap_cons, List.map_append, List.append_assoc, h2, h4, List.length_append, List.append_assoc, Nat.add_assoc]
    rfl
theorem all_ws {l : List Dc} (h : ∀ d ∈ l, Good d) : ∀ ws ∈ l.flatMap docWs, GoodW ws := fun ws hw => by
  obtain ⟨d, hd, hw⟩ := List.mem_flatMap.1 hw
  exact good_ws (h d hd).chk ws hw
theorem spl_docs {l : List Dc} (h : ∀ d ∈ l, Good d) : splA 10 [] (textD l) = (l.flatMap docWs).map lnW ++ [[]] := by
  have := spl_text (l.flatMap docWs) [] (all_ws h)
  rw [List.append_nil] at this
  rw [textD_eq, this]
  rfl
theorem count_docs {l : List Dc} (h : ∀ d ∈ l, Good d) : Lib.count (textD l) [10] = (l.flatMap docWs).length := by
  have := splA_count 10 _ (textD l) [] (Nat.le_refl _)
  rw [spl_docs h, List.length_append, List.length_map, List.length_singleton] at this
  omega
theorem parse_text {l : List Dc} (h : ∀ d ∈ l, Good d) (hu : (l.map (·.id)).Nodup) (hn : l.length ≤ 64) (h8 : (textD l).length ≤ 8192) (h5 : (l.flatMap docWs).length ≤ 512) : parseOf (textD l) = (l, 0, 0) := by
  obtain ⟨a', hc, hl⟩ := lines_docs l [] 0 0 [] h (.inl rfl) (by simpa using hu) (by simpa using hn)
  rw [List.append_nil] at hl
  rw [PfN.parse_open (spl_docs h), if_neg (by rw [not_or]; exact ⟨by omega, by rw [if_pos rfl, List.length_map]; omega⟩), hl]
  rw [PfN.lines_nil, if_neg (by simp), if_neg]
  · simp
  · rw [not_or]
    refine ⟨by simp, ?_⟩
    unfold Rdr.complete
    rcases hc with h | h <;> simp_all
/-- a line that stops the reader behind documents -/
theorem parse_stop {l m : List Dc} {d : Dc} {c : Int} (h : ∀ x ∈ l ++ d :: m, Good x) (hu : (l.map (·.id)).Nodup) (hn : l.length ≤ 64) (h8 : (textD (l ++ d :: m)).length ≤ 8192) (h5 : ((l ++ d :: m).flatMap docWs).length ≤ 512)
    (hs : ∀ a, (l = [] ∨ 5 ≤ a) → (lineD [kProof, d.id.data.toList] ⟨l, a⟩).1 = c) (hc : c ≠ 0) : parseOf (textD (l ++ d :: m)) = ([], (l.flatMap docWs).length + 1, c) := by
  have hd := h d (by simp)
  have e : ((l ++ d :: m).flatMap docWs).map lnW = (l.flatMap docWs).map lnW ++ (lnW [kProof, d.id.data.toList] :: ((docWs d).tail ++ m.flatMap docWs).map lnW) := by
    rw [List.flatMap_append, List.flatMap_cons, List.map_append]
    rfl
  obtain ⟨a', hca, hl⟩ := lines_docs l [] 0 0 (lnW [kProof, d.id.data.toList] :: ((docWs d).tail ++ m.flatMap docWs).map lnW) (fun x hx => h x (by simp [hx])) (.inl rfl) (by simpa using hu) (by simpa using hn)
  rw [List.nil_append] at hca hl
  rw [← e, line_stop (good_ws hd.chk _ (by simp [docWs])) (hs a' hca) hc] at hl
  rw [PfN.parse_open (spl_docs h), if_neg (by rw [not_or]; exact ⟨by omega, by rw [if_pos rfl, List.length_map]; omega⟩), hl, if_pos (by exact hc)]
  simp
theorem first_twice {l : List Dc} {a : Nat} {id : ByteArray} (hn : NmA.nmB id = true) (hc : l = [] ∨ 5 ≤ a) (hx : ∃ x ∈ l, x.id = id) : (lineD [kProof, id.data.toList] ⟨l, a⟩).1 = 12 := by
  rw [line_first]
  unfold firstD
  rw [show wd [kProof, id.data.toList] 1 = id.data.toList from rfl, str_self, hn]
  rw [if_neg (by
    rw [not_or]
    refine ⟨by simp, ?_⟩
    unfold Rdr.complete
    rcases hc with rfl | h <;> simp [*]), if_neg (by simp)]
  rw [if_pos (by
    simp only [List.any_eq_true, decide_eq_true_eq]
    exact hx)]
theorem first_long {l : List Dc} {a : Nat} {id : ByteArray} (hn : NmA.nmB id = true) (hc : l = [] ∨ 5 ≤ a) (hx : ∀ x ∈ l, x.id ≠ id) (h : 64 ≤ l.length) : (lineD [kProof, id.data.toList] ⟨l, a⟩).1 = 2 := by
  rw [line_first]
  unfold firstD
  rw [show wd [kProof, id.data.toList] 1 = id.data.toList from rfl, str_self, hn]
  rw [if_neg (by
    rw [not_or]
    refine ⟨by simp, ?_⟩
    unfold Rdr.complete
    rcases hc with rfl | h <;> simp [*]), if_neg (by simp)]
  rw [if_neg (by
    simp only [List.any_eq_true, decide_eq_true_eq, not_exists, not_and]
    exact hx), if_pos h]
theorem seen_iff {ids : List ByteArray} {s : ByteArray} : seenB ids s = true ↔ s ∈ ids := by
  unfold seenB
  rw [List.any_eq_true]
  constructor
  · rintro ⟨x, hx, e⟩
    rw [ByteArray.toList_eq, ByteArray.toList_eq, beq_iff_eq] at e
    have : x = s := by rw [← str_self x, ← str_self s, e]
    exact this ▸ hx
  · exact fun h => ⟨s, h, by simp⟩
theorem err_none : ∀ (l : List Dc) (ids : List ByteArray), (∀ d ∈ l, checkD d = 0) → (ids ++ l.map (·.id)).Nodup → errD ids l = 0
  | [], _, _, _ => rfl
  | d :: l, ids, h, hu => by
    rw [errD, if_neg (by rw [h d (by simp)]; simp), if_neg]
    · exact err_none l (ids ++ [d.id]) (fun x hx => h x (by simp [hx])) (by simpa using hu)
    · rw [seen_iff]
      intro hm
      rw [List.nodup_append] at hu
      exact hu.2.2 d.id hm d.id (by simp) rfl
theorem fmt_text {l : List Dc} (h : ∀ d ∈ l, Good d) (hu : (l.map (·.id)).Nodup) (hn : l.length ≤ 64) (h8 : (textD l).length ≤ 8192) (h5 : (l.flatMap docWs).length ≤ 512) : fmtD l = (textD l, 0) :=
  fmt_ok (by omega) (err_none l [] (fun d hd => (h d hd).chk) (by simpa using hu)) (by omega) (by rw [count_docs h]; omega)
/-- a document's text is short -/
theorem fmt_short {q : Rat} (h1 : nm q < 10000) (h2 : q.den < 10000) : (formatQ q).length ≤ 10 := by
  unfold formatQ
  have a := dlen h1
  have b := dlen h2
  rw [List.length_append, List.length_append]
  have c : (if negB q then [45] else [] : List UInt8).length ≤ 1 := by split <;> simp
  have d : (if q.den = 1 then [] else 47 :: RnD.decOf q.den : List UInt8).length ≤ 5 := by
    split
    · simp
    · rw [List.length_cons]; omega
  omega
theorem docs_short {d : Dc} (h : Good d) : (docL d).length ≤ 250 ∧ (docWs d).length ≤ 8 := by
  obtain ⟨c1, c2, c3, c4, c5, c6, c7, c8, c9, c10, c11⟩ := check_all h.chk
  have e1 : d.id.data.toList.length ≤ 32 := by rw [PfR.data_len]; exact nm_small c1
  have e2 := code_small c4
  have e3 := fmt_short h.n1 h.n2
  have e4 := fmt_short h.n3 h.n4
  have e5 := itoa_len c2.1 (by omega)
  have e6 := itoa_len c3.1 (by omega)
  have e7 := itoa_len c6.1 (by omega)
  have e8 := itoa_len c7.1 (by omega)
  have e9 := itoa_len c9.1 (by omega)
  have k1 : kProof.length = 5 := rfl
  have k2 : kEstate.length = 6 := rfl
  have k3 : kCreditor.length = 8 := rfl
  have k4 : kAmount.length = 6 := rfl
  have k5 : kIncurred.length = 8 := rfl
  have k6 : kRank.length = 4 := rfl
  constructor
  · unfold docL
    simp only [List.length_append, ln2, ln3]
    have a1 : (if 0 < sgnQ d.rate then ln [kInterest, formatQ d.rate, kFrom, Lib.itoa d.rfrom] else []).length ≤ 33 := by
      split
      · rw [ln4]; show 8 + _ + 4 + _ + 4 ≤ _; omega
      · simp
    have a2 : (if 0 ≤ d.sec then ln [kSecured, Lib.itoa d.sec] else []).length ≤ 16 := by
      split
      · rename_i hs
        have := itoa_len hs (by omega)
        rw [ln2]; show 7 + _ + 2 ≤ _; omega
      · simp
    omega
  · unfold docWs
    by_cases h1 : 0 < sgnQ d.rate <;> by_cases h2 : 0 ≤ d.sec <;> simp [h1, h2]
theorem text_short : ∀ (l : List Dc), (∀ d ∈ l, Good d) → (textD l).length ≤ 250 * l.length ∧ (l.flatMap docWs).length ≤ 8 * l.length
  | [], _ => by simp [textD]
  | d :: l, h => by
    have h1 := text_short l (fun x hx => h x (by simp [hx]))
    have h2 := docs_short (h d (by simp))
    unfold textD at h1 ⊢
    rw [List.flatMap_cons, List.flatMap_cons, List.length_append, List.length_append, List.length_cons]
    omega
end Go.Proofs.YtghbhchkdomfhaaGreatDoor.PfV
