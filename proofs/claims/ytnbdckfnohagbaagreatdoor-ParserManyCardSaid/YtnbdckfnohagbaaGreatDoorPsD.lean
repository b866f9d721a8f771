/- Plain: the lexer over lists, quick to reckon with; the texts of the law ParserMany. -/
import Derived.Test.YtnbdckfnohagbaaGreatDoorPX
namespace Go.Proofs.YtnbdckfnohagbaaGreatDoor.PsD
open Lx PqA PqS PqT PqU PqX RoL
def hd (r : List UInt8) : Int := ((r.getD 0 0).toNat : Int)
def lenW (p : Int → Bool) (r : List UInt8) : Nat := (r.takeWhile fun c => p (c.toNat : Int)).length
def numL (r : List UInt8) : Nat :=
  if 1 ≤ (r.drop (lenW isDigit r)).length ∧ (hd (r.drop (lenW isDigit r)) = 46 ∨ hd (r.drop (lenW isDigit r)) = 47) ∧ 1 ≤ lenW isDigit (r.drop (lenW isDigit r + 1)) then lenW isDigit r + 1 + lenW isDigit (r.drop (lenW isDigit r + 1)) else lenW isDigit r
def nextL (r : List UInt8) : Nat × Int :=
  if isLetter (hd r) then (lenW inName r, wordKind (str (r.take (lenW inName r))))
  else if isDigit (hd r) then (numL r, 2)
  else if isSign (hd r) then (1, 4)
  else (0, 0)
def stopsL (r : List UInt8) : Bool := !r.isEmpty && (isLetter (hd r) || hd r == 46 || hd r == 47)
def blankL : Nat → List UInt8 → Nat
  | 0, _ => 0
  | f + 1, r => if r.isEmpty then 0 else if isBlank (hd r) then 1 + blankL f r.tail else if hd r == 35 then lenW notLf r + blankL f (r.drop (lenW notLf r)) else 0
def lexL (n : Nat) : Nat → Nat → List UInt8 → List Tok → Res
  | 0, _, _, _ => ([], 0, 0)
  | f + 1, k, r, out =>
    if r.isEmpty then (out ++ [⟨5, ByteArray.empty, n⟩], 0, 0)
    else if (nextL r).2 = 0 then ([], k, 10)
    else if 2048 ≤ out.length ∨ (nextL r).2 = 1 ∧ 32 < (nextL r).1 then ([], k, 2)
    else if (nextL r).2 = 2 ∧ stopsL (r.drop (nextL r).1) = true then ([], k + (nextL r).1, 10)
    else lexL n f (k + (nextL r).1 + blankL (r.drop (nextL r).1).length (r.drop (nextL r).1)) ((r.drop (nextL r).1).drop (blankL (r.drop (nextL r).1).length (r.drop (nextL r).1))) (out ++ [⟨(nextL r).2, str (r.take (nextL r).1), k⟩])
section
variable {s : ByteArray} {k : Nat} {r : List UInt8}
theorem hd_eq (h : s.data.toList.drop k = r) : bt s k = hd r := by
  have := bt_drop s k 0
  rw [h] at this
  exact this
theorem skip_eq (h : s.data.toList.drop k = r) (p : Int → Bool) : skip p s k = k + lenW p r := by unfold skip lenW; rw [h]
theorem lenW_le (p : Int → Bool) (r : List UInt8) : lenW p r ≤ r.length := (List.takeWhile_sublist _).length_le
theorem drop_eq (h : s.data.toList.drop k = r) (j : Nat) : s.data.toList.drop (k + j) = r.drop j := by rw [← List.drop_drop, h]
theorem len_eq (h : s.data.toList.drop k = r) (hk : k ≤ s.size) : k + r.length = s.size := by
  have e := congrArg List.length h
  rw [List.length_drop, len_data] at e
  omega
theorem ext_eq (h : s.data.toList.drop k = r) {j : Nat} (hj : j ≤ r.length) : s.extract k (k + j) = str (r.take j) := by
  have := ext_drop (u := s) (p := k) (a := r.take j) (b := r.drop j) (by rw [h, List.take_append_drop])
  rw [List.length_take, Nat.min_eq_left hj] at this
  exact this
theorem num_eq (h : s.data.toList.drop k = r) (hk : k ≤ s.size) : number s k = k + numL r := by
  have hl := len_eq h hk
  have hw := lenW_le isDigit r
  have h1 := drop_eq h (lenW isDigit r)
  have h2 := drop_eq h (lenW isDigit r + 1)
  rw [← Nat.add_assoc] at h2
  unfold number numL
  dsimp only
  rw [skip_eq h, hd_eq h1, skip_eq h2, List.length_drop]
  by_cases hc : k + lenW isDigit r < s.size ∧ (hd (r.drop (lenW isDigit r)) = 46 ∨ hd (r.drop (lenW isDigit r)) = 47) ∧ k + lenW isDigit r + 1 < k + lenW isDigit r + 1 + lenW isDigit (r.drop (lenW isDigit r + 1))
  · rw [if_pos hc, if_pos ⟨by omega, hc.2.1, by omega⟩]
    omega
  · rw [if_neg hc, if_neg]
    intro hc2
    exact hc ⟨by omega, hc2.2.1, by omega⟩
theorem next_eq (h : s.data.toList.drop k = r) (hk : k ≤ s.size) : next s k = (k + (nextL r).1, (nextL r).2) := by
  have hw := lenW_le inName r
  unfold next nextL
  rw [hd_eq h, skip_eq h, num_eq h hk, ext_eq h hw]
  by_cases c1 : isLetter (hd r) = true
  · rw [if_pos c1, if_pos c1]
  · rw [if_neg c1, if_neg c1]
    by_cases c2 : isDigit (hd r) = true
    · rw [if_pos c2, if_pos c2]
    · rw [if_neg c2, if_neg c2]
      by_cases c3 : isSign (hd r) = true
      · rw [if_pos c3, if_pos c3]
      · rw [if_neg c3, if_neg c3]; rfl
theorem blankF_eq : ∀ (f k : Nat) (r : List UInt8), s.data.toList.drop k = r → k ≤ s.size → blankF s f k = k + blankL f r
  | 0, k, r, _, _ => rfl
  | f + 1, k, r, h, hk => by
    have hl := len_eq h hk
    simp only [blankF, blankL]
    rw [hd_eq h, skip_eq h]
    cases r with
    | nil =>
      have hlt : ¬ k < s.size := by simp at hl; omega
      rw [if_neg hlt]; rfl
    | cons c t =>
      have hlt : k < s.size := by simp at hl; omega
      have he : ¬ ((c :: t).isEmpty = true) := by simp
      rw [if_pos hlt, if_neg he]
      by_cases c1 : isBlank (hd (c :: t)) = true
      · rw [if_pos c1, if_pos c1, blankF_eq f (k + 1) t (drop_eq h 1) (by omega), List.tail_cons]
        omega
      · rw [if_neg c1, if_neg c1]
        by_cases c2 : (hd (c :: t) == 35) = true
        · have hw := lenW_le notLf (c :: t)
          rw [if_pos c2, if_pos c2, blankF_eq f (k + lenW notLf (c :: t)) _ (drop_eq h _) (by omega)]
          omega
        · rw [if_neg c2, if_neg c2]; rfl
theorem blanks_eq (h : s.data.toList.drop k = r) (hk : k ≤ s.size) : blanks s k = k + blankL r.length r := by
  have hl := len_eq h hk
  unfold blanks
  rw [show s.size - k = r.length by omega]
  exact blankF_eq _ _ _ h hk
theorem stops_eq (h : s.data.toList.drop k = r) (hk : k ≤ s.size) : stops s k = stopsL r := by
  have hl := len_eq h hk
  unfold stops stopsL
  rw [hd_eq h]
  cases r with
  | nil => rw [decide_eq_false (by simp at hl; omega)]; rfl
  | cons c t => rw [decide_eq_true (by simp at hl; omega)]; rfl
theorem blankL_le : ∀ (f : Nat) (r : List UInt8), blankL f r ≤ r.length
  | 0, r => Nat.zero_le _
  | f + 1, r => by
    simp only [blankL]
    cases r with
    | nil => simp
    | cons c t =>
      have he : ¬ ((c :: t).isEmpty = true) := by simp
      rw [if_neg he]
      split
      · have := blankL_le f t
        simp only [List.tail_cons, List.length_cons]; omega
      · split
        · have h1 := blankL_le f ((c :: t).drop (lenW notLf (c :: t)))
          rw [List.length_drop] at h1
          have h2 := lenW_le notLf (c :: t)
          omega
        · exact Nat.zero_le _
theorem nextL_le (r : List UInt8) (h : r ≠ []) : (nextL r).1 ≤ r.length := by
  have h0 : 1 ≤ r.length := List.length_pos_iff.2 h
  unfold nextL
  split
  · exact lenW_le _ _
  · split
    · unfold numL
      dsimp only
      split
      · have h1 := lenW_le isDigit (r.drop (lenW isDigit r + 1))
        rename_i hc
        have h2 := hc.1
        rw [List.length_drop] at h1 h2
        omega
      · exact lenW_le _ _
    · split
      · exact h0
      · exact Nat.zero_le _
theorem lexF_eq : ∀ (f k : Nat) (r : List UInt8) (out : List Tok), s.data.toList.drop k = r → k ≤ s.size → lexF s f k out = lexL s.size f k r out
  | 0, _, _, _, _, _ => rfl
  | f + 1, k, r, out, h, hk => by
    have hl := len_eq h hk
    simp only [lexF, lexL]
    cases r with
    | nil =>
      have hlt : ¬ k < s.size := by simp at hl; omega
      rw [if_neg hlt]; rfl
    | cons c t =>
      have hlt : k < s.size := by simp at hl; omega
      have hn := nextL_le (c :: t) (by simp)
      have he : ¬ ((c :: t).isEmpty = true) := by simp
      rw [if_pos hlt, if_neg he, next_eq h hk]
      generalize nextL (c :: t) = nx at *
      obtain ⟨d, kd⟩ := nx
      dsimp only at hn ⊢
      have hd1 := drop_eq h d
      have hk1 : k + d ≤ s.size := by omega
      by_cases c1 : kd = 0
      · rw [if_pos c1, if_pos c1]
      · rw [if_neg c1, if_neg c1, show k + d - k = d by omega]
        by_cases c2 : 2048 ≤ out.length ∨ kd = 1 ∧ 32 < d
        · rw [if_pos c2, if_pos c2]
        · rw [if_neg c2, if_neg c2, stops_eq hd1 hk1]
          by_cases c3 : kd = 2 ∧ stopsL ((c :: t).drop d) = true
          · rw [if_pos c3, if_pos c3]
          · rw [if_neg c3, if_neg c3, blanks_eq hd1 hk1, ext_eq h hn]
            have hb := blankL_le ((c :: t).drop d).length ((c :: t).drop d)
            have e : ((c :: t).drop d).length = (c :: t).length - d := List.length_drop
            rw [lexF_eq f _ _ _ (drop_eq hd1 _) (by omega)]
end
/-- Split, reckoned over the list of bytes -/
def lexQ (l : List UInt8) : Res := if 8192 < l.length then ([], 0, 2) else lexL l.length (l.length + 1) (blankL l.length l) (l.drop (blankL l.length l)) []
theorem lex_quick (l : List UInt8) : lex (st l) = lexQ l := by
  have hsz : (st l).size = l.length := st_size l
  unfold lex lexQ
  rw [hsz]
  by_cases h : 8192 < l.length
  · rw [if_pos h, if_pos h]
  · have h0 : (st l).data.toList.drop 0 = l := rfl
    have hb := blankL_le l.length l
    have h1 : (st l).data.toList.drop (blankL l.length l) = l.drop (blankL l.length l) := rfl
    rw [if_neg h, if_neg h, blanks_eq h0 (Nat.zero_le _), Nat.zero_add, lexF_eq _ _ _ _ h1 (by omega), hsz]
def parseQ' (l : List UInt8) : List Cl × Nat × Nat := if (lexQ l).2.2 = 0 then parseT (lexQ l).1 else ([], (lexQ l).2.1, (lexQ l).2.2.toNat)
theorem parse_quick (l : List UInt8) : parseOf (st l) = parseQ' l := by unfold parseOf parseQ'; rw [lex_quick]
def unitL : List UInt8 := [115, 117, 98, 111, 114, 100, 105, 110, 97, 116, 101, 32, 97, 59]
/-- the text of i clauses -/
def repT (i : Nat) : List UInt8 := (List.replicate i unitL).flatten
def x0 : Cl := ⟨4, ⟨#[97]⟩, ⟨#[]⟩, [], false, ⟨#[]⟩, ⟨#[]⟩, 0⟩
def clsT (m : Nat) : List UInt8 := [99, 108, 97, 115, 115, 32, 112, 32, 61, 32, 97] ++ (List.replicate (m - 1) [44, 97]).flatten ++ [59]
set_option maxHeartbeats 4000000 in
theorem quick_few : ∀ k < 65, 61 ≤ k → (parseQ' (repT k)).2 = (0, 0) ∧ (parseQ' (repT k)).1.length = k := by decide +kernel
set_option maxHeartbeats 4000000 in
theorem quick_more : ∀ k < 67, 65 ≤ k → (parseQ' (repT k)).2 = (896, 2) := by decide +kernel
set_option maxHeartbeats 4000000 in
theorem quick_class : ∀ m < 65, 1 ≤ m → (parseQ' (clsT m)).2 = if 32 < m then (74, 2) else (0, 0) := by decide +kernel
set_option maxHeartbeats 4000000 in
theorem quick_fmt : ∀ k < 67, 61 ≤ k → (fmtOf (List.replicate k x0)).2 = if 64 < k then 2 else 0 := by decide +kernel
end Go.Proofs.YtnbdckfnohagbaaGreatDoor.PsD
