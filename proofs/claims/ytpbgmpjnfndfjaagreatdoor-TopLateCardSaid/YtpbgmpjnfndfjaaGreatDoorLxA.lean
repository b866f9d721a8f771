/- The plain law of the lexer: what the functions of package lexer compute, as functions on a string's bytes. -/
import Derived.Below
import Derived.Lib.Strings
namespace Go.Proofs.YtpbgmpjnfndfjaaGreatDoor.Lx
theorem here : True := trivial
def isLetter (c : Int) : Bool := decide (97 ≤ c ∧ c ≤ 122 ∨ 65 ≤ c ∧ c ≤ 90)
def isDigit (c : Int) : Bool := decide (48 ≤ c ∧ c ≤ 57)
def inName (c : Int) : Bool := isLetter c || isDigit c || (c == 45) || (c == 95)
def notLf (c : Int) : Bool := c != 10
/-- the byte of a string at an offset; 0 behind its end -/
def bt (s : ByteArray) (i : Nat) : Int := ((s.data.toList.getD i 0).toNat : Int)
def skip (p : Int → Bool) (s : ByteArray) (i : Nat) : Nat := i + ((s.data.toList.drop i).takeWhile fun c => p (c.toNat : Int)).length

theorem bt_at (s : ByteArray) (i : Nat) (h : i < s.size) : ((s[i]'h).toNat : Int) = bt s i := by
  have h' : i < s.data.toList.length := by simpa using h
  unfold bt
  rw [List.getD_eq_getElem?_getD, List.getElem?_eq_getElem h']
  rfl
theorem bt_lo (s : ByteArray) (i : Nat) : 0 ≤ bt s i := by unfold bt; omega
theorem bt_hi (s : ByteArray) (i : Nat) : bt s i ≤ 255 := by
  unfold bt; have := (s.data.toList.getD i 0).toNat_lt; omega
theorem drop_at (s : ByteArray) (i : Nat) (h : i < s.size) : ∃ c : UInt8, s.data.toList.drop i = c :: s.data.toList.drop (i + 1) ∧ (c.toNat : Int) = bt s i := by
  have h' : i < s.data.toList.length := by simpa using h
  refine ⟨_, List.drop_eq_getElem_cons h', ?_⟩
  unfold bt
  rw [List.getD_eq_getElem?_getD, List.getElem?_eq_getElem h']
  rfl
section
variable {p : Int → Bool} {s : ByteArray} {i : Nat}
theorem skip_end (h : s.size ≤ i) : skip p s i = i := by
  have h' : s.data.toList.length ≤ i := by simpa using h
  unfold skip; rw [List.drop_eq_nil_of_le h']; simp
theorem skip_stop (h : p (bt s i) = false) : skip p s i = i := by
  rcases Nat.lt_or_ge i s.size with hi | hi
  · obtain ⟨c, hc, hb⟩ := drop_at s i hi
    unfold skip; rw [hc, List.takeWhile_cons, hb, h]; simp
  · exact skip_end hi
theorem skip_go (hi : i < s.size) (h : p (bt s i) = true) : skip p s i = skip p s (i + 1) := by
  obtain ⟨c, hc, hb⟩ := drop_at s i hi
  unfold skip; rw [hc, List.takeWhile_cons, hb, h]; simp; omega
theorem skip_ge : i ≤ skip p s i := by unfold skip; omega
theorem skip_le (h : i ≤ s.size) : skip p s i ≤ s.size := by
  unfold skip
  have h1 := (List.takeWhile_sublist (fun c : UInt8 => p (c.toNat : Int)) (l := s.data.toList.drop i)).length_le
  rw [List.length_drop] at h1
  have h2 : s.data.toList.length = s.size := by simp
  omega
theorem skip_rec (n : Nat) : ∀ i, s.size - i = n → (skip p s i < s.size → p (bt s (skip p s i)) = false) ∧ ∀ j, i ≤ j → j < skip p s i → p (bt s j) = true := by
  induction n with
  | zero =>
    intro i hi
    rw [skip_end (by omega)]
    exact ⟨fun h => by omega, fun j h1 h2 => by omega⟩
  | succ n ih =>
    intro i hi
    cases h : p (bt s i)
    · rw [skip_stop h]
      exact ⟨fun _ => h, fun j h1 h2 => by omega⟩
    · rw [skip_go (by omega) h]
      obtain ⟨h1, h2⟩ := ih (i + 1) (by omega)
      refine ⟨h1, fun j h3 h4 => ?_⟩
      rcases Nat.eq_or_lt_of_le h3 with rfl | h3
      · exact h
      · exact h2 j h3 h4
theorem skip_at (h : skip p s i < s.size) : p (bt s (skip p s i)) = false := (skip_rec _ i rfl).1 h
theorem skip_in {j : Nat} (h1 : i ≤ j) (h2 : j < skip p s i) : p (bt s j) = true := (skip_rec _ i rfl).2 j h1 h2
end
/-- is a string one of the four reserved words? -/
def resv (s : ByteArray) : Bool := s.toList == [99, 108, 97, 115, 115] || (s.toList == [98, 101, 102, 111, 114, 101] || (s.toList == [108, 105, 109, 105, 116] || s.toList == [115, 117, 98, 111, 114, 100, 105, 110, 97, 116, 101]))
def isBlank (c : Int) : Bool := c == 32 || (c == 9 || (c == 10 || c == 13))
def isSign (c : Int) : Bool := c == 61 || (c == 44 || c == 59)
def blankF (s : ByteArray) : Nat → Nat → Nat
  | 0, i => i
  | f + 1, i => if i < s.size then if isBlank (bt s i) then blankF s f (i + 1) else if bt s i == 35 then blankF s f (skip notLf s i) else i else i
/-- the offset after blanks and comments -/
def blanks (s : ByteArray) (i : Nat) : Nat := blankF s (s.size - i) i
section
variable {s : ByteArray} {i : Nat}
theorem skip_hash (hi : i < s.size) (h : (bt s i == 35) = true) : i + 1 ≤ skip notLf s i := by
  have h' : bt s i = 35 := by simpa using h
  rw [skip_go hi (by simp [notLf, h'])]
  exact skip_ge
theorem blankF_more (f : Nat) : ∀ i g, s.size - i ≤ f → f ≤ g → blankF s g i = blankF s f i := by
  induction f with
  | zero =>
    intro i g h1 _
    cases g with
    | zero => rfl
    | succ g => simp [blankF, show ¬ i < s.size by omega]
  | succ f ih =>
    intro i g h1 h2
    cases g with
    | zero => omega
    | succ g =>
      simp only [blankF]
      by_cases hi : i < s.size
      · rw [if_pos hi, if_pos hi, ih (i + 1) g (by omega) (by omega)]
        by_cases h : (bt s i == 35) = true
        · have := skip_hash hi h
          rw [ih (skip notLf s i) g (by omega) (by omega)]
        · rw [if_neg h, if_neg h]
      · rw [if_neg hi, if_neg hi]
theorem blank_end (h : s.size ≤ i) : blanks s i = i := by
  unfold blanks; rw [show s.size - i = 0 by omega]; rfl
theorem blank_sp (hi : i < s.size) (h : isBlank (bt s i) = true) : blanks s i = blanks s (i + 1) := by
  unfold blanks
  obtain ⟨n, hn⟩ : ∃ n, s.size - i = n + 1 := ⟨s.size - i - 1, by omega⟩
  rw [hn]
  simp only [blankF]
  rw [if_pos hi, if_pos h, blankF_more (s.size - (i + 1)) _ n (Nat.le_refl _) (by omega)]
theorem blank_hash (hi : i < s.size) (h : (bt s i == 35) = true) : blanks s i = blanks s (skip notLf s i) := by
  have hs := skip_hash hi h
  have h' : bt s i = 35 := by simpa using h
  unfold blanks
  obtain ⟨n, hn⟩ : ∃ n, s.size - i = n + 1 := ⟨s.size - i - 1, by omega⟩
  rw [hn]
  simp only [blankF]
  rw [if_pos hi, if_neg (by simp [isBlank, h']), if_pos h, blankF_more (s.size - (skip notLf s i)) _ n (Nat.le_refl _) (by omega)]
theorem blank_stop (h1 : isBlank (bt s i) = false) (h2 : (bt s i == 35) = false) : blanks s i = i := by
  unfold blanks
  cases s.size - i with
  | zero => rfl
  | succ n => simp [blankF, h1, h2]
theorem blank_rec (n : Nat) : ∀ i, s.size - i ≤ n → i ≤ s.size → i ≤ blanks s i ∧ blanks s i ≤ s.size ∧ (blanks s i < s.size → isBlank (bt s (blanks s i)) = false ∧ (bt s (blanks s i) == 35) = false) := by
  induction n with
  | zero =>
    intro i h1 h2
    rw [blank_end (by omega)]
    exact ⟨by omega, by omega, fun h => by omega⟩
  | succ n ih =>
    intro i h1 h2
    rcases Nat.lt_or_ge i s.size with hi | hi
    · cases hb : isBlank (bt s i)
      · cases hh : (bt s i == 35)
        · rw [blank_stop hb hh]
          exact ⟨by omega, by omega, fun _ => ⟨hb, hh⟩⟩
        · have h3 := skip_hash hi hh
          have h4 : skip notLf s i ≤ s.size := skip_le h2
          obtain ⟨a, b, c⟩ := ih (skip notLf s i) (by omega) h4
          rw [blank_hash hi hh]
          exact ⟨by omega, b, c⟩
      · obtain ⟨a, b, c⟩ := ih (i + 1) (by omega) (by omega)
        rw [blank_sp hi hb]
        exact ⟨by omega, b, c⟩
    · rw [blank_end hi]
      exact ⟨by omega, by omega, fun h => by omega⟩
theorem blank_ge (h : i ≤ s.size) : i ≤ blanks s i := (blank_rec _ i (Nat.le_refl _) h).1
theorem blank_le (h : i ≤ s.size) : blanks s i ≤ s.size := (blank_rec _ i (Nat.le_refl _) h).2.1
theorem blank_at (h : i ≤ s.size) (hb : blanks s i < s.size) : isBlank (bt s (blanks s i)) = false ∧ (bt s (blanks s i) == 35) = false := (blank_rec _ i (Nat.le_refl _) h).2.2 hb
end
/-- the end of the number that begins at an offset -/
def number (s : ByteArray) (i : Nat) : Nat :=
  let e := skip isDigit s i
  if e < s.size ∧ (bt s e = 46 ∨ bt s e = 47) ∧ e + 1 < skip isDigit s (e + 1) then skip isDigit s (e + 1) else e
theorem number_ge {s : ByteArray} {i : Nat} : skip isDigit s i ≤ number s i := by
  unfold number; dsimp only; split <;> omega
theorem number_le {s : ByteArray} {i : Nat} (h : i ≤ s.size) : number s i ≤ s.size := by
  have h1 : skip isDigit s i ≤ s.size := skip_le h
  unfold number; dsimp only; split
  · rename_i h2; exact skip_le (by omega)
  · exact h1
theorem number_no1 {s : ByteArray} {i : Nat} (h : s.size ≤ skip isDigit s i) : number s i = skip isDigit s i := by
  unfold number; dsimp only; rw [if_neg]; intro h'; omega
theorem number_no2 {s : ByteArray} {i : Nat} (h1 : (bt s (skip isDigit s i) == 46) = false) (h2 : (bt s (skip isDigit s i) == 47) = false) : number s i = skip isDigit s i := by
  unfold number; dsimp only; rw [if_neg]; simp at h1 h2; intro h'; omega
theorem number_no3 {s : ByteArray} {i : Nat} (h : ¬ skip isDigit s i + 1 < skip isDigit s (skip isDigit s i + 1)) : number s i = skip isDigit s i := by
  unfold number; dsimp only; rw [if_neg]; intro h'; omega
theorem number_yes {s : ByteArray} {i : Nat} (h0 : skip isDigit s i < s.size) (h1 : (bt s (skip isDigit s i) == 46) = true ∨ (bt s (skip isDigit s i) == 47) = true)
    (h : skip isDigit s i + 1 < skip isDigit s (skip isDigit s i + 1)) : number s i = skip isDigit s (skip isDigit s i + 1) := by
  simp at h1
  unfold number; dsimp only; rw [if_pos]; exact ⟨h0, h1, h⟩
theorem number_eq {s : ByteArray} {i e r : Nat} (he : skip isDigit s i = e) (hr : skip isDigit s (e + 1) = r) (hlt : e < s.size) :
    number s i = if (bt s e == 46) = false ∧ (bt s e == 47) = false then e else if e + 1 < r then r else e := by
  subst he; subst hr
  by_cases h : (bt s (skip isDigit s i) == 46) = false ∧ (bt s (skip isDigit s i) == 47) = false
  · rw [if_pos h]; exact number_no2 h.1 h.2
  · rw [if_neg h]
    by_cases h3 : skip isDigit s i + 1 < skip isDigit s (skip isDigit s i + 1)
    · rw [if_pos h3]
      refine number_yes hlt ?_ h3
      cases h1 : (bt s (skip isDigit s i) == 46) <;> cases h2 : (bt s (skip isDigit s i) == 47) <;> simp_all
    · rw [if_neg h3]; exact number_no3 h3
/-- a token: its kind, its text and its offset -/
structure Tok where
  kind : Int
  text : ByteArray
  off : Nat
def Tok.vals (t : Tok) : List Value := [.int .i64 t.kind, .string t.text, .int .i64 t.off]
def vals (l : List Tok) : List Value := l.flatMap Tok.vals
theorem vals_snoc (l : List Tok) (t : Tok) : vals (l ++ [t]) = vals l ++ t.vals := by simp [vals]
theorem vals_length (l : List Tok) : (vals l).length = l.length * 3 := by
  unfold vals
  induction l with
  | nil => rfl
  | cons a l ih => simp [List.flatMap_cons, Tok.vals, ih] at *; omega
/-- the kind of the token with the text of a name or a word -/
def wordKind (t : ByteArray) : Int := if resv t then 3 else 1
/-- the end and the kind of the token that begins at an offset; kind 0: none begins there -/
def next (s : ByteArray) (i : Nat) : Nat × Int :=
  if isLetter (bt s i) then (skip inName s i, wordKind (s.extract i (skip inName s i)))
  else if isDigit (bt s i) then (number s i, 2)
  else if isSign (bt s i) then (i + 1, 4)
  else (i, 0)
def stops (s : ByteArray) (e : Nat) : Bool := decide (e < s.size) && (isLetter (bt s e) || bt s e == 46 || bt s e == 47)
abbrev Res := List Tok × Nat × Int
def lexF (s : ByteArray) : Nat → Nat → List Tok → Res
  | 0, _, _ => ([], 0, 0)
  | f + 1, i, out =>
    if i < s.size then
      if (next s i).2 = 0 then ([], i, 10)
      else if 2048 ≤ out.length ∨ (next s i).2 = 1 ∧ 32 < (next s i).1 - i then ([], i, 2)
      else if (next s i).2 = 2 ∧ stops s (next s i).1 = true then ([], (next s i).1, 10)
      else lexF s f (blanks s (next s i).1) (out ++ [⟨(next s i).2, s.extract i (next s i).1, i⟩])
    else (out ++ [⟨5, ByteArray.empty, s.size⟩], 0, 0)
/-- what Split returns: the tokens, the offset of the error, the error -/
def lex (s : ByteArray) : Res := if 8192 < s.size then ([], 0, 2) else lexF s (s.size + 1) (blanks s 0) []
section
variable {s : ByteArray} {f k n : Nat} {out : List Tok} {kd : Int}
theorem lex_bad (hk : k < s.size) (hf : s.size < k + f) (h : (next s k).2 = 0) : lexF s f k out = ([], k, 10) := by
  cases f with
  | zero => omega
  | succ f => simp only [lexF]; rw [if_pos hk, if_pos h]
theorem lex_long (hk : k < s.size) (hf : s.size < k + f) (h : next s k = (n, kd)) (h0 : kd ≠ 0) (h1 : 2048 ≤ out.length ∨ kd = 1 ∧ 32 < n - k) : lexF s f k out = ([], k, 2) := by
  cases f with
  | zero => omega
  | succ f => simp only [lexF]; rw [if_pos hk, h, if_neg h0, if_pos h1]
theorem lex_num (hk : k < s.size) (hf : s.size < k + f) (h : next s k = (n, kd)) (h0 : kd ≠ 0) (h1 : ¬ (2048 ≤ out.length ∨ kd = 1 ∧ 32 < n - k)) (h2 : kd = 2 ∧ stops s n = true) : lexF s f k out = ([], n, 10) := by
  cases f with
  | zero => omega
  | succ f => simp only [lexF]; rw [if_pos hk, h, if_neg h0, if_neg h1, if_pos h2]
theorem lex_step (hk : k < s.size) (hf : s.size < k + f) (h : next s k = (n, kd)) (h0 : kd ≠ 0) (h1 : ¬ (2048 ≤ out.length ∨ kd = 1 ∧ 32 < n - k)) (h2 : ¬ (kd = 2 ∧ stops s n = true)) :
    lexF s f k out = lexF s (f - 1) (blanks s n) (out ++ [⟨kd, s.extract k n, k⟩]) := by
  cases f with
  | zero => omega
  | succ f => simp only [lexF]; rw [if_pos hk, h, if_neg h0, if_neg h1, if_neg h2]; rfl
theorem lex_end (hk : s.size ≤ k) (hf : s.size < k + f) (hk' : k ≤ s.size) : lexF s f k out = (out ++ [⟨5, ByteArray.empty, s.size⟩], 0, 0) := by
  cases f with
  | zero => omega
  | succ f => simp only [lexF]; rw [if_neg (by omega)]
end
def longB (l : Nat) (kd : Int) (d : Nat) : Bool := decide (2048 ≤ l ∨ kd = 1 ∧ 32 < d)
def numB (kd : Int) (s : ByteArray) (n : Nat) : Bool := decide (kd = 2 ∧ stops s n = true)
theorem sign_not {c : Int} (h : isSign c = true) : isLetter c = false ∧ isDigit c = false := by
  simp only [isSign, Bool.or_eq_true, beq_iff_eq] at h
  unfold isLetter isDigit
  constructor <;> (apply decide_eq_false; omega)
theorem digit_not {c : Int} (h : isDigit c = true) : isLetter c = false := by
  have h := of_decide_eq_true h
  unfold isLetter
  apply decide_eq_false; omega
def zeroTok : Tok := ⟨0, ⟨#[]⟩, 0⟩
/-- what the reference's token returns -/
def tokR (s : ByteArray) (i : Nat) : Tok × Nat × Int :=
  if (next s i).2 = 0 then (zeroTok, i, 10)
  else if ((next s i).2 ≠ 2 ∧ (next s i).2 ≠ 4) ∧ 32 < (next s i).1 - i then (zeroTok, i, 2)
  else if (next s i).2 = 2 ∧ stops s (next s i).1 = true then (zeroTok, (next s i).1, 10)
  else (⟨(next s i).2, s.extract i (next s i).1, i⟩, (next s i).1, 0)
def moreB (s : ByteArray) (e : Nat) : Bool := decide (e + 1 < s.size) && ((bt s e == 46 || bt s e == 47) && isDigit (bt s (e + 1)))
theorem more_lt {s : ByteArray} {e : Nat} (h : moreB s e = true) : e + 1 < s.size := by
  simp only [moreB, Bool.and_eq_true, decide_eq_true_eq] at h; exact h.1
section
variable {s : ByteArray} {i n e : Nat}
theorem number_more (_hi : i ≤ s.size) (he : skip isDigit s i = e) (h : moreB s e = true) : number s i = skip isDigit s (e + 1) := by
  simp only [moreB, Bool.and_eq_true, Bool.or_eq_true, decide_eq_true_eq] at h
  subst he
  have hg : skip isDigit s i + 1 + 1 ≤ skip isDigit s (skip isDigit s i + 1) := by rw [skip_go h.1 h.2.2]; exact skip_ge
  exact number_yes (by omega) h.2.1 (by omega)
theorem number_less (_hi : i ≤ s.size) (he : skip isDigit s i = e) (h : moreB s e = false) : number s i = e := by
  subst he
  by_cases h1 : skip isDigit s i < s.size
  · by_cases h4 : (bt s (skip isDigit s i) == 46) = false ∧ (bt s (skip isDigit s i) == 47) = false
    · exact number_no2 h4.1 h4.2
    · refine number_no3 ?_
      by_cases h2 : skip isDigit s i + 1 < s.size
      · have h5 : isDigit (bt s (skip isDigit s i + 1)) = false := by
          cases h6 : isDigit (bt s (skip isDigit s i + 1))
          · rfl
          · exfalso
            have : moreB s (skip isDigit s i) = true := by
              cases h7 : (bt s (skip isDigit s i) == 46) <;> cases h8 : (bt s (skip isDigit s i) == 47) <;> simp_all [moreB]
            rw [this] at h; cases h
        rw [skip_stop h5]; omega
      · have : skip isDigit s (skip isDigit s i + 1) ≤ s.size := skip_le (by omega)
        omega
  · exact number_no1 (by omega)
theorem tokR_sign (h : isSign (bt s i) = true) : tokR s i = (⟨4, s.extract i (i + 1), i⟩, i + 1, 0) := by
  have hn : next s i = (i + 1, 4) := by simp [next, (sign_not h).1, (sign_not h).2, h]
  unfold tokR; rw [hn]; simp
theorem tokR_stop (hd : isDigit (bt s i) = true) (hn : number s i = n) (h : stops s n = true) : tokR s i = (zeroTok, n, 10) := by
  have hx : next s i = (n, 2) := by simp [next, digit_not hd, hd, hn]
  unfold tokR; rw [hx]; simp [h]
theorem tokR_num (hd : isDigit (bt s i) = true) (hn : number s i = n) (h : stops s n = false) : tokR s i = (⟨2, s.extract i n, i⟩, n, 0) := by
  have hx : next s i = (n, 2) := by simp [next, digit_not hd, hd, hn]
  unfold tokR; rw [hx]; simp [h]
theorem wordKind_cases (t : ByteArray) : wordKind t = 1 ∨ wordKind t = 3 := by unfold wordKind; split <;> simp
theorem tokR_long (hl : isLetter (bt s i) = true) (hn : skip inName s i = n) (h : 32 < n - i) : tokR s i = (zeroTok, i, 2) := by
  have hx : next s i = (n, wordKind (s.extract i n)) := by simp [next, hl, hn]
  unfold tokR; rw [hx]
  rcases wordKind_cases (s.extract i n) with e | e <;> rw [e] <;> simp [h]
theorem tokR_word (hl : isLetter (bt s i) = true) (hn : skip inName s i = n) (h : ¬ 32 < n - i) : tokR s i = (⟨wordKind (s.extract i n), s.extract i n, i⟩, n, 0) := by
  have hx : next s i = (n, wordKind (s.extract i n)) := by simp [next, hl, hn]
  unfold tokR; rw [hx]
  rcases wordKind_cases (s.extract i n) with e | e <;> rw [e] <;> simp [h]
theorem tokR_none (hl : isLetter (bt s i) = false) (hd : isDigit (bt s i) = false) (h : isSign (bt s i) = false) : tokR s i = (zeroTok, i, 10) := by
  have hx : next s i = (i, 0) := by simp [next, hl, hd, h]
  unfold tokR; rw [hx]; simp
end
theorem resv_size {t : ByteArray} (h : resv t = true) : t.size ≤ 11 := by
  have e : t.toList.length = t.size := by rw [Lib.toList_data]; simp
  simp only [resv, Bool.or_eq_true, beq_iff_eq] at h
  rcases h with h | h | h | h <;> rw [h] at e <;> simp at e <;> omega
theorem next_cases (s : ByteArray) (k : Nat) (hk : k < s.size) :
    ((next s k).2 = 0 ∧ (next s k).1 = k) ∨ (k + 1 ≤ (next s k).1 ∧ (next s k).1 ≤ s.size ∧ ((next s k).2 = 1 ∨ (next s k).2 = 2 ∨ (next s k).2 = 4 ∨ (next s k).2 = 3 ∧ (next s k).1 - k ≤ 11)) := by
  unfold next
  have hle : skip inName s k ≤ s.size := skip_le (by omega)
  by_cases h1 : isLetter (bt s k) = true
  · rw [if_pos h1]
    have hge : k + 1 ≤ skip inName s k := by rw [skip_go hk (by simp [inName, h1])]; exact skip_ge
    refine .inr ⟨hge, hle, ?_⟩
    dsimp only
    unfold wordKind
    by_cases h2 : resv (s.extract k (skip inName s k)) = true
    · have := resv_size h2
      rw [ByteArray.size_extract] at this
      rw [if_pos h2]; right; right; right
      exact ⟨rfl, by omega⟩
    · rw [if_neg h2]; left; rfl
  · rw [if_neg h1]
    by_cases h2 : isDigit (bt s k) = true
    · rw [if_pos h2]
      have hge : k + 1 ≤ skip isDigit s k := by rw [skip_go hk h2]; exact skip_ge
      have hge2 : skip isDigit s k ≤ number s k := number_ge
      exact .inr ⟨by dsimp only; omega, number_le (by omega), .inr (.inl rfl)⟩
    · rw [if_neg h2]
      by_cases h3 : isSign (bt s k) = true
      · rw [if_pos h3]; exact .inr ⟨Nat.le_refl _, by dsimp only; omega, .inr (.inr (.inl rfl))⟩
      · rw [if_neg h3]; exact .inl ⟨rfl, rfl⟩
section
variable {s : ByteArray} {f k n : Nat} {out : List Tok} {t : Tok} {er : Int}
theorem lexR_err1 (hk : k < s.size) (hf : s.size < k + f) (h : tokR s k = (t, n, er)) (_h0 : er ≠ 0) (h1 : 2048 ≤ out.length) (h2 : k < n) : lexF s f k out = ([], k, 2) := by
  obtain ⟨m, kd, hn⟩ : ∃ m kd, next s k = (m, kd) := ⟨_, _, rfl⟩
  have hc := next_cases s k hk
  unfold tokR at h
  rw [hn] at h hc
  by_cases hz : kd = 0
  · rw [if_pos hz] at h
    simp only [Prod.mk.injEq] at h; omega
  · exact lex_long hk hf hn hz (.inl h1)
theorem lexR_err2 (hk : k < s.size) (hf : s.size < k + f) (h : tokR s k = (t, n, er)) (h0 : er ≠ 0) (h1 : ¬ (2048 ≤ out.length ∧ k < n)) : lexF s f k out = ([], n, er) := by
  obtain ⟨m, kd, hn⟩ : ∃ m kd, next s k = (m, kd) := ⟨_, _, rfl⟩
  have hc := next_cases s k hk
  unfold tokR at h
  rw [hn] at h hc
  dsimp only at h hc
  by_cases hz : kd = 0
  · rw [if_pos hz] at h
    simp only [Prod.mk.injEq] at h
    rw [lex_bad hk hf (by rw [hn]; exact hz), ← h.2.1, ← h.2.2]
  · rw [if_neg hz] at h
    by_cases ha : (kd ≠ 2 ∧ kd ≠ 4) ∧ 32 < m - k
    · rw [if_pos ha] at h
      simp only [Prod.mk.injEq] at h
      rw [lex_long hk hf hn hz (.inr (by omega)), ← h.2.1, ← h.2.2]
    · rw [if_neg ha] at h
      by_cases hb : kd = 2 ∧ stops s m = true
      · rw [if_pos hb] at h
        simp only [Prod.mk.injEq] at h
        rw [lex_num hk hf hn hz (by omega) hb, ← h.2.1, ← h.2.2]
      · rw [if_neg hb] at h
        simp only [Prod.mk.injEq] at h
        omega
theorem lexR_ok1 (hk : k < s.size) (hf : s.size < k + f) (h : tokR s k = (t, n, er)) (h0 : er = 0) (h1 : 2048 ≤ out.length) : lexF s f k out = ([], k, 2) := by
  obtain ⟨m, kd, hn⟩ : ∃ m kd, next s k = (m, kd) := ⟨_, _, rfl⟩
  unfold tokR at h
  rw [hn] at h
  by_cases hz : kd = 0
  · rw [if_pos hz] at h
    simp only [Prod.mk.injEq] at h; omega
  · exact lex_long hk hf hn hz (.inl h1)
theorem lexR_ok2 (hk : k < s.size) (hf : s.size < k + f) (h : tokR s k = (t, n, er)) (h0 : er = 0) (h1 : ¬ 2048 ≤ out.length) :
    lexF s f k out = lexF s (f - 1) (blanks s n) (out ++ [t]) ∧ k + 1 ≤ n ∧ n ≤ s.size := by
  obtain ⟨m, kd, hn⟩ : ∃ m kd, next s k = (m, kd) := ⟨_, _, rfl⟩
  have hc := next_cases s k hk
  unfold tokR at h
  rw [hn] at h hc
  dsimp only at h hc
  by_cases hz : kd = 0
  · rw [if_pos hz] at h
    simp only [Prod.mk.injEq] at h; omega
  · rw [if_neg hz] at h
    by_cases ha : (kd ≠ 2 ∧ kd ≠ 4) ∧ 32 < m - k
    · rw [if_pos ha] at h
      simp only [Prod.mk.injEq] at h; omega
    · rw [if_neg ha] at h
      by_cases hb : kd = 2 ∧ stops s m = true
      · rw [if_pos hb] at h
        simp only [Prod.mk.injEq] at h; omega
      · rw [if_neg hb] at h
        simp only [Prod.mk.injEq] at h
        obtain ⟨rfl, rfl, _⟩ := h
        exact ⟨lex_step hk hf hn hz (by omega) hb, by omega, by omega⟩
end
end Go.Proofs.YtpbgmpjnfndfjaaGreatDoor.Lx
