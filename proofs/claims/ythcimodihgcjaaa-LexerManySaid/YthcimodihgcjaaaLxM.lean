/- The plain law of LexerAgain: the tokens, written with spaces between them, split into the same tokens again. -/
import Derived.Test.YthcimodihgcjaaaLxA
namespace Go.Proofs.Ythcimodihgcjaaa.LxM
open Lx
theorem bt_list (s : ByteArray) (i : Nat) : bt s i = ((s.data.toList.getD i 0).toNat : Int) := rfl
theorem bt_drop (s : ByteArray) (p j : Nat) : bt s (p + j) = (((s.data.toList.drop p).getD j 0).toNat : Int) := by
  rw [bt_list, List.getD_eq_getElem?_getD, List.getD_eq_getElem?_getD, List.getElem?_drop]
theorem list_len (s : ByteArray) : s.data.toList.length = s.size := by simp
/-- at p the text x stands in u, and a space behind it -/
def Win (x u : ByteArray) (p : Nat) : Prop := ∃ rest, u.data.toList.drop p = x.data.toList ++ 32 :: rest
section
variable {x u s : ByteArray} {p j k n d : Nat} {q : Int → Bool}
theorem Win.bt (h : Win x u p) (hj : j < x.size) : bt u (p + j) = bt x j := by
  obtain ⟨r, h⟩ := h
  rw [bt_drop, h, bt_list, List.getD_eq_getElem?_getD, List.getD_eq_getElem?_getD, List.getElem?_append_left (by rw [list_len]; exact hj)]
theorem Win.sp (h : Win x u p) : Lx.bt u (p + x.size) = 32 := by
  obtain ⟨r, h⟩ := h
  rw [bt_drop, h, List.getD_eq_getElem?_getD, List.getElem?_append_right (by rw [list_len]; omega), list_len]
  simp
theorem Win.lt (h : Win x u p) : p + x.size < u.size := by
  obtain ⟨r, h⟩ := h
  have e := congrArg List.length h
  rw [List.length_drop, List.length_append, list_len, list_len, List.length_cons] at e
  omega
theorem Win.ext (h : Win x u p) : u.extract p (p + x.size) = x := by
  obtain ⟨r, h⟩ := h
  have e := Lib.extract_data u p (p + x.size)
  rw [h, show p + x.size - p = x.data.toList.length by rw [list_len]; omega, List.take_left] at e
  obtain ⟨⟨l⟩⟩ := x
  generalize u.extract p _ = y at e
  obtain ⟨⟨m⟩⟩ := y
  simp only at e
  rw [e]
theorem Win.next (h : Win x u p) : u.data.toList.drop (p + x.size + 1) = (u.data.toList.drop p).drop (x.size + 1) := by
  rw [List.drop_drop, Nat.add_assoc]
theorem bt_extract (hj : k + j < n) (hn : n ≤ s.size) : bt (s.extract k n) j = bt s (k + j) := by
  rw [bt_list, Lib.extract_data, bt_drop, List.getD_eq_getElem?_getD, List.getD_eq_getElem?_getD, List.getElem?_take, if_pos (by omega)]
/-- where two strings agree on a window, a skip that does not take what follows ends at the same place -/
theorem skip_win (d : Nat) : ∀ k p, skip q s k = k + d → (∀ j, j < d → bt u (p + j) = bt s (k + j)) → q (bt u (p + d)) = false → p + d ≤ u.size → skip q u p = p + d := by
  induction d with
  | zero =>
    intro k p h _ h1 _
    exact skip_stop (by simpa using h1)
  | succ d ih =>
    intro k p h hw h1 h2
    have hk : k < s.size := by
      rcases Nat.lt_or_ge k s.size with hlt | hge
      · exact hlt
      · rw [skip_end hge] at h; omega
    have hqk : q (bt s k) = true := by
      cases hc : q (bt s k)
      · rw [skip_stop hc] at h; omega
      · rfl
    rw [skip_go hk hqk] at h
    have h0 : bt u p = bt s k := by simpa using hw 0 (by omega)
    rw [skip_go (by omega) (by rw [h0]; exact hqk)]
    have := ih (k + 1) (p + 1) (by omega) (fun j hj => by rw [show p + 1 + j = p + (j + 1) by omega, show k + 1 + j = k + (j + 1) by omega]; exact hw (j + 1) (by omega)) (by rw [show p + 1 + d = p + (d + 1) by omega]; exact h1) (by omega)
    omega
theorem number_win (hk : k < s.size) (hd : isDigit (bt s k) = true) (hn : number s k = n) (hw : ∀ j, j < n - k → bt u (p + j) = bt s (k + j)) (hsp : bt u (p + (n - k)) = 32) (hlt : p + (n - k) < u.size) : number u p = p + (n - k) := by
  obtain ⟨e, he⟩ : ∃ e, skip isDigit s k = e := ⟨_, rfl⟩
  have hge : k + 1 ≤ e := by rw [← he, skip_go hk hd]; exact skip_ge
  cases hm : moreB s e
  · have hne : n = e := hn.symm.trans (number_less (by omega) he hm)
    subst hne
    have h1 : skip isDigit u p = p + (n - k) := skip_win (n - k) k p (by omega) hw (by rw [hsp]; rfl) (by omega)
    refine number_less (by omega) h1 ?_
    unfold moreB; rw [hsp]; simp
  · have hmm := hm
    simp only [moreB, Bool.and_eq_true, Bool.or_eq_true, decide_eq_true_eq] at hmm
    have hne : n = skip isDigit s (e + 1) := hn.symm.trans (number_more (by omega) he hm)
    have hgn : e + 1 + 1 ≤ n := by rw [hne, skip_go hmm.1 hmm.2.2]; exact skip_ge
    have b0 : bt u (p + (e - k)) = bt s e := by
      have := hw (e - k) (by omega)
      rwa [show k + (e - k) = e by omega] at this
    have b1 : bt u (p + (e - k) + 1) = bt s (e + 1) := by
      have := hw (e - k + 1) (by omega)
      rwa [show p + (e - k + 1) = p + (e - k) + 1 by omega, show k + (e - k + 1) = e + 1 by omega] at this
    have hq : isDigit (bt u (p + (e - k))) = false := by
      rw [b0]
      rcases hmm.2.1 with h | h <;> (rw [beq_iff_eq] at h; rw [h]; rfl)
    have h1 : skip isDigit u p = p + (e - k) := skip_win (e - k) k p (by omega) (fun j hj => hw j (by omega)) hq (by omega)
    have h2 : moreB u (p + (e - k)) = true := by
      simp only [moreB, Bool.and_eq_true, Bool.or_eq_true, decide_eq_true_eq]
      rw [b0, b1]
      exact ⟨by omega, hmm.2⟩
    rw [number_more (by omega) h1 h2]
    have h3 : skip isDigit u (p + (e - k) + 1) = p + (e - k) + 1 + (n - (e + 1)) := by
      have hx : skip isDigit s (e + 1) = e + 1 + (n - (e + 1)) := by omega
      refine skip_win (n - (e + 1)) (e + 1) _ hx (fun j hj => ?_) ?_ (by omega)
      · have := hw (e - k + 1 + j) (by omega)
        rwa [show p + (e - k + 1 + j) = p + (e - k) + 1 + j by omega, show k + (e - k + 1 + j) = e + 1 + j by omega] at this
      · rw [show p + (e - k) + 1 + (n - (e + 1)) = p + (n - k) by omega, hsp]; rfl
    rw [h3]; omega
end
/-- a token that splits off again wherever its text stands with a space behind it -/
def Again (t : Tok) : Prop := t.kind ≠ 0 ∧ (t.kind = 1 → t.text.size ≤ 32) ∧ 1 ≤ t.text.size ∧ ∀ u p, Win t.text u p → next u p = (p + t.text.size, t.kind)
theorem again_of {s : ByteArray} {k n : Nat} {kd : Int} (hk : k < s.size) (h : next s k = (n, kd)) (h0 : kd ≠ 0) (h1 : kd = 1 → n - k ≤ 32) : Again ⟨kd, s.extract k n, k⟩ := by
  have hc := next_cases s k hk
  rw [h] at hc
  dsimp only at hc
  obtain ⟨hge, hle⟩ : k + 1 ≤ n ∧ n ≤ s.size := by omega
  have hsz : (s.extract k n).size = n - k := by rw [ByteArray.size_extract]; omega
  refine ⟨h0, fun e => by rw [hsz]; exact h1 e, by rw [hsz]; omega, fun u p hw => ?_⟩
  dsimp only at hw ⊢
  have hb : ∀ j, j < n - k → bt u (p + j) = bt s (k + j) := fun j hj => by
    rw [hw.bt (by rw [hsz]; exact hj)]; exact bt_extract (by omega) hle
  have hsp := hw.sp
  have hlt := hw.lt
  rw [hsz] at hsp hlt ⊢
  have h00 : bt u p = bt s k := by simpa using hb 0 (by omega)
  have hx := hw.ext
  rw [hsz] at hx
  unfold next at h ⊢
  rw [h00]
  by_cases c1 : isLetter (bt s k) = true
  · rw [if_pos c1] at h ⊢
    simp only [Prod.mk.injEq] at h
    have e1 : skip inName u p = p + (n - k) := skip_win (n - k) k p (by omega) hb (by rw [hsp]; rfl) (by omega)
    rw [e1, hx, ← h.2, h.1]
  · rw [if_neg c1] at h ⊢
    by_cases c2 : isDigit (bt s k) = true
    · rw [if_pos c2] at h ⊢
      simp only [Prod.mk.injEq] at h
      rw [number_win hk c2 h.1 hb hsp hlt, ← h.2]
    · rw [if_neg c2] at h ⊢
      by_cases c3 : isSign (bt s k) = true
      · rw [if_pos c3] at h ⊢
        simp only [Prod.mk.injEq] at h
        rw [← h.2]; congr 1; omega
      · rw [if_neg c3] at h ⊢
        simp only [Prod.mk.injEq] at h
        omega
theorem lexF_again (s : ByteArray) : ∀ (f k : Nat) (out : List Tok) (r : List Tok) (p : Nat), k ≤ s.size → s.size < k + f → (∀ t ∈ out, Again t) → out.length ≤ 2048 → out.length ≤ k → lexF s f k out = (r, p, 0) →
    ∃ body, r = body ++ [⟨5, ByteArray.empty, s.size⟩] ∧ (∀ t ∈ body, Again t) ∧ body.length ≤ 2048 ∧ body.length ≤ s.size ∧ p = 0 := by
  intro f
  induction f with
  | zero => intro k out r p h1 h2; omega
  | succ f ih =>
    intro k out r p hk hf ho hl hlk h
    simp only [lexF] at h
    by_cases hlt : k < s.size
    · rw [if_pos hlt] at h
      obtain ⟨n, kd, hn⟩ : ∃ n kd, next s k = (n, kd) := ⟨_, _, rfl⟩
      have hc := next_cases s k hlt
      rw [hn] at h hc
      dsimp only at h hc
      by_cases h0 : kd = 0
      · rw [if_pos h0] at h; simp at h
      · rw [if_neg h0] at h
        by_cases h1 : 2048 ≤ out.length ∨ kd = 1 ∧ 32 < n - k
        · rw [if_pos h1] at h; simp at h
        · rw [if_neg h1] at h
          by_cases h2 : kd = 2 ∧ stops s n = true
          · rw [if_pos h2] at h; simp at h
          · rw [if_neg h2] at h
            obtain ⟨hge, hle⟩ : k + 1 ≤ n ∧ n ≤ s.size := by omega
            have hbn : n ≤ blanks s n := blank_ge hle
            exact ih (blanks s n) _ r p (blank_le hle) (by omega) (by
              intro t ht
              rw [List.mem_append] at ht
              rcases ht with ht | ht
              · exact ho t ht
              · rw [List.mem_singleton] at ht
                subst ht
                exact again_of hlt hn h0 (by omega)) (by simp; omega) (by simp; omega) h
    · rw [if_neg hlt] at h
      simp only [Prod.mk.injEq] at h
      exact ⟨out, h.1.symm, ho, hl, by omega, h.2.1.symm⟩
/-- what Split returns without an error -/
theorem lex_again {s : ByteArray} {r : List Tok} {p : Nat} (h : lex s = (r, p, 0)) :
    ∃ body, r = body ++ [⟨5, ByteArray.empty, s.size⟩] ∧ (∀ t ∈ body, Again t) ∧ body.length ≤ 2048 ∧ body.length ≤ s.size ∧ p = 0 := by
  unfold lex at h
  by_cases h8 : 8192 < s.size
  · rw [if_pos h8] at h; simp at h
  · rw [if_neg h8] at h
    exact lexF_again s _ _ [] r p (blank_le (by omega)) (by omega) (by simp) (by simp) (by simp) h
/-- the bytes of the texts, each with a space behind it -/
def joined (l : List Tok) : List UInt8 := l.flatMap fun t => t.text.data.toList ++ [32]
/-- the tokens that come back -/
def relay : Nat → List Tok → List Tok
  | _, [] => []
  | p, t :: l => ⟨t.kind, t.text, p⟩ :: relay (p + t.text.size + 1) l
theorem relay_length (l : List Tok) : ∀ p, (relay p l).length = l.length := by
  induction l with
  | nil => intro p; rfl
  | cons t l ih => intro p; simp [relay, ih]
theorem relay_get (l : List Tok) : ∀ (p k : Nat) (t : Tok), l[k]? = some t → ∃ q, (relay p l)[k]? = some ⟨t.kind, t.text, q⟩ := by
  induction l with
  | nil => intro p k t h; simp at h
  | cons a l ih =>
    intro p k t h
    cases k with
    | zero => simp at h; subst h; exact ⟨p, rfl⟩
    | succ k => simpa [relay] using ih (p + a.text.size + 1) k t (by simpa using h)
theorem next_blank {u : ByteArray} {p n : Nat} {kd : Int} (h : next u p = (n, kd)) (h0 : kd ≠ 0) : blanks u p = p := by
  have key : isLetter (bt u p) = true ∨ isDigit (bt u p) = true ∨ isSign (bt u p) = true := by
    unfold next at h
    by_cases c1 : isLetter (bt u p) = true
    · exact .inl c1
    · rw [if_neg c1] at h
      by_cases c2 : isDigit (bt u p) = true
      · exact .inr (.inl c2)
      · rw [if_neg c2] at h
        by_cases c3 : isSign (bt u p) = true
        · exact .inr (.inr c3)
        · rw [if_neg c3] at h
          simp only [Prod.mk.injEq] at h
          omega
  refine blank_stop ?_ ?_
  · simp only [isLetter, isDigit, isSign, Bool.or_eq_true, beq_iff_eq, decide_eq_true_eq] at key
    simp only [isBlank, Bool.or_eq_false_iff, beq_eq_false_iff_ne]
    omega
  · simp only [isLetter, isDigit, isSign, Bool.or_eq_true, beq_iff_eq, decide_eq_true_eq] at key
    rw [beq_eq_false_iff_ne]
    omega
theorem lexF_relay (u : ByteArray) (body : List Tok) : ∀ (f p : Nat) (out : List Tok), u.data.toList.drop p = joined (body ++ [⟨5, ByteArray.empty, 0⟩]) → (∀ t ∈ body, Again t) → out.length + body.length ≤ 2048 → u.size < blanks u p + f → p ≤ u.size →
    lexF u f (blanks u p) out = (out ++ relay p body ++ [⟨5, ByteArray.empty, u.size⟩], 0, 0) := by
  induction body with
  | nil =>
    intro f p out hd _ _ hf hp
    have hlen := congrArg List.length hd
    simp [joined] at hlen
    have hb : bt u p = 32 := by
      have := bt_drop u p 0
      rw [Nat.add_zero, hd] at this
      rw [this]; rfl
    rw [blank_sp (by omega) (by rw [hb]; rfl), blank_end (by omega)] at hf ⊢
    have e1 : p + 1 = u.size := by omega
    rw [e1] at hf ⊢
    rw [lex_end (Nat.le_refl _) hf (Nat.le_refl _)]
    simp [relay]
  | cons t body ih =>
    intro f p out hd ha hl hf hp
    have hw : Win t.text u p := ⟨joined (body ++ [⟨5, ByteArray.empty, 0⟩]), by rw [hd]; simp [joined]⟩
    obtain ⟨h0, h1, h2, hn⟩ := ha t (by simp)
    have hx := hn u p hw
    have hlt := hw.lt
    rw [next_blank hx h0] at hf ⊢
    have hb : bt u (p + t.text.size) = 32 := hw.sp
    have hst : stops u (p + t.text.size) = false := by
      unfold stops; rw [hb]; simp [isLetter]
    rw [lex_step (by omega) hf hx h0 (by simp at hl; omega) (by rw [hst]; simp), hw.ext]
    have hbs : blanks u (p + t.text.size) = blanks u (p + t.text.size + 1) := blank_sp (by omega) (by rw [hb]; rfl)
    have hge : p + t.text.size + 1 ≤ blanks u (p + t.text.size + 1) := blank_ge (by omega)
    rw [hbs]
    have hd' : u.data.toList.drop (p + t.text.size + 1) = joined (body ++ [⟨5, ByteArray.empty, 0⟩]) := by
      rw [hw.next, hd]
      show ((t.text.data.toList ++ [32]) ++ joined (body ++ [(⟨5, ByteArray.empty, 0⟩ : Tok)])).drop _ = _
      rw [List.drop_left' (by simp)]
    have IH := ih (f - 1) (p + t.text.size + 1) (out ++ [(⟨t.kind, t.text, p⟩ : Tok)]) hd' (fun t' ht' => ha t' (by simp [ht'])) (by simp at hl ⊢; omega) (by omega) (by omega)
    refine IH.trans ?_
    simp [relay]
/-- the joined text splits into the same tokens -/
theorem lex_relay {u : ByteArray} {body : List Tok} (hd : u.data.toList = joined (body ++ [⟨5, ByteArray.empty, 0⟩])) (ha : ∀ t ∈ body, Again t) (hl : body.length ≤ 2048) (hs : u.size ≤ 8192) :
    lex u = (relay 0 body ++ [⟨5, ByteArray.empty, u.size⟩], 0, 0) := by
  unfold lex
  rw [if_neg (by omega), lexF_relay u body _ 0 [] (by rw [List.drop_zero]; exact hd) ha (by simpa using hl) (by omega) (by omega)]
  simp
end Go.Proofs.Ythcimodihgcjaaa.LxM
