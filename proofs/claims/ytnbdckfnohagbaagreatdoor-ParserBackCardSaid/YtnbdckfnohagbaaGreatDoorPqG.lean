/- Plain: the tokens of a text; words for lists of clauses in memory. -/
import Derived.Test.YtnbdckfnohagbaaGreatDoorPqF
namespace Go.Proofs.YtnbdckfnohagbaaGreatDoor.PqG
theorem here : True := trivial
open Go.RowKit Lx Wd RnW PqA PqB PqC PqD PqE PqF
/-- a token that is no end -/
def Gd (t : Tok) : Prop := t.kind ≠ 5 ∧ (t.kind = 1 → resv t.text = false) ∧ (t.kind = 3 → resv t.text = true) ∧ t.text.size ≤ 8192 ∧ t.off ≤ 8192
theorem next_gd {s : ByteArray} {i n : Nat} {kd : Int} (hs : s.size ≤ 8192) (hi : i < s.size) (h : next s i = (n, kd)) (h0 : kd ≠ 0) : Gd ⟨kd, s.extract i n, i⟩ := by
  have hz : (s.extract i n).size ≤ 8192 := by rw [ByteArray.size_extract]; omega
  have key : ∀ x : ByteArray, wordKind x ≠ 5 ∧ (wordKind x = 1 → resv x = false) ∧ (wordKind x = 3 → resv x = true) := by
    intro x
    unfold wordKind
    cases resv x <;> simp
  unfold next at h
  split at h
  · injection h with h1 h2
    subst h1; subst h2
    obtain ⟨a, b, c⟩ := key (s.extract i (skip inName s i))
    exact ⟨a, b, c, hz, by show i ≤ 8192; omega⟩
  · split at h
    · injection h with h1 h2
      subst h2
      exact ⟨show (2 : Int) ≠ 5 by decide, fun e => absurd (show (2 : Int) = 1 from e) (by decide), fun e => absurd (show (2 : Int) = 3 from e) (by decide), hz, by show i ≤ 8192; omega⟩
    · split at h
      · injection h with h1 h2
        subst h2
        exact ⟨show (4 : Int) ≠ 5 by decide, fun e => absurd (show (4 : Int) = 1 from e) (by decide), fun e => absurd (show (4 : Int) = 3 from e) (by decide), hz, by show i ≤ 8192; omega⟩
      · injection h with h1 h2
        exact absurd h2.symm h0
theorem next_le {s : ByteArray} {i n : Nat} {kd : Int} (hi : i < s.size) (h : next s i = (n, kd)) : i ≤ n ∧ n ≤ s.size := by
  unfold next at h
  split at h
  · injection h with h1 _; subst h1; exact ⟨skip_ge, skip_le (by omega)⟩
  · split at h
    · injection h with h1 _; subst h1; exact ⟨Nat.le_trans skip_ge number_ge, number_le (by omega)⟩
    · split at h
      · injection h with h1 _; omega
      · injection h with h1 _; omega
theorem lexF_toks {s : ByteArray} (hs : s.size ≤ 8192) : ∀ (f i : Nat) (out : List Tok), i ≤ s.size → s.size < i + f → (∀ t ∈ out, Gd t) → out.length ≤ 2048 →
    (lexF s f i out).2.1 ≤ 8192 ∧ (0 ≤ (lexF s f i out).2.2 ∧ (lexF s f i out).2.2 ≤ 10) ∧ ((lexF s f i out).2.2 = 0 → ∃ l, (lexF s f i out).1 = l ++ [⟨5, ByteArray.empty, s.size⟩] ∧ (∀ t ∈ l, Gd t) ∧ l.length ≤ 2048)
  | 0, i, out, h1, h2, _, _ => by omega
  | f + 1, i, out, h1, h2, hg, hl => by
    unfold lexF
    split
    · rename_i hi
      split
      · exact ⟨by show i ≤ 8192; omega, ⟨show (0 : Int) ≤ 10 by decide, show (10 : Int) ≤ 10 by decide⟩, fun h => absurd (show (10 : Int) = 0 from h) (by decide)⟩
      · rename_i h0
        split
        · exact ⟨by show i ≤ 8192; omega, ⟨show (0 : Int) ≤ 2 by decide, show (2 : Int) ≤ 10 by decide⟩, fun h => absurd (show (2 : Int) = 0 from h) (by decide)⟩
        · rename_i h3
          have hn := next_le (n := (next s i).1) (kd := (next s i).2) hi rfl
          split
          · exact ⟨by show (next s i).1 ≤ 8192; omega, ⟨show (0 : Int) ≤ 10 by decide, show (10 : Int) ≤ 10 by decide⟩, fun h => absurd (show (10 : Int) = 0 from h) (by decide)⟩
          · rename_i h4
            have hb := blank_ge (s := s) (i := (next s i).1) hn.2
            have hb2 := blank_le (s := s) (i := (next s i).1) hn.2
            have hgt : i + 1 ≤ (next s i).1 := by
              unfold next at h0 ⊢
              split
              · rename_i hL
                rw [skip_go hi (by simp [inName, hL])]; exact skip_ge
              · split
                · rename_i hD
                  rw [if_neg (by assumption), if_pos hD] at h0
                  refine Nat.le_trans ?_ number_ge
                  rw [skip_go hi hD]; exact skip_ge
                · split
                  · exact Nat.le_refl _
                  · rename_i a b c
                    rw [if_neg a, if_neg b, if_neg c] at h0
                    exact absurd rfl h0
            refine lexF_toks hs f _ _ hb2 (by omega) (fun t ht => ?_) (by rw [List.length_append]; simp; omega)
            rcases List.mem_append.1 ht with ht | ht
            · exact hg t ht
            · rw [List.mem_singleton] at ht
              subst ht
              exact next_gd hs hi rfl h0
    · exact ⟨Nat.zero_le _, ⟨Int.le_refl _, show (0 : Int) ≤ 10 by decide⟩, fun _ => ⟨out, rfl, hg, hl⟩⟩
theorem lex_small {s : ByteArray} (hs : s.size ≤ 8192) : lex s = lexF s (s.size + 1) (blanks s 0) [] := by unfold lex; rw [if_neg (by omega)]
theorem lex_facts {s : ByteArray} (hs : s.size ≤ 8192) : (lex s).2.1 ≤ 8192 ∧ (0 ≤ (lex s).2.2 ∧ (lex s).2.2 ≤ 10) ∧ ((lex s).2.2 = 0 → Toks (lex s).1 ∧ (lex s).1.length ≤ 2049) := by
  rw [lex_small hs]
  obtain ⟨h1, h2, h3⟩ := lexF_toks hs (s.size + 1) (blanks s 0) [] (blank_le (Nat.zero_le _)) (by omega) (by simp) (by simp)
  refine ⟨h1, h2, fun h => ?_⟩
  obtain ⟨l, hl, hg, hlen⟩ := h3 h
  rw [hl]
  have hall : ∀ t ∈ l ++ [(⟨5, ByteArray.empty, s.size⟩ : Tok)], Gd t ∨ t = ⟨5, ByteArray.empty, s.size⟩ := fun t ht => by
    rcases List.mem_append.1 ht with ht | ht
    · exact .inl (hg t ht)
    · exact .inr (List.mem_singleton.1 ht)
  refine ⟨⟨⟨l, _, rfl, rfl, fun x hx => (hg x hx).1⟩, ?_, ?_, ?_, ?_⟩, by simp; omega⟩
  · intro t ht hk
    rcases hall t ht with h | h
    · exact h.2.1 hk
    · subst h; exact absurd (show (5 : Int) = 1 from hk) (by decide)
  · intro t ht hk
    rcases hall t ht with h | h
    · exact h.2.2.1 hk
    · subst h; exact absurd (show (5 : Int) = 3 from hk) (by decide)
  · intro t ht
    rcases hall t ht with h | h
    · exact h.2.2.2.1
    · subst h; exact Nat.zero_le _
  · intro t ht
    rcases hall t ht with h | h
    · exact h.2.2.2.2
    · subst h; exact hs
/-- the eight values of a clause -/
def Cl.vals (x : Cl) (A : Option Addr) (c : Nat) : List Value := [.int .i64 x.kind, .string x.name, .string x.other, .slice A x.list.length c, .bool x.neg, .string x.num, .string x.den, .int .i64 x.off]
def ClsIn (P : Nat → Prop) (w : World) : List Cl → List Value → Prop
  | [], xs => xs = []
  | x :: l, xs => ∃ A c ys, xs = Cl.vals x A c ++ ys ∧ Strs P w A c x.list ∧ ClsIn P w l ys
section
variable {P Q : Nat → Prop} {w w' : World}
theorem ClsIn.map {P' : Nat → Prop} (f : ∀ (A : Option Addr) (c : Nat) (l : List ByteArray), Strs P w A c l → Strs P' w' A c l) : ∀ {l : List Cl} {xs : List Value}, ClsIn P w l xs → ClsIn P' w' l xs
  | [], _, h => h
  | _ :: _, _, ⟨A, c, ys, e, h1, h2⟩ => ⟨A, c, ys, e, f A c _ h1, ClsIn.map f h2⟩
theorem ClsIn.len : ∀ {l : List Cl} {xs : List Value}, ClsIn P w l xs → xs.length = l.length * 8
  | [], _, h => by rw [show _ = _ from h]; rfl
  | _ :: l, _, ⟨A, c, ys, e, _, h2⟩ => by
    have := h2.len
    rw [e, List.length_append, this]
    simp only [Cl.vals, List.length_cons, List.length_nil]; omega
theorem ClsIn.snoc {x : Cl} {A : Option Addr} {c : Nat} (hx : Strs P w A c x.list) : ∀ {l : List Cl} {xs : List Value}, ClsIn P w l xs → ClsIn P w (l ++ [x]) (xs ++ Cl.vals x A c)
  | [], xs, h => ⟨A, c, [], by rw [show xs = [] from h]; simp, hx, rfl⟩
  | _ :: l, _, ⟨A', c', ys, e, h1, h2⟩ => ⟨A', c', ys ++ Cl.vals x A c, by rw [e, List.append_assoc], h1, ClsIn.snoc hx h2⟩
theorem ClsIn.get : ∀ {l : List Cl} {xs : List Value}, ClsIn P w l xs → ∀ (k : Nat) (x : Cl), l[k]? = some x → ∃ A c, (∀ j, j < 8 → xs[k * 8 + j]? = (Cl.vals x A c)[j]?) ∧ Strs P w A c x.list
  | [], _, _, k, x, hk => by simp at hk
  | y :: l, _, ⟨A, c, ys, e, h1, h2⟩, 0, x, hk => by
    simp only [List.getElem?_cons_zero, Option.some.injEq] at hk
    subst hk
    refine ⟨A, c, fun j hj => ?_, h1⟩
    rw [e, List.getElem?_append_left (by simp [Cl.vals]; omega)]
    simp
  | y :: l, _, ⟨A, c, ys, e, h1, h2⟩, k + 1, x, hk => by
    rw [List.getElem?_cons_succ] at hk
    obtain ⟨A', c', hj, hs⟩ := ClsIn.get h2 k x hk
    refine ⟨A', c', fun j hj8 => ?_, hs⟩
    have hl : (Cl.vals y A c).length = 8 := rfl
    rw [e, List.getElem?_append_right (by rw [hl]; omega), hl, ← hj j hj8]
    congr 1; omega
theorem Strs.mono' {A : Option Addr} {c : Nat} {l : List ByteArray} (h : Strs P w A c l) (hp : ∀ b, b < w.heap.size → P b → Q b) : Strs Q w A c l :=
  ⟨h.1, fun hl => by
    obtain ⟨b, off, e, hb, hP, hc⟩ := h.2 hl
    exact ⟨b, off, e, hb, ⟨hp b hb hP.1, hP.2⟩, hc⟩⟩
theorem Strs.grown {A : Option Addr} {c : Nat} {l : List ByteArray} {row : Option Nat} (h : Strs P w A c l) (hg : w.grownBy w' row) (hp : ∀ b, P b → row ≠ some b) : Strs P w' A c l :=
  ⟨h.1, fun hl => by
    obtain ⟨b, off, e, hb, hP, hc⟩ := h.2 hl
    exact ⟨b, off, e, Nat.lt_of_lt_of_le hb hg.size, hP, fun k s hk => hg.cell (hc k s hk) (fun e => hp b hP.1 e.symm)⟩⟩
end
/-- a slice that reads as clauses -/
def ClsAt (w : World) (A : Option Addr) (l : List Cl) : Prop :=
  l.length ≤ maxLen ∧ (0 < l.length → ∃ b off, A = some ⟨b, off, none⟩ ∧ b < w.heap.size ∧ ∀ k x, l[k]? = some x → ∃ A' c', (∀ j v, (Cl.vals x A' c')[j]? = some v → w.cell? ⟨b, off + k * 8 + j, none⟩ = some v) ∧ Strs (fun _ => True) w A' c' x.list)
theorem ClsAt.nil (w : World) (A : Option Addr) : ClsAt w A [] := ⟨Nat.zero_le _, fun h => by simp at h⟩
theorem ClsAt.below {w w' : World} {A : Option Addr} {l : List Cl} (h : ClsAt w A l) (hb : Below w.heap.size w w') : ClsAt w' A l :=
  ⟨h.1, fun hl => by
    obtain ⟨b, off, e, hlt, hc⟩ := h.2 hl
    refine ⟨b, off, e, Nat.lt_of_lt_of_le hlt hb.size, fun k x hk => ?_⟩
    obtain ⟨A', c', hj, hs⟩ := hc k x hk
    exact ⟨A', c', fun j v hv => (hb.cell (p := ⟨b, _, none⟩) hlt).trans (hj j v hv), hs.below hb⟩⟩
theorem ClsAt.own {P : Nat → Prop} {w : World} {base : Nat} {e : TypeId} {v : Value} {l : List Cl} {xs : List Value} (h : w.ownsRow base e 8 v l.length xs) (hi : ClsIn P w l xs) (hl : l.length ≤ maxLen) : ∃ A c, v = .slice A l.length c ∧ ClsAt w A l := by
  rcases Nat.eq_zero_or_pos l.length with h0 | h0
  · obtain rfl : l = [] := List.eq_nil_of_length_eq_zero h0
    rcases h.2 with ⟨rfl, _⟩ | ⟨g, cap, cur, rfl, _, _⟩
    · exact ⟨none, 0, rfl, ClsAt.nil _ _⟩
    · exact ⟨_, cap, rfl, ClsAt.nil _ _⟩
  · obtain ⟨g, cap, rfl, hg, hlt⟩ := h.form h0
    have hc := h.cells (g := g) rfl
    refine ⟨_, cap, rfl, hl, fun _ => ⟨g, 0, rfl, hlt, fun k x hk => ?_⟩⟩
    obtain ⟨A', c', hj, hs⟩ := hi.get k x hk
    refine ⟨A', c', fun j v hv => ?_, hs.mono (fun _ _ => trivial)⟩
    have hj8 : j < 8 := by
      have := (List.getElem?_eq_some_iff.1 hv).1
      simpa [Cl.vals] using this
    have := hc (k * 8 + j) v ((hj j hj8).trans hv)
    rw [Go.WideShapes.add_plain] at this
    rw [← this]
    congr 2
    omega
end Go.Proofs.YtnbdckfnohagbaaGreatDoor.PqG
