/- Plain lemmas for the walk of LexerAgain: sizes, and the tokens that come back. -/
import Derived.Test.YthcimodihgcjaaaLxM
import Derived.Test.YthcimodihgcjaaaLxN
namespace Go.Proofs.Ythcimodihgcjaaa.LxP
open Lx LxM LxN
theorem lexF_err (s : ByteArray) : ∀ (f k : Nat) (out r : List Tok) (p : Nat) (er : Int), lexF s f k out = (r, p, er) → er ≠ 0 → r = [] := by
  intro f
  induction f with
  | zero => intro k out r p er h _; simp only [lexF, Prod.mk.injEq] at h; exact h.1.symm
  | succ f ih =>
    intro k out r p er h he
    simp only [lexF] at h
    repeat' split at h
    all_goals first
      | (simp only [Prod.mk.injEq] at h; exact h.1.symm)
      | exact ih _ _ _ _ _ h he
      | (simp only [Prod.mk.injEq] at h; exact absurd h.2.2.symm he)
theorem lex_err {s : ByteArray} {r : List Tok} {p : Nat} {er : Int} (h : lex s = (r, p, er)) (he : er ≠ 0) : r = [] := by
  unfold lex at h
  split at h
  · simp only [Prod.mk.injEq] at h; exact h.1.symm
  · exact lexF_err s _ _ _ _ _ _ h he
theorem joined_append (a b : List Tok) : joined (a ++ b) = joined a ++ joined b := by simp [joined]
theorem joined_snoc (l : List Tok) (t : Tok) : joined (l ++ [t]) = joined l ++ (t.text.data.toList ++ [32]) := by simp [joined]
theorem joined_le {s : ByteArray} (l : List Tok) : ∀ lo, Cov s lo l → lo ≤ s.size → lo + (joined l).length ≤ s.size + l.length := by
  induction l with
  | nil => intro lo _ h; simp [joined]; exact h
  | cons t l ih =>
    intro lo h hlo
    have := ih _ h.2.2.2 h.2.1
    have e : (joined (t :: l)).length = t.text.size + 1 + (joined l).length := by simp [joined]; omega
    rw [e, List.length_cons]
    have := h.1
    omega
theorem take_snoc {l : List Tok} {k : Nat} {t : Tok} (h : l[k]? = some t) : l.take (k + 1) = l.take k ++ [t] := by
  rw [List.take_add_one, h]; rfl
theorem joined_take_le (l : List Tok) (k : Nat) : (joined (l.take k)).length ≤ (joined l).length := by
  have : joined l = joined (l.take k) ++ joined (l.drop k) := by
    have e := joined_append (l.take k) (l.drop k)
    rw [List.take_append_drop] at e; exact e
  rw [this, List.length_append]; omega
theorem data_append (a b : ByteArray) : (a ++ b).data.toList = a.data.toList ++ b.data.toList := by
  obtain ⟨⟨a⟩⟩ := a
  obtain ⟨⟨b⟩⟩ := b
  simp [ByteArray.data_append]
/-- what the joined text of the tokens splits into, token for token -/
theorem again_all {s u : ByteArray} {r : List Tok} {p : Nat} (h : lex s = (r, p, 0)) (hs : s.size ≤ 660) (hd : u.data.toList = joined r) :
    ∃ r2, lex u = (r2, 0, 0) ∧ r2.length = r.length ∧ ∀ (k : Nat) (t : Tok), r[k]? = some t → ∃ q, r2[k]? = some ⟨t.kind, t.text, q⟩ := by
  obtain ⟨body, hb, ha, hl, hl2, _⟩ := lex_again h
  have hu : u.size = (joined r).length := by rw [← hd]; simp
  have hj := joined_le r 0 (lex_cover h).1 (by omega)
  have hrl : r.length = body.length + 1 := by rw [hb]; simp
  have hd2 : u.data.toList = joined (body ++ [⟨5, ByteArray.empty, 0⟩]) := by rw [hd, hb, joined_snoc, joined_snoc]
  refine ⟨_, lex_relay hd2 ha hl (by omega), by rw [hrl]; simp [relay_length], fun k t ht => ?_⟩
  rw [hb] at ht
  rcases Nat.lt_or_ge k body.length with hk | hk
  · rw [List.getElem?_append_left hk] at ht
    obtain ⟨q, hq⟩ := relay_get body 0 k t ht
    exact ⟨q, by rw [List.getElem?_append_left (by rw [relay_length]; exact hk)]; exact hq⟩
  · rw [List.getElem?_append_right hk] at ht
    have hk0 : k - body.length = 0 := by
      rcases Nat.eq_zero_or_pos (k - body.length) with h | h
      · exact h
      · rw [List.getElem?_eq_none (by simp; omega)] at ht; cases ht
    rw [hk0] at ht
    simp at ht
    subst ht
    exact ⟨u.size, by rw [List.getElem?_append_right (by rw [relay_length]; exact hk), relay_length, hk0]; rfl⟩
end Go.Proofs.Ythcimodihgcjaaa.LxP
