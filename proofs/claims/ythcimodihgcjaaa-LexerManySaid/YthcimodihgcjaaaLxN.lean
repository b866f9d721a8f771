/- The plain law of LexerCover: tokens are in order, do not overlap and stand where they say. -/
import Derived.Test.YthcimodihgcjaaaLxA
namespace Go.Proofs.Ythcimodihgcjaaa.LxN
open Lx
/-- the tokens of a list stand in s from lo on, in order -/
def Cov (s : ByteArray) : Nat → List Tok → Prop
  | _, [] => True
  | lo, t :: l => lo ≤ t.off ∧ t.off + t.text.size ≤ s.size ∧ s.extract t.off (t.off + t.text.size) = t.text ∧ Cov s (t.off + t.text.size) l
theorem Cov.mono {s : ByteArray} {lo lo' : Nat} {l : List Tok} (h : Cov s lo' l) (hl : lo ≤ lo') : Cov s lo l := by
  cases l with
  | nil => trivial
  | cons t l => exact ⟨Nat.le_trans hl h.1, h.2⟩
def Ends (s : ByteArray) (l : List Tok) : Prop := ∃ body, l = body ++ [⟨5, ByteArray.empty, s.size⟩] ∧ ∀ t ∈ body, t.kind ≠ 5
theorem lexF_cover (s : ByteArray) : ∀ (f k : Nat) (out : List Tok) (r : List Tok) (p : Nat), k ≤ s.size → s.size < k + f → lexF s f k out = (r, p, 0) →
    ∃ suf, r = out ++ suf ∧ Cov s k suf ∧ Ends s suf := by
  intro f
  induction f with
  | zero => intro k out r p h1 h2; omega
  | succ f ih =>
    intro k out r p hk hf h
    simp only [lexF] at h
    by_cases hlt : k < s.size
    · rw [if_pos hlt] at h
      obtain ⟨n, kd, hn⟩ : ∃ n kd, next s k = (n, kd) := ⟨_, _, rfl⟩
      have hc := next_cases s k hlt
      rw [hn] at h hc
      dsimp only at h hc
      by_cases h0 : kd = 0
      · rw [if_pos h0] at h; simp at h
      · rw [if_neg h0] at h
        by_cases h1 : 2048 ≤ out.length ∨ kd = 1 ∧ 32 < n - k
        · rw [if_pos h1] at h; simp at h
        · rw [if_neg h1] at h
          by_cases h2 : kd = 2 ∧ stops s n = true
          · rw [if_pos h2] at h; simp at h
          · rw [if_neg h2] at h
            obtain ⟨hge, hle⟩ : k + 1 ≤ n ∧ n ≤ s.size := by omega
            have hbn : n ≤ blanks s n := blank_ge hle
            obtain ⟨suf, hr, hcov, body, hb, hk5⟩ := ih (blanks s n) _ r p (blank_le hle) (by omega) h
            have hsz : (s.extract k n).size = n - k := by rw [ByteArray.size_extract]; omega
            have hkn : k + (n - k) = n := by omega
            refine ⟨⟨kd, s.extract k n, k⟩ :: suf, by rw [hr]; simp, ⟨Nat.le_refl _, by dsimp only; omega, by dsimp only; rw [hsz, hkn], ?_⟩, ⟨kd, s.extract k n, k⟩ :: body, by rw [hb]; rfl, ?_⟩
            · dsimp only; rw [hsz, hkn]; exact hcov.mono hbn
            · intro t ht
              rcases List.mem_cons.1 ht with rfl | ht
              · dsimp only; omega
              · exact hk5 t ht
    · rw [if_neg hlt] at h
      simp only [Prod.mk.injEq] at h
      have e0 : ByteArray.empty.size = 0 := rfl
      refine ⟨[⟨5, ByteArray.empty, s.size⟩], h.1.symm, ⟨hk, by dsimp only; omega, ?_, trivial⟩, [], rfl, by simp⟩
      dsimp only
      rw [e0, Nat.add_zero]
      have e := Lib.extract_data s s.size s.size
      rw [Nat.sub_self, List.take_zero] at e
      generalize s.extract s.size s.size = y at e
      obtain ⟨⟨m⟩⟩ := y
      simp only at e
      rw [e]; rfl
theorem lex_cover {s : ByteArray} {r : List Tok} {p : Nat} (h : lex s = (r, p, 0)) : Cov s 0 r ∧ Ends s r := by
  unfold lex at h
  by_cases h8 : 8192 < s.size
  · rw [if_pos h8] at h; simp at h
  · rw [if_neg h8] at h
    obtain ⟨suf, hr, hc, he⟩ := lexF_cover s _ _ [] r p (blank_le (by omega)) (by omega) h
    rw [List.nil_append] at hr
    subst hr
    exact ⟨hc.mono (by omega), he⟩
/-- what a round of LexerCover asks of the token at place k -/
theorem cov_at {s : ByteArray} {lo k : Nat} {l : List Tok} {t : Tok} (h : Cov s lo (l.drop k)) (ht : l[k]? = some t) :
    lo ≤ t.off ∧ t.off + t.text.size ≤ s.size ∧ s.extract t.off (t.off + t.text.size) = t.text ∧ Cov s (t.off + t.text.size) (l.drop (k + 1)) := by
  obtain ⟨hk, rfl⟩ := List.getElem?_eq_some_iff.1 ht
  rw [List.drop_eq_getElem_cons hk] at h
  exact h
theorem ends_at {s : ByteArray} {k : Nat} {l : List Tok} {t : Tok} (h : Ends s l) (ht : l[k]? = some t) : (t.kind = 5 ↔ k + 1 = l.length) ∧ (k + 1 = l.length → t.off = s.size) := by
  obtain ⟨body, rfl, hb⟩ := h
  rcases Nat.lt_or_ge k body.length with hk | hk
  · rw [List.getElem?_append_left hk] at ht
    have hm := hb t (List.mem_of_getElem? ht)
    simp only [List.length_append, List.length_singleton]
    exact ⟨⟨fun h => absurd h hm, fun h => by omega⟩, fun h => by omega⟩
  · rw [List.getElem?_append_right hk] at ht
    have hk0 : k - body.length = 0 := by
      rcases Nat.eq_zero_or_pos (k - body.length) with h | h
      · exact h
      · rw [List.getElem?_eq_none (by simp; omega)] at ht; cases ht
    rw [hk0] at ht
    simp at ht
    subst ht
    simp only [List.length_append, List.length_singleton]
    exact ⟨⟨fun _ => by omega, fun _ => trivial⟩, fun _ => trivial⟩
end Go.Proofs.Ythcimodihgcjaaa.LxN
