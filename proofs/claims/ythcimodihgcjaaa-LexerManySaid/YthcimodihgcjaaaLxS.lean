/- The plain law of LexerMany: texts of semicolons, a space and a name, blanks. -/
import Derived.Test.YthcimodihgcjaaaLxM
namespace Go.Proofs.Ythcimodihgcjaaa.LxS
open Lx LxM
/-- a string of n times one byte -/
def rep (c : UInt8) (n : Nat) : ByteArray := ⟨(List.replicate n c).toArray⟩
theorem rep_list (c : UInt8) (n : Nat) : (rep c n).data.toList = List.replicate n c := rfl
theorem rep_size (c : UInt8) (n : Nat) : (rep c n).size = n := by
  have := list_len (rep c n)
  rw [rep_list, List.length_replicate] at this
  exact this.symm
theorem rep_bt (c : UInt8) {n i : Nat} (h : i < n) : bt (rep c n) i = (c.toNat : Int) := by
  rw [bt_list, rep_list, List.getD_eq_getElem?_getD, List.getElem?_replicate, if_pos h]; rfl
/-- one token a semicolon -/
theorem semi_next {n i : Nat} (h : i < n) : next (rep 59 n) i = (i + 1, 4) := by
  unfold next; rw [rep_bt 59 h]; rfl
theorem semi_blank {n i : Nat} (h : i ≤ n) : blanks (rep 59 n) i = i := by
  rcases Nat.lt_or_ge i n with hlt | hge
  · exact next_blank (semi_next hlt) (by omega)
  · exact blank_end (by rw [rep_size]; exact hge)
theorem semi_lexF (n : Nat) (d : Nat) : ∀ (f k : Nat) (out : List Tok), k + d = n → n < k + f → out.length = k → n ≤ 2048 → ∃ r, lexF (rep 59 n) f k out = (r, 0, 0) ∧ r.length = n + 1 := by
  induction d with
  | zero =>
    intro f k out h hf ho hn
    refine ⟨_, lex_end (by rw [rep_size]; omega) (by rw [rep_size]; exact hf) (by rw [rep_size]; omega), by simp; omega⟩
  | succ d ih =>
    intro f k out h hf ho hn
    rw [lex_step (by rw [rep_size]; omega) (by rw [rep_size]; omega) (semi_next (by omega)) (by omega) (by omega) (by omega), semi_blank (by omega)]
    exact ih (f - 1) (k + 1) _ (by omega) (by omega) (by simp; omega) hn
theorem semi_long (n : Nat) (d : Nat) : ∀ (f k : Nat) (out : List Tok), k + d = 2048 → n < k + f → out.length = k → 2048 < n → lexF (rep 59 n) f k out = ([], 2048, 2) := by
  induction d with
  | zero =>
    intro f k out h hf ho hn
    obtain rfl : k = 2048 := by omega
    exact lex_long (by rw [rep_size]; omega) (by rw [rep_size]; omega) (semi_next hn) (by omega) (.inl (by omega))
  | succ d ih =>
    intro f k out h hf ho hn
    rw [lex_step (by rw [rep_size]; omega) (by rw [rep_size]; omega) (semi_next (by omega)) (by omega) (by omega) (by omega), semi_blank (by omega)]
    exact ih (f - 1) (k + 1) _ (by omega) (by omega) (by simp; omega) hn
theorem semi_few {n : Nat} (h : n ≤ 2048) : ∃ r, lex (rep 59 n) = (r, 0, 0) ∧ r.length = n + 1 := by
  unfold lex
  rw [if_neg (by rw [rep_size]; omega), semi_blank (by omega), rep_size]
  exact semi_lexF n n _ 0 [] (by omega) (by omega) rfl h
theorem semi_many {n : Nat} (h : 2048 < n) (h2 : n ≤ 8192) : lex (rep 59 n) = ([], 2048, 2) := by
  unfold lex
  rw [if_neg (by rw [rep_size]; omega), semi_blank (by omega), rep_size]
  exact semi_long n 2048 _ 0 [] (by omega) (by omega) rfl h
/-- a text of blanks -/
theorem blank_all (n : Nat) (d : Nat) : ∀ k, k + d = n → blanks (rep 32 n) k = n := by
  induction d with
  | zero => intro k h; rw [blank_end (by rw [rep_size]; omega)]; omega
  | succ d ih =>
    intro k h
    rw [blank_sp (by rw [rep_size]; omega) (by rw [rep_bt 32 (by omega)]; rfl)]
    exact ih (k + 1) (by omega)
theorem blank_lex {n : Nat} (h : n ≤ 8192) : ∃ r, lex (rep 32 n) = (r, 0, 0) := by
  unfold lex
  rw [if_neg (by rw [rep_size]; omega), blank_all n n 0 (by omega), rep_size]
  have e := lex_end (s := rep 32 n) (f := n + 1) (k := n) (out := []) (by rw [rep_size]; omega) (by rw [rep_size]; omega) (by rw [rep_size]; omega)
  exact ⟨_, e⟩
theorem blank_lex_long {n : Nat} (h : 8192 < n) : lex (rep 32 n) = ([], 0, 2) := by
  unfold lex; rw [if_pos (by rw [rep_size]; exact h)]
/-- a space and a name -/
theorem name_bt {u : ByteArray} {n i : Nat} (hu : u.data.toList = 32 :: List.replicate n 120) (h : i < n) : bt u (1 + i) = 120 := by
  rw [bt_list, hu, List.getD_eq_getElem?_getD, Nat.add_comm, List.getElem?_cons_succ, List.getElem?_replicate, if_pos h]; rfl
theorem name_size {u : ByteArray} {n : Nat} (hu : u.data.toList = 32 :: List.replicate n 120) : u.size = n + 1 := by
  rw [← list_len, hu]; simp
theorem name_skip {u : ByteArray} {n : Nat} (hu : u.data.toList = 32 :: List.replicate n 120) (d : Nat) : ∀ i, i + d = n → skip inName u (1 + i) = n + 1 := by
  induction d with
  | zero => intro i h; rw [skip_end (by rw [name_size hu]; omega)]; omega
  | succ d ih =>
    intro i h
    rw [skip_go (by rw [name_size hu]; omega) (by rw [name_bt hu (by omega)]; rfl), Nat.add_assoc]
    exact ih (i + 1) (by omega)
theorem name_kind (t : ByteArray) {n : Nat} (h : t.data.toList = List.replicate n 120) : wordKind t = 1 := by
  unfold wordKind
  rw [if_neg]
  intro hr
  simp only [resv, Bool.or_eq_true, beq_iff_eq, Lib.toList_data] at hr
  rw [h] at hr
  have key : ∀ l : List UInt8, List.replicate n 120 = l → ∀ c ∈ l, c = 120 := by
    intro l e c hc
    rw [← e] at hc
    exact (List.mem_replicate.1 hc).2
  rcases hr with hr | hr | hr | hr
  · exact absurd (key _ hr 99 (by simp)) (by decide)
  · exact absurd (key _ hr 98 (by simp)) (by decide)
  · exact absurd (key _ hr 108 (by simp)) (by decide)
  · exact absurd (key _ hr 115 (by simp)) (by decide)
theorem name_next {u : ByteArray} {n : Nat} (hu : u.data.toList = 32 :: List.replicate n 120) (hn : 0 < n) : next u 1 = (n + 1, 1) := by
  unfold next
  have hb := name_bt hu (i := 0) hn
  have hs := name_skip hu n 0 (by omega)
  rw [Nat.add_zero] at hb hs
  rw [hb, hs, name_kind _ (n := n)]
  · rfl
  · rw [Lib.extract_data, hu]; simp
theorem name_blank {u : ByteArray} {n : Nat} (hu : u.data.toList = 32 :: List.replicate n 120) (hn : 0 < n) : blanks u 0 = 1 := by
  have hb : bt u 0 = 32 := by rw [bt_list, hu]; rfl
  rw [blank_sp (by rw [name_size hu]; omega) (by rw [hb]; rfl)]
  exact next_blank (name_next hu hn) (by omega)
theorem name_long {u : ByteArray} {n : Nat} (hu : u.data.toList = 32 :: List.replicate n 120) (hn : 32 < n) (hn2 : n ≤ 64) : lex u = ([], 1, 2) := by
  unfold lex
  rw [if_neg (by rw [name_size hu]; omega), name_blank hu (by omega)]
  exact lex_long (by rw [name_size hu]; omega) (by omega) (name_next hu (by omega)) (by omega) (.inr ⟨rfl, by omega⟩)
theorem name_short {u : ByteArray} {n : Nat} (hu : u.data.toList = 32 :: List.replicate n 120) (hn : 0 < n) (hn2 : n ≤ 32) : ∃ r, lex u = (r, 0, 0) := by
  unfold lex
  have hsz := name_size hu
  rw [if_neg (by omega), name_blank hu (by omega), lex_step (by omega) (by omega) (name_next hu hn) (by omega) (by simp; omega) (by omega), blank_end (by omega)]
  rw [← hsz, lex_end (Nat.le_refl _) (by omega) (Nat.le_refl _)]
  exact ⟨_, rfl⟩
end Go.Proofs.Ythcimodihgcjaaa.LxS
