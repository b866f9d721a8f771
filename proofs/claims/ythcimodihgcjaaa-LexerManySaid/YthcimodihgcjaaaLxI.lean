/- The comparison of two lists of tokens that are the same. -/
import Derived.Test.YthcimodihgcjaaaLxG
import Derived.Laws.OwnMore
import Derived.Deep.Draws
import Derived.Laws.StructEq
namespace Go.Proofs.Ythcimodihgcjaaa.LxI
open Go.RowKit Lx LxW LxD
theorem addr_add (g j k : Nat) : (⟨g, j, none⟩ : Addr).add k = ⟨g, j + k, none⟩ := by
  unfold Addr.add
  by_cases hk : k = 0 <;> simp [hk]
theorem vals_get (l : List Tok) : ∀ (k : Nat) (t : Tok), l[k]? = some t → (vals l)[k * 3]? = some (.int .i64 t.kind) ∧ (vals l)[k * 3 + 1]? = some (.string t.text) ∧ (vals l)[k * 3 + 2]? = some (.int .i64 t.off) := by
  induction l with
  | nil => intro k t h; simp at h
  | cons a l ih =>
    intro k t h
    cases k with
    | zero =>
      simp at h
      subst h
      simp [vals, Tok.vals]
    | succ k =>
      have h' : l[k]? = some t := by simpa using h
      obtain ⟨h1, h2, h3⟩ := ih k t h'
      have e : ∀ j, (vals (a :: l))[(k + 1) * 3 + j]? = (vals l)[k * 3 + j]? := by
        intro j
        show (a.vals ++ vals l)[(k + 1) * 3 + j]? = _
        rw [List.getElem?_append_right (by simp [Tok.vals]; omega)]
        congr 1
        simp [Tok.vals]; omega
      exact ⟨(e 0).trans h1, (e 1).trans h2, (e 2).trans h3⟩
/-- the cells of a token of an owned row -/
theorem own_tok {w : World} {base e n g cap : Nat} {l : List Tok} (h : w.ownsRow base e 3 (.slice (some ⟨g, 0, none⟩) n cap) n (vals l)) {k : Nat} {t : Tok} (hk : k < n) (ht : l[k]? = some t) :
    w.cell? ⟨g, k * 3, none⟩ = some (.int .i64 t.kind) ∧ w.cell? ⟨g, k * 3 + 1, none⟩ = some (.string t.text) ∧ w.cell? ⟨g, k * 3 + 2, none⟩ = some (.int .i64 t.off) := by
  obtain ⟨h1, h2, h3⟩ := vals_get l k t ht
  exact ⟨(h.cellAt _ (by omega)).trans h1, (h.cellAt _ (by omega)).trans h2, (h.cellAt _ (by omega)).trans h3⟩
theorem own_len {w : World} {base e size n : Nat} {v : Value} {xs : List Value} (h : w.ownsRow base e size v n xs) : n ≤ maxLen := by
  rcases h.2 with ⟨_, rfl⟩ | ⟨g, cap, cur, _, _, _, h1, h2, _⟩
  · omega
  · omega
set_option maxHeartbeats 1000000 in
theorem same_any (l : List Tok) (v1 v2 : Value) (b1 b2 e : Nat) (w : World) (h1 : w.ownsRow b1 e 3 v1 l.length (vals l)) (h2 : w.ownsRow b2 e 3 v2 l.length (vals l)) :
    Calls Try.prog 14 #[v1, v2] w fun e w' => e = .returned (.bool true) ∧ ∃ n, w.drewN n = w' := by
  have hln : l.length ≤ maxLen := own_len h1
  unfold maxLen at hln
  rcases Nat.eq_zero_or_pos l.length with hz | hp
  · obtain rfl : l = [] := List.eq_nil_of_length_eq_zero hz
    obtain ⟨A1, c1, rfl⟩ := own_slice h1
    obtain ⟨A2, c2, rfl⟩ := own_slice h2
    go_enter Try.func14, Try.ntmps14
    go_wp2_with fail
    go_loopw [5] (fun i wr => i = .int .i64 0 ∧ wr = w) (fun _ _ => 0)
    case atStart => exact ⟨rfl, rfl⟩
    case round =>
      obtain ⟨rfl, rfl⟩ := hrel
      go_wp2_with fail
      go_ret
      exact ⟨rfl, 0, rfl⟩
  · obtain ⟨g1, c1, rfl, _, _⟩ := h1.form hp
    obtain ⟨g2, c2, rfl, _, _⟩ := h2.form hp
    go_enter Try.func14, Try.ntmps14
    go_wp2_with fail
    go_loopw [5] (fun i wr => ∃ (k n : Nat), k ≤ l.length ∧ i = .int .i64 k ∧ wr = w.drewN n) (fun i _ => l.length - (intOf i).toNat)
    case atStart => exact ⟨0, 0, by omega, rfl, rfl⟩
    case round =>
      obtain ⟨k, n, hk, rfl, rfl⟩ := hrel
      by_cases hlt : k < l.length
      · obtain ⟨t, ht⟩ : ∃ t, l[k]? = some t := ⟨_, List.getElem?_eq_getElem hlt⟩
        obtain ⟨a0, a1, a2⟩ := own_tok h1 hlt ht
        obtain ⟨b0, b1, b2⟩ := own_tok h2 hlt ht
        clear ht
        go_wp2_with fail
        go_quiet (fail)
        go_wp2_with fail
        go_roundw
        case rel => exact ⟨k + 1, n + nq, by omega, by go_num, rfl⟩
        case measure => simp [intOf]; omega
      · go_wp2_with fail
        go_ret
        exact ⟨rfl, n, rfl⟩
end Go.Proofs.Ythcimodihgcjaaa.LxI
