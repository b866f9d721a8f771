/- The walk of the program's parseLine. -/
import Derived.Test.YtkllpfijeglppaaDoorHsP
import Derived.Deep.RegionHeld3
namespace Go.Proofs.YtkllpfijeglppaaDoor.HsQ
open Go.RowKit Hs HsB HsC HsD HsF HsG HsH HsE HsI HsJ HsK HsL HsM HsN HsO HsP
def zeroRow : Value := .agg #[.int .i64 0, .int .i64 0, .int .i64 0, .int .i64 0, .int .i64 0, .int .i64 0]
def RowRet : Option HRow → Ending
  | none => .returned (.tuple #[zeroRow, .bool false])
  | some r => .returned (.tuple #[r.agg, .bool true])
theorem row_short {L : List (List UInt8)} (h : L.length < 5) : rowW L = none := by unfold rowW; rw [if_pos (.inl h)]
theorem row_kind {L : List (List UInt8)} (h : kindW (L.getD 1 []) = 0) : rowW L = none := by unfold rowW; rw [if_pos (.inr (.inl h))]
theorem row_count {L : List (List UInt8)} (h : L.length ≠ countK (kindW (L.getD 1 []))) : rowW L = none := by unfold rowW; rw [if_pos (.inr (.inr h))]
theorem row_nums {L : List (List UInt8)} (h : numsOf (L.eraseIdx 1) = none) : rowW L = none := by unfold rowW; split <;> simp [h]
theorem row_good {L : List (List UInt8)} {k : Int} {ns : List Nat} (h1 : ¬ L.length < 5) (h2 : kindW (L.getD 1 []) = k) (h3 : k ≠ 0) (h4 : L.length = countK k) (h5 : numsOf (L.eraseIdx 1) = some ns) : rowW L = some (rowN k ns) := by
  unfold rowW; rw [h2, if_neg (by rw [h4] at h1 ⊢; simp [h1, h3]), h5]; rfl
theorem erase_take {α : Type} (L : List α) (i : Nat) (x : α) (h : L[i]? = some x) : (L.take (i + 1)).eraseIdx 1 = if i = 1 then (L.take 1).eraseIdx 1 else (L.take i).eraseIdx 1 ++ [x] := by
  have ht : L.take (i + 1) = L.take i ++ [x] := by rw [List.take_add_one, h]; rfl
  have hi : i < L.length := (List.getElem?_eq_some_iff.1 h).1
  rcases (by omega : i = 0 ∨ i = 1 ∨ 2 ≤ i) with rfl | rfl | h2
  · rw [ht]; rfl
  · rw [if_pos rfl, ht, List.eraseIdx_append_of_length_le (by simp; omega)]
    have : (L.take 1).length = 1 := by simp; omega
    rw [this]
    simp [List.eraseIdx_of_length_le, this]
  · rw [if_neg (by omega), ht, List.eraseIdx_append_of_lt_length (by simp; omega)]
/-- what the loop over the words knows -/
def Got (L : List (List UInt8)) (i : Nat) (ns : List Nat) : Prop := numsOf ((L.take i).eraseIdx 1) = some ns ∧ ns.length = (if i ≤ 1 then i else i - 1) ∧ ∀ n ∈ ns, n ≤ 999999999999999999
theorem Got.start (L : List (List UInt8)) : Got L 0 [] := ⟨rfl, rfl, by simp⟩
theorem Got.skip {L : List (List UInt8)} {ns : List Nat} {x : List UInt8} (h : Got L 1 ns) (hx : L[1]? = some x) : Got L (1 + 1) ns := by
  refine ⟨?_, h.2.1, h.2.2⟩
  rw [erase_take L 1 x hx, if_pos rfl]; exact h.1
theorem Got.next {L : List (List UInt8)} {ns : List Nat} {x : List UInt8} {i n : Nat} (h : Got L i ns) (hx : L[i]? = some x) (hn : numOf x = some n) (hi : i ≠ 1) : Got L (i + 1) (ns ++ [n]) := by
  refine ⟨?_, ?_, ?_⟩
  · rw [erase_take L i x hx, if_neg hi]; exact numsOf_snoc h.1 hn
  · rw [List.length_append, h.2.1]
    simp only [List.length_singleton]
    split <;> split <;> omega
  · intro m hm
    rcases List.mem_append.1 hm with hm | hm
    · exact h.2.2 m hm
    · obtain rfl := List.mem_singleton.1 hm
      exact numOf_le hn
theorem Got.bad {L : List (List UInt8)} {ns : List Nat} {x : List UInt8} {i : Nat} (_h : Got L i ns) (hx : L[i]? = some x) (hn : numOf x = none) (hi : i ≠ 1) : numsOf (L.eraseIdx 1) = none := by
  have hlt : i < L.length := (List.getElem?_eq_some_iff.1 hx).1
  have e : ∃ a b, L.eraseIdx 1 = a ++ x :: b := by
    have hm : x ∈ L.eraseIdx 1 := by
      rw [List.mem_eraseIdx_iff_getElem?]
      exact ⟨i, hi, hx⟩
    obtain ⟨a, b, h⟩ := List.append_of_mem hm
    exact ⟨a, b, h⟩
  obtain ⟨a, b, e⟩ := e
  rw [e]; exact numsOf_bad hn
theorem Got.done {L : List (List UInt8)} {ns : List Nat} (h : Got L L.length ns) : numsOf (L.eraseIdx 1) = some ns := by
  have := h.1
  rwa [List.take_length] at this
def NS (l : List Nat) : List Value := l.map fun n : Nat => Value.int .i64 (n : Int)
theorem NS_snoc (l : List Nat) (n : Nat) : NS (l ++ [n]) = NS l ++ [.int .i64 (n : Int)] := by simp [NS]
theorem toL_get {ws : List ByteArray} {i : Nat} {x : ByteArray} (h : ws[i]? = some x) : (toL ws)[i]? = some x.data.toList := by simp [toL, h]
theorem kind_of {ws : List ByteArray} {x : ByteArray} (h : ws[1]? = some x) : kindW ((toL ws).getD 1 []) = if (x.toList == [112, 97, 121, 109, 101, 110, 116]) = true then 1 else if (x.toList == [115, 117, 112, 112, 108, 121]) = true then 2 else if (x.toList == [116, 114, 97, 110, 115, 102, 101, 114]) = true then 3 else 0 := by
  have e : (toL ws).getD 1 [] = x.data.toList := by rw [List.getD_eq_getElem?_getD, toL_get h]; rfl
  rw [e, ByteArray.toList_eq]
  unfold kindW k1L k2L k3L
  by_cases h1 : x.data.toList = [112, 97, 121, 109, 101, 110, 116]
  · simp [h1]
  · by_cases h2 : x.data.toList = [115, 117, 112, 112, 108, 121]
    · simp [h2]
    · by_cases h3 : x.data.toList = [116, 114, 97, 110, 115, 102, 101, 114]
      · simp [h3]
      · simp [h1, h2, h3]
theorem four {l : List Nat} (h : l.length = 4) : ∃ a b c d, l = [a, b, c, d] := by
  match l, h with
  | [a, b, c, d], _ => exact ⟨a, b, c, d, rfl⟩
theorem five_of {l : List Nat} (h : l.length = 5) : ∃ a b c d e, l = [a, b, c, d, e] := by
  match l, h with
  | [a, b, c, d, e], _ => exact ⟨a, b, c, d, e, rfl⟩
end Go.Proofs.YtkllpfijeglppaaDoor.HsQ
