/- The walks of word and line. -/
import Derived.Test.YtkllpfijeglppaaDoorHsF
import Derived.Lib.ItoaLen
namespace Go.Proofs.YtkllpfijeglppaaDoor.HsG
open Go.RowKit Hs HsB HsC HsD HsF
def tx (n : Int) : ByteArray := ⟨(Lib.itoa n).toArray⟩
theorem tx_list (n : Int) : (tx n).data.toList = Lib.itoa n := rfl
theorem tx_size (n : Int) : (tx n).size = (Lib.itoa n).length := by
  have : (tx n).data.toList.length = (tx n).size := by simp
  rw [← this, tx_list]
/-- a number that a line may hold -/
def fits (n : Int) : Bool := decide (0 ≤ n) && decide ((tx n).size ≤ 18)
def In64 (n : Int) : Prop := -9223372036854775808 ≤ n ∧ n ≤ 9223372036854775807
theorem tx_le {n : Int} (h : In64 n) : (tx n).size ≤ 21 := by rw [tx_size]; exact Lib.itoa_length_le n h.1 h.2
theorem fmt_any (n : Int) (w : World) (h : In64 n) (he : Env w) :
    Calls Tryd.prog 60 #[.int .i64 n, .int .i64 10] w fun e w' => e = .returned (.string (tx n)) ∧ Below w.heap.size w w' := by
  refine (Tryd.strconv_FormatInt_10 _ h.1 h.2 _ he.2.2).mono ?_
  rintro e w' ⟨rfl, kk, os, rfl⟩
  exact ⟨rfl, Lib.below_grow w.heap.size w (Nat.le_refl _) kk os⟩
theorem word_any (n : Int) (w : World) (h : In64 n) (he : Env w) :
    Calls Tryd.prog 51 #[.int .i64 n] w fun e w' => e = .returned (.tuple #[.string (tx n), .bool (fits n)]) ∧ Below w.heap.size w w' := by
  by_cases hp : 0 ≤ n <;> cases hs : decide ((tx n).size ≤ 18)
  all_goals
    have HS : Hid (fits n = (decide (0 ≤ n) && decide ((tx n).size ≤ 18))) := rfl
    rw [hs] at HS
    have H2 := hide hs
    clear hs
    go_enter Tryd.func51, Tryd.ntmps51
    go_wp2_with fail
    refine (fmt_any _ _ h he).mono ?_
    rintro e w1 ⟨rfl, hb⟩
    have H3 := H2.out
    go_wp2_with fail
    go_ret2
    refine ⟨?_, hb⟩
    rw [HS.out]
    have H4 := H2.out
    simp at H4
    simp [hp]
    try omega
/-- the words of a line -/
def outOf (key : ByteArray) : List Int → List ByteArray
  | [] => []
  | n :: l => tx n :: key :: l.map tx
def strs (l : List ByteArray) : List Value := l.map Value.string
theorem outOf_snoc (key : ByteArray) (l : List Int) (n : Int) (h : l ≠ []) : outOf key (l ++ [n]) = outOf key l ++ [tx n] := by
  cases l with
  | nil => exact absurd rfl h
  | cons a l => simp [outOf]
/-- the text of a row's line, and whether it has one -/
def lineOf (r : HRow) : ByteArray × Bool :=
  (⟨(Lib.join ((outOf (wordsOf r).1 (wordsOf r).2.1).map (fun x : ByteArray => x.data.toList)) [32] ++ [10]).toArray⟩, (wordsOf r).2.2 && (wordsOf r).2.1.all fits)
def RowIn (r : HRow) : Prop := In64 r.day ∧ In64 r.src ∧ In64 r.dst ∧ In64 r.amount ∧ In64 r.worth
theorem wordsOf_in {r : HRow} (h : RowIn r) : ∀ n ∈ (wordsOf r).2.1, In64 n := by
  obtain ⟨h0, h1, h2, h3, h4⟩ := h
  unfold wordsOf
  intro n hn
  split at hn
  · simp at hn; rcases hn with rfl | rfl | rfl | rfl <;> assumption
  · split at hn
    · simp at hn; rcases hn with rfl | rfl | rfl | rfl <;> assumption
    · split at hn
      · simp at hn; rcases hn with rfl | rfl | rfl | rfl | rfl <;> assumption
      · simp at hn
theorem wordsOf_len (r : HRow) : (wordsOf r).2.1.length ≤ 5 ∧ (wordsOf r).1.size ≤ 8 := by
  unfold wordsOf
  split
  · exact ⟨by simp, by show ByteArray.size _ ≤ 8; first | exact (by decide : key1.size ≤ 8) | exact (by decide : key2.size ≤ 8) | exact (by decide : key3.size ≤ 8) | exact (by decide : (⟨#[]⟩ : ByteArray).size ≤ 8)⟩
  · split
    · exact ⟨by simp, by show ByteArray.size _ ≤ 8; first | exact (by decide : key1.size ≤ 8) | exact (by decide : key2.size ≤ 8) | exact (by decide : key3.size ≤ 8) | exact (by decide : (⟨#[]⟩ : ByteArray).size ≤ 8)⟩
    · split
      · exact ⟨by simp, by show ByteArray.size _ ≤ 8; first | exact (by decide : key1.size ≤ 8) | exact (by decide : key2.size ≤ 8) | exact (by decide : key3.size ≤ 8) | exact (by decide : (⟨#[]⟩ : ByteArray).size ≤ 8)⟩
      · exact ⟨by simp, by show ByteArray.size _ ≤ 8; first | exact (by decide : key1.size ≤ 8) | exact (by decide : key2.size ≤ 8) | exact (by decide : key3.size ≤ 8) | exact (by decide : (⟨#[]⟩ : ByteArray).size ≤ 8)⟩
theorem infoS : (Tryd.prog.info? 9).map (fun i => (i.zero, i.size, i.bytes)) = some (some (.string ByteArray.empty), 1, 16) := by kernel_rfl
theorem ints_get {l : List Int} {k : Nat} {n : Int} (h : l[k]? = some n) : (ints l)[k]? = some (.int .i64 n) := by simp [ints, h]
theorem outOf_le {key : ByteArray} {l : List Int} (hk : key.size ≤ 8) (hl : l.length ≤ 5) (h : ∀ n ∈ l, In64 n) : (∀ x ∈ outOf key l, x.size ≤ 21) ∧ (outOf key l).length ≤ 6 := by
  cases l with
  | nil => exact ⟨by simp [outOf], by simp [outOf]⟩
  | cons a l =>
    refine ⟨fun x hx => ?_, by simp [outOf] at hl ⊢; omega⟩
    simp only [outOf, List.mem_cons, List.mem_map] at hx
    rcases hx with rfl | rfl | ⟨n, hn, rfl⟩
    · exact tx_le (h a (by simp))
    · omega
    · exact tx_le (h n (by simp [hn]))
end Go.Proofs.YtkllpfijeglppaaDoor.HsG
