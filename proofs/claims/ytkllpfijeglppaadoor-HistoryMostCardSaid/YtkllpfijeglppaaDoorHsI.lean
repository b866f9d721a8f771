/- The walk of Format. -/
import Derived.Test.YtkllpfijeglppaaDoorHsH
import Derived.Test.YtkllpfijeglppaaDoorHsE
namespace Go.Proofs.YtkllpfijeglppaaDoor.HsI
open Go.RowKit Hs HsB HsC HsD HsF HsG HsH HsE
def fmtText (l : List HRow) : List UInt8 := l.flatMap fun r => (lineOf r).1.data.toList
def allLines (l : List HRow) : Bool := l.all fun r => (lineOf r).2
/-- the text of a history -/
def formatOf (l : List HRow) : List UInt8 := if 256 < l.length ∨ allLines l = false ∨ 8192 < (fmtText l).length then [] else fmtText l
theorem lineOf_le {r : HRow} (h : RowIn r) : (lineOf r).1.size ≤ 1001 := by
  have h1 := wordsOf_len r
  have h2 := outOf_le h1.2 h1.1 (wordsOf_in h)
  have h3 := join_bound _ h2.1 h2.2
  unfold lineOf
  rw [mk_size, List.length_append]
  simp only [List.length_singleton]
  omega
theorem fmtText_snoc (l : List HRow) (r : HRow) : fmtText (l ++ [r]) = fmtText l ++ (lineOf r).1.data.toList := by simp [fmtText]
theorem fmtText_le (l : List HRow) (h : ∀ r ∈ l, RowIn r) : (fmtText l).length ≤ 1001 * l.length := by
  induction l with
  | nil => simp [fmtText]
  | cons a l ih =>
    have h1 := lineOf_le (h a (by simp))
    have h2 := ih (fun r hr => h r (by simp [hr]))
    have e : (fmtText (a :: l)).length = (lineOf a).1.size + (fmtText l).length := by simp [fmtText]
    rw [e, List.length_cons]
    omega
theorem builder_below {T e B b : Nat} {bs : List Value} {w w' : World} (h : Lib.IsBuilder T e B b bs w) (hb : Below w.heap.size w w') : Lib.IsBuilder T e B b bs w' := by
  have key : ∀ p, Lib.BuilderAt T e B b p bs w → Lib.BuilderAt T e B b p bs w' := by
    intro p hp
    have hlt := hp.lt
    obtain ⟨h1, v, h2, h3, h4⟩ := hp
    exact ⟨h1, v, (hb.block b hlt).trans h2, own_below h3 hb, h4⟩
  rcases h with h | h
  · exact .inl (key _ h)
  · exact .inr (key _ h)
end Go.Proofs.YtkllpfijeglppaaDoor.HsI
