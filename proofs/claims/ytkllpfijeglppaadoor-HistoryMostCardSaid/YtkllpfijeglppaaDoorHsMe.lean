/- Plain: what Match answers. -/
import Derived.Test.YtkllpfijeglppaaDoorHsMd
namespace Go.Proofs.YtkllpfijeglppaaDoor.HsMe
open Go.RowKit Hs HsC HsMa HsMb HsMc
/-- the first k' from k on that is unused and corresponds to x -/
def pick (s : Int) (x : HRow) (b : List HRow) (used : List Bool) : Nat → Option Nat
  | 0 => none
  | n + 1 => if used.getD (b.length - (n + 1)) false = false ∧ near s x (b.getD (b.length - (n + 1)) x) = true then some (b.length - (n + 1)) else pick s x b used n
/-- the pairs from the i-th row of a on, and the used rows at the end -/
def pairs (s : Int) (b : List HRow) : Nat → List HRow → List Bool → List (Nat × Nat)
  | _, [], _ => []
  | i, x :: a, used => match pick s x b used b.length with
    | none => pairs s b (i + 1) a used
    | some k => (i, k) :: pairs s b (i + 1) a (used.set k true)
def matchOf (a b : List HRow) (s : Int) : List (Nat × Nat) := if matchErr a b s = 0 then pairs s b 0 a (List.replicate b.length false) else []
theorem pick_lt (s : Int) (x : HRow) (b : List HRow) (used : List Bool) : ∀ n k, pick s x b used n = some k → n ≤ b.length → k < b.length
  | 0, k, h, _ => by simp [pick] at h
  | n + 1, k, h, hn => by
    unfold pick at h
    split at h
    · injection h with h; omega
    · exact pick_lt s x b used n k h (by omega)
theorem pick_hit {s : Int} {x y : HRow} {b : List HRow} {used : List Bool} {k : Nat} (hk : b[k]? = some y) (hu : used[k]? = some false) (hn : near s x y = true) : pick s x b used (b.length - k) = some k := by
  have hkl : k < b.length := (List.getElem?_eq_some_iff.1 hk).1
  have e : b.length - k = (b.length - (k + 1)) + 1 := by omega
  rw [e, pick, show b.length - (b.length - (k + 1) + 1) = k by omega]
  rw [List.getD_eq_getElem?_getD, List.getD_eq_getElem?_getD, hk, hu]
  simp [hn]
theorem pick_miss {s : Int} {x y : HRow} {b : List HRow} {used : List Bool} {k : Nat} {u : Bool} (hk : b[k]? = some y) (hu : used[k]? = some u) (hn : u = true ∨ near s x y = false) : pick s x b used (b.length - k) = pick s x b used (b.length - (k + 1)) := by
  have hkl : k < b.length := (List.getElem?_eq_some_iff.1 hk).1
  have e : b.length - k = (b.length - (k + 1)) + 1 := by omega
  rw [e, pick, show b.length - (b.length - (k + 1) + 1) = k by omega]
  rw [List.getD_eq_getElem?_getD, List.getD_eq_getElem?_getD, hk, hu]
  rcases hn with hn | hn <;> simp [hn]
theorem pairs_len (s : Int) (b : List HRow) : ∀ (i : Nat) (a : List HRow) (used : List Bool), (pairs s b i a used).length ≤ a.length
  | _, [], _ => by simp [pairs]
  | i, x :: a, used => by
    unfold pairs
    split
    · have := pairs_len s b (i + 1) a used
      simp; omega
    · have := pairs_len s b (i + 1) a (used.set ‹_› true)
      simp; omega
end Go.Proofs.YtkllpfijeglppaaDoor.HsMe
