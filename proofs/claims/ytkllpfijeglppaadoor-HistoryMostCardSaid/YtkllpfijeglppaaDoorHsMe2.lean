/- The walk of the reference's Match, once its checks have passed. -/
import Derived.Test.YtkllpfijeglppaaDoorHsMf
namespace Go.Proofs.YtkllpfijeglppaaDoor.HsMe2
open Go.RowKit Hs HsB HsC HsD HsF HsG HsH HsE HsI HsJ HsK HsL HsM HsN HsO HsP HsQ HsR HsS HsT HsU HsV HsMa HsLaw6 HsMb HsMc HsMd HsMe HsMf
/-- the cells of a list of pairs -/
def pvals (l : List (Nat × Nat)) : List Value := l.flatMap fun r => [.int .i64 (r.1 : Int), .int .i64 (r.2 : Int)]
theorem pvals_snoc (l : List (Nat × Nat)) (r : Nat × Nat) : pvals (l ++ [r]) = pvals l ++ [.int .i64 (r.1 : Int), .int .i64 (r.2 : Int)] := by simp [pvals]
def MatchPost (l : List (Nat × Nat)) (er : Int) (w : World) (e : Ending) (w' : World) : Prop :=
  ∃ v, e = .returned (.tuple #[v, .int .i64 er]) ∧ w'.ownsRow w.heap.size 62 2 v l.length (pvals l) ∧ Below w.heap.size w w'
theorem pairInfo : (Tryd.prog.info? 62).map (fun i => (i.zero, i.size, i.bytes)) = some (some (.agg #[.int .i64 0, .int .i64 0]), 2, 16) := by kernel_rfl
theorem boolInfo : (Tryd.prog.info? 4).map (fun i => (i.zero, i.size, i.bytes)) = some (some (.bool false), 1, 1) := by kernel_rfl
theorem check_any (a b : List HRow) (A B : Option Addr) (c c' : Nat) (s : Int) (w : World) (ha : RowsAt w w.heap.size A a) (hb : RowsAt w w.heap.size B b) :
    Calls Tryd.prog 48 #[.slice A a.length c, .slice B b.length c', .int .i64 s] w fun e w' => e = .returned (.int .i64 (matchErr a b s)) ∧ Below w.heap.size w w' := by
  by_cases h : 256 < a.length ∨ 256 < b.length ∨ ¬ (days a = true ∧ days b = true ∧ 0 ≤ s ∧ s ≤ 1048576)
  · exact check_early a b A B c c' s w ha hb h
  · have h1 : ¬ 256 < a.length := fun e => h (.inl e)
    have h2 : ¬ 256 < b.length := fun e => h (.inr (.inl e))
    have h3 : days a = true ∧ days b = true ∧ 0 ≤ s ∧ s ≤ 1048576 := Classical.byContradiction fun e => h (.inr (.inr e))
    exact check_late a b A B c c' s w ha hb h1 h2 h3.1 h3.2.1 h3.2.2.1 h3.2.2.2
theorem matchErr_ok {a b : List HRow} {s : Int} (h : matchErr a b s = 0) : a.length ≤ 256 ∧ b.length ≤ 256 ∧ days a = true ∧ days b = true ∧ 0 ≤ s ∧ s ≤ 1048576 ∧ stepsUp a = true ∧ stepsUp b = true := by
  unfold matchErr at h
  split at h
  · omega
  · split at h
    · omega
    · split at h
      · omega
      · rename_i h1 h2 h3
        have h2' := Classical.not_not.1 h2
        have h3' := Classical.not_not.1 h3
        exact ⟨by omega, by omega, h2'.1, h2'.2.1, h2'.2.2.1, h2'.2.2.2, h3'.1, h3'.2⟩
theorem dayIn_of {l : List HRow} (h : days l = true) {k : Nat} {r : HRow} (hk : l[k]? = some r) : DayIn r := by
  unfold days at h
  rw [List.all_eq_true] at h
  simpa using h r (List.mem_of_getElem? hk)
end Go.Proofs.YtkllpfijeglppaaDoor.HsMe2
