/- The walks of Check, the program's and the reference's. -/
import Derived.Test.YtkllpfijeglppaaDoorHsLaw4
namespace Go.Proofs.YtkllpfijeglppaaDoor.HsLaw5
open Go.RowKit Hs HsB HsC HsD HsF HsG HsH HsE HsI HsJ HsK HsL HsM HsN HsO HsP HsQ HsR HsS HsT HsU HsV HsW HsLaw1 HsPa HsLaw2 HsLaw3 HsLaw4
def inRange (r : HRow) : Prop := 0 ≤ r.day ∧ r.day ≤ 1048576 ∧ 1 ≤ r.kind ∧ r.kind ≤ 3 ∧ 0 ≤ r.amount ∧ r.amount ≤ 1125899906842624 ∧ 0 ≤ r.worth ∧ r.worth ≤ 1125899906842624 ∧ ¬ (r.worth ≠ 0 ∧ r.kind ≠ 3)
def inParties (n : Int) (r : HRow) : Prop := 0 ≤ r.src ∧ r.src < n ∧ 0 ≤ r.dst ∧ r.dst < n ∧ r.src ≠ r.dst
instance (r : HRow) : Decidable (inRange r) := by unfold inRange; infer_instance
instance (n : Int) (r : HRow) : Decidable (inParties n r) := by unfold inParties; infer_instance
/-- the error of a row -/
def rowErr (n : Int) (r : HRow) (b : Int) : Nat := if ¬ inRange r then 1 else if ¬ inParties n r then 14 else if r.day < b then 15 else 0
theorem err_range {n : Int} {r : HRow} {b : Int} (h : ¬ inRange r) : rowErr n r b = 1 := by unfold rowErr; rw [if_pos h]
theorem err_party {n : Int} {r : HRow} {b : Int} (h : inRange r) (h2 : ¬ inParties n r) : rowErr n r b = 14 := by unfold rowErr; rw [if_neg (by simpa using h), if_pos h2]
theorem err_order {n : Int} {r : HRow} {b : Int} (h : inRange r) (h2 : inParties n r) (h3 : r.day < b) : rowErr n r b = 15 := by unfold rowErr; rw [if_neg (by simpa using h), if_neg (by simpa using h2), if_pos h3]
theorem err_none {n : Int} {r : HRow} {b : Int} (h : inRange r) (h2 : inParties n r) (h3 : ¬ r.day < b) : rowErr n r b = 0 := by unfold rowErr; rw [if_neg (by simpa using h), if_neg (by simpa using h2), if_neg h3]
def checkFrom (n : Int) : Int → List HRow → Nat
  | _, [] => 0
  | b, r :: l => if rowErr n r b = 0 then checkFrom n r.day l else rowErr n r b
def checkOf (n : Int) (l : List HRow) : Nat := if 256 < l.length then 2 else checkFrom n 0 l
theorem ret_nat {k : IntKind} {a b : Nat} (h : a = b) : Ending.returned (.int k (a : Int)) = .returned (.int k (b : Int)) := by rw [h]
set_option maxHeartbeats 8000000 in
set_option maxRecDepth 100000 in
theorem checkRow_any (n b : Int) (r : HRow) (w : World) :
    Calls Tryd.prog 42 #[.int .i64 n, .agg #[.int .i64 r.day, .int .i64 r.kind, .int .i64 r.src, .int .i64 r.dst, .int .i64 r.amount, .int .i64 r.worth], .int .i64 b] w
      fun e w' => e = .returned (.int .i64 (rowErr n r b : Nat)) ∧ w.alloc (.cells #[.int .i64 r.day, .int .i64 r.kind, .int .i64 r.src, .int .i64 r.dst, .int .i64 r.amount, .int .i64 r.worth] 39) = w' := by
  by_cases hn0 : ¬ (0 ≤ r.day)
  · skip
    have hz := hide (err_range (by unfold inRange; omega) : rowErr n r b = 1)
    skip
    go_enter Tryd.func42, Tryd.ntmps42
    go_wp2_with fail
    all_goals (go_ret; first | exact ⟨ret_nat hz.out.symm, rfl⟩ | (refine ⟨ret_nat hz.out.symm, ?_⟩; have h0 : r.worth = 0 := (by assumption); rw [h0]))
  have hc0 : 0 ≤ r.day := Decidable.of_not_not hn0
  clear hn0
  by_cases hn1 : ¬ (r.day ≤ 1048576)
  · skip
    have hz := hide (err_range (by unfold inRange; omega) : rowErr n r b = 1)
    skip
    go_enter Tryd.func42, Tryd.ntmps42
    go_wp2_with fail
    all_goals (go_ret; first | exact ⟨ret_nat hz.out.symm, rfl⟩ | (refine ⟨ret_nat hz.out.symm, ?_⟩; have h0 : r.worth = 0 := (by assumption); rw [h0]))
  have hc1 : r.day ≤ 1048576 := Decidable.of_not_not hn1
  clear hn1
  by_cases hn2 : ¬ (1 ≤ r.kind)
  · skip
    have hz := hide (err_range (by unfold inRange; omega) : rowErr n r b = 1)
    skip
    go_enter Tryd.func42, Tryd.ntmps42
    go_wp2_with fail
    all_goals (go_ret; first | exact ⟨ret_nat hz.out.symm, rfl⟩ | (refine ⟨ret_nat hz.out.symm, ?_⟩; have h0 : r.worth = 0 := (by assumption); rw [h0]))
  have hc2 : 1 ≤ r.kind := Decidable.of_not_not hn2
  clear hn2
  by_cases hn3 : ¬ (r.kind ≤ 3)
  · skip
    have hz := hide (err_range (by unfold inRange; omega) : rowErr n r b = 1)
    skip
    go_enter Tryd.func42, Tryd.ntmps42
    go_wp2_with fail
    all_goals (go_ret; first | exact ⟨ret_nat hz.out.symm, rfl⟩ | (refine ⟨ret_nat hz.out.symm, ?_⟩; have h0 : r.worth = 0 := (by assumption); rw [h0]))
  have hc3 : r.kind ≤ 3 := Decidable.of_not_not hn3
  clear hn3
  by_cases hn4 : ¬ (0 ≤ r.amount)
  · skip
    have hz := hide (err_range (by unfold inRange; omega) : rowErr n r b = 1)
    skip
    go_enter Tryd.func42, Tryd.ntmps42
    go_wp2_with fail
    all_goals (go_ret; first | exact ⟨ret_nat hz.out.symm, rfl⟩ | (refine ⟨ret_nat hz.out.symm, ?_⟩; have h0 : r.worth = 0 := (by assumption); rw [h0]))
  have hc4 : 0 ≤ r.amount := Decidable.of_not_not hn4
  clear hn4
  by_cases hn5 : ¬ (r.amount ≤ 1125899906842624)
  · skip
    have hz := hide (err_range (by unfold inRange; omega) : rowErr n r b = 1)
    skip
    go_enter Tryd.func42, Tryd.ntmps42
    go_wp2_with fail
    all_goals (go_ret; first | exact ⟨ret_nat hz.out.symm, rfl⟩ | (refine ⟨ret_nat hz.out.symm, ?_⟩; have h0 : r.worth = 0 := (by assumption); rw [h0]))
  have hc5 : r.amount ≤ 1125899906842624 := Decidable.of_not_not hn5
  clear hn5
  by_cases hn6 : ¬ (0 ≤ r.worth)
  · skip
    have hz := hide (err_range (by unfold inRange; omega) : rowErr n r b = 1)
    skip
    go_enter Tryd.func42, Tryd.ntmps42
    go_wp2_with fail
    all_goals (go_ret; first | exact ⟨ret_nat hz.out.symm, rfl⟩ | (refine ⟨ret_nat hz.out.symm, ?_⟩; have h0 : r.worth = 0 := (by assumption); rw [h0]))
  have hc6 : 0 ≤ r.worth := Decidable.of_not_not hn6
  clear hn6
  by_cases hn7 : ¬ (r.worth ≤ 1125899906842624)
  · skip
    have hz := hide (err_range (by unfold inRange; omega) : rowErr n r b = 1)
    skip
    go_enter Tryd.func42, Tryd.ntmps42
    go_wp2_with fail
    all_goals (go_ret; first | exact ⟨ret_nat hz.out.symm, rfl⟩ | (refine ⟨ret_nat hz.out.symm, ?_⟩; have h0 : r.worth = 0 := (by assumption); rw [h0]))
  have hc7 : r.worth ≤ 1125899906842624 := Decidable.of_not_not hn7
  clear hn7
  by_cases hc8 : r.worth ≠ 0 ∧ r.kind ≠ 3
  · have hw1 : (r.worth != 0) = true := by simpa using hc8.1
    have hw2 : (r.kind != 3) = true := by simpa using hc8.2
    have hz := hide (err_range (by unfold inRange; omega) : rowErr n r b = 1)
    skip
    go_enter Tryd.func42, Tryd.ntmps42
    go_wp2_with fail
    all_goals (go_ret; first | exact ⟨ret_nat hz.out.symm, rfl⟩ | (refine ⟨ret_nat hz.out.symm, ?_⟩; have h0 : r.worth = 0 := (by assumption); rw [h0]))
  have hwk : ((r.worth != 0) && (r.kind != 3)) = false := by
    rw [Bool.and_eq_false_iff]
    by_cases h : r.worth = 0
    · left; simpa using h
    · right; simp only [bne_eq_false_iff_eq]; exact Decidable.of_not_not fun h' => hc8 ⟨h, h'⟩
  by_cases hn9 : ¬ (0 ≤ r.src)
  · skip
    have hz := hide (err_party (by unfold inRange; omega) (by unfold inParties; omega) : rowErr n r b = 14)
    clear hc8
    go_enter Tryd.func42, Tryd.ntmps42
    go_wp2_with fail
    all_goals (go_ret; first | exact ⟨ret_nat hz.out.symm, rfl⟩ | (refine ⟨ret_nat hz.out.symm, ?_⟩; have h0 : r.worth = 0 := (by assumption); rw [h0]))
  have hc9 : 0 ≤ r.src := Decidable.of_not_not hn9
  clear hn9
  by_cases hn10 : ¬ (r.src < n)
  · skip
    have hz := hide (err_party (by unfold inRange; omega) (by unfold inParties; omega) : rowErr n r b = 14)
    clear hc8
    go_enter Tryd.func42, Tryd.ntmps42
    go_wp2_with fail
    all_goals (go_ret; first | exact ⟨ret_nat hz.out.symm, rfl⟩ | (refine ⟨ret_nat hz.out.symm, ?_⟩; have h0 : r.worth = 0 := (by assumption); rw [h0]))
  have hc10 : r.src < n := Decidable.of_not_not hn10
  clear hn10
  by_cases hn11 : ¬ (0 ≤ r.dst)
  · skip
    have hz := hide (err_party (by unfold inRange; omega) (by unfold inParties; omega) : rowErr n r b = 14)
    clear hc8
    go_enter Tryd.func42, Tryd.ntmps42
    go_wp2_with fail
    all_goals (go_ret; first | exact ⟨ret_nat hz.out.symm, rfl⟩ | (refine ⟨ret_nat hz.out.symm, ?_⟩; have h0 : r.worth = 0 := (by assumption); rw [h0]))
  have hc11 : 0 ≤ r.dst := Decidable.of_not_not hn11
  clear hn11
  by_cases hn12 : ¬ (r.dst < n)
  · skip
    have hz := hide (err_party (by unfold inRange; omega) (by unfold inParties; omega) : rowErr n r b = 14)
    clear hc8
    go_enter Tryd.func42, Tryd.ntmps42
    go_wp2_with fail
    all_goals (go_ret; first | exact ⟨ret_nat hz.out.symm, rfl⟩ | (refine ⟨ret_nat hz.out.symm, ?_⟩; have h0 : r.worth = 0 := (by assumption); rw [h0]))
  have hc12 : r.dst < n := Decidable.of_not_not hn12
  clear hn12
  by_cases hn13 : ¬ (r.src ≠ r.dst)
  · skip
    have hsd : (r.src == r.dst) = true := by simpa using hn13
    have hz := hide (err_party (by unfold inRange; omega) (by unfold inParties; omega) : rowErr n r b = 14)
    clear hc8
    go_enter Tryd.func42, Tryd.ntmps42
    go_wp2_with fail
    all_goals (go_ret; first | exact ⟨ret_nat hz.out.symm, rfl⟩ | (refine ⟨ret_nat hz.out.symm, ?_⟩; have h0 : r.worth = 0 := (by assumption); rw [h0]))
  have hc13 : r.src ≠ r.dst := Decidable.of_not_not hn13
  clear hn13
  have hsd : (r.src == r.dst) = false := by simpa using hc13
  have hir : inRange r := by unfold inRange; omega
  have hip : inParties n r := by unfold inParties; omega
  all_goals
    by_cases hb : r.day < b
    · have hz := hide (err_order hir hip hb)
      clear hir hip hc8
      go_enter Tryd.func42, Tryd.ntmps42
      go_wp2_with fail
      all_goals (go_ret; first | exact ⟨ret_nat hz.out.symm, rfl⟩ | (refine ⟨ret_nat hz.out.symm, ?_⟩; have h0 : r.worth = 0 := (by assumption); rw [h0]))
    · have hz := hide (err_none hir hip hb)
      clear hir hip hc8
      go_enter Tryd.func42, Tryd.ntmps42
      go_wp2_with fail
      all_goals (go_ret; first | exact ⟨ret_nat hz.out.symm, rfl⟩ | (refine ⟨ret_nat hz.out.symm, ?_⟩; have h0 : r.worth = 0 := (by assumption); rw [h0]))
end Go.Proofs.YtkllpfijeglppaaDoor.HsLaw5
