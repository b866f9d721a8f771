/- The walk of CheckMatch. -/
import Derived.Test.YtkllpfijeglppaaDoorHsMb
namespace Go.Proofs.YtkllpfijeglppaaDoor.HsMc
open Go.RowKit Hs HsB HsC HsD HsF HsG HsH HsE HsI HsJ HsK HsL HsM HsN HsO HsP HsQ HsR HsS HsT HsU HsV HsMa HsLaw6 HsMb
def matchErr (a b : List HRow) (s : Int) : Int := if 256 < a.length ∨ 256 < b.length then 2 else if ¬ (days a = true ∧ days b = true ∧ 0 ≤ s ∧ s ≤ 1048576) then 1 else if ¬ (stepsUp a = true ∧ stepsUp b = true) then 15 else 0
theorem matchErr2 {a b : List HRow} {s : Int} (h : 256 < a.length ∨ 256 < b.length) : (2 : Int) = matchErr a b s := by rw [matchErr, if_pos h]
theorem matchErr1 {a b : List HRow} {s : Int} (h : ¬ (256 < a.length ∨ 256 < b.length)) (h1 : ¬ (days a = true ∧ days b = true ∧ 0 ≤ s ∧ s ≤ 1048576)) : (1 : Int) = matchErr a b s := by rw [matchErr, if_neg h, if_pos h1]
theorem matchErr15 {a b : List HRow} {s : Int} (h : ¬ (256 < a.length ∨ 256 < b.length)) (h1 : days a = true ∧ days b = true ∧ 0 ≤ s ∧ s ≤ 1048576) (h2 : ¬ (stepsUp a = true ∧ stepsUp b = true)) : (15 : Int) = matchErr a b s := by rw [matchErr, if_neg h, if_neg (by simpa using h1), if_pos h2]
theorem matchErr0 {a b : List HRow} {s : Int} (h : ¬ (256 < a.length ∨ 256 < b.length)) (h1 : days a = true ∧ days b = true ∧ 0 ≤ s ∧ s ≤ 1048576) (h2 : stepsUp a = true ∧ stepsUp b = true) : (0 : Int) = matchErr a b s := by rw [matchErr, if_neg h, if_neg (by simpa using h1), if_neg (by simpa using h2)]
set_option maxHeartbeats 4000000 in
set_option maxRecDepth 100000 in
theorem check_early (a b : List HRow) (A B : Option Addr) (c c' : Nat) (s : Int) (w : World) (ha : RowsAt w w.heap.size A a) (hb : RowsAt w w.heap.size B b) (h : 256 < a.length ∨ 256 < b.length ∨ ¬ (days a = true ∧ days b = true ∧ 0 ≤ s ∧ s ≤ 1048576)) :
    Calls Tryd.prog 48 #[.slice A a.length c, .slice B b.length c', .int .i64 s] w fun e w' => e = .returned (.int .i64 (matchErr a b s)) ∧ Below w.heap.size w w' := by
  have hla := ha.1
  have hlb := hb.1
  unfold maxLen at hla hlb
  have HA := hide ha
  have HB := hide hb
  clear ha hb
  by_cases h1 : 256 < a.length
  · clear h
    go_enter Tryd.func48, Tryd.ntmps48
    go_wp2_with fail
    go_ret
    exact ⟨ret_int (matchErr2 (.inl h1)), Below.refl _ _⟩
  · by_cases h2 : 256 < b.length
    · clear h
      go_enter Tryd.func48, Tryd.ntmps48
      go_wp2_with fail
      go_ret
      exact ⟨ret_int (matchErr2 (.inr h2)), Below.refl _ _⟩
    · have h3 : ¬ (days a = true ∧ days b = true ∧ 0 ≤ s ∧ s ≤ 1048576) := by
        rcases h with h | h | h
        · exact absurd h h1
        · exact absurd h h2
        · exact h
      have RES := hide (matchErr1 (a := a) (b := b) (s := s) (by omega) h3)
      clear h
      by_cases d1 : days a = true
      · have e1 := (daysErr0 d1).symm
        by_cases d2 : days b = true
        · have e2 := (daysErr0 d2).symm
          have d3 : s < 0 ∨ 1048576 < s := by
            rcases (by omega : (s < 0 ∨ 1048576 < s) ∨ (0 ≤ s ∧ s ≤ 1048576)) with h | h
            · exact h
            · exact absurd ⟨d1, d2, h⟩ h3
          have D3 := hide d3
          clear h3 d3 d1 d2
          go_enter Tryd.func48, Tryd.ntmps48
          go_wp2_with fail
          refine (rordered_any a _ _ _ HA.out).mono ?_
          rintro e w1 ⟨rfl, hb1⟩
          rw [e1]
          go_wp2_with fail
          refine (rordered_any b _ _ _ ((HB.out.below hb1).mono hb1.size)).mono ?_
          rintro e w2 ⟨rfl, hb2⟩
          rw [e2]
          go_wp2_with (go_at_call 43; refine (day_no _ _ D3.out).mono ?_; rintro e w3 ⟨rfl, rfl⟩)
          go_ret
          exact ⟨ret_int RES.out, hb1.trans (hb2.mono hb1.size)⟩
        · have e2 := (daysErr1 (by simpa using d2)).symm
          clear h3 d1 d2
          go_enter Tryd.func48, Tryd.ntmps48
          go_wp2_with fail
          refine (rordered_any a _ _ _ HA.out).mono ?_
          rintro e w1 ⟨rfl, hb1⟩
          rw [e1]
          go_wp2_with fail
          refine (rordered_any b _ _ _ ((HB.out.below hb1).mono hb1.size)).mono ?_
          rintro e w2 ⟨rfl, hb2⟩
          rw [e2]
          go_wp2_with fail
          go_ret
          exact ⟨ret_int RES.out, hb1.trans (hb2.mono hb1.size)⟩
      · have e1 := (daysErr1 (by simpa using d1)).symm
        clear h3 d1
        go_enter Tryd.func48, Tryd.ntmps48
        go_wp2_with fail
        refine (rordered_any a _ _ _ HA.out).mono ?_
        rintro e w1 ⟨rfl, hb1⟩
        rw [e1]
        go_wp2_with fail
        go_ret
        exact ⟨ret_int RES.out, hb1⟩
end Go.Proofs.YtkllpfijeglppaaDoor.HsMc
