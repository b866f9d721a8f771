/- The walks of Money, the program's and the reference's. -/
import Derived.Test.YtkllpfijeglppaaDoorProg
import Derived.Test.YtkllpfijeglppaaDoorHsA
import Derived.WalkKit
import Derived.WalkSpells
import Derived.LoopTactic
import Derived.IntWalk
import Derived.Lib.Hide
import Derived.Outline
import Derived.OwnWalk
namespace Go.Proofs.YtkllpfijeglppaaDoor.HsB
open Go.RowKit Hs
theorem hide {p : Prop} (h : p) : Hid p := h
theorem ret_int {k : IntKind} {a b : Int} (h : a = b) : Ending.returned (.int k a) = .returned (.int k b) := by rw [h]
set_option maxHeartbeats 1000000 in
theorem money_any (r : HRow) (p : Int) (w : World) :
    Calls Tryd.prog 20 #[.agg #[.int .i64 r.day, .int .i64 r.kind, .int .i64 r.src, .int .i64 r.dst, .int .i64 r.amount, .int .i64 r.worth], .int .i64 p] w
      fun e w' => e = .returned (.int .i64 (money r p)) ∧ w.alloc (.cells #[.int .i64 r.day, .int .i64 r.kind, .int .i64 r.src, .int .i64 r.dst, .int .i64 r.amount, .int .i64 r.worth] 39) = w' := by
  obtain ⟨d, k, s, t, a, x⟩ := r
  cases h1 : (k == 1) <;> cases h3 : (k == 3) <;> cases h4 : (t == p) <;> cases h5 : (s == p)
  all_goals
    first
    | (exfalso; simp only [beq_iff_eq] at h1 h3; omega)
    | (go_enter Tryd.func20, Tryd.ntmps20
       go_wp2
       go_ret
       refine ⟨ret_int ?_, rfl⟩
       simp only [beq_iff_eq, beq_eq_false_iff_ne] at h1 h3 h4 h5
       simp only [money, flow, h1, h3, h4, h5, if_true, if_false]
       simp [wrap64]
       try omega)
set_option maxHeartbeats 1000000 in
theorem rmoney_any (r : HRow) (p : Int) (w : World) :
    Calls Tryd.prog 21 #[.agg #[.int .i64 r.day, .int .i64 r.kind, .int .i64 r.src, .int .i64 r.dst, .int .i64 r.amount, .int .i64 r.worth], .int .i64 p] w
      fun e w' => e = .returned (.int .i64 (money r p)) ∧ w.alloc (.cells #[.int .i64 r.day, .int .i64 r.kind, .int .i64 r.src, .int .i64 r.dst, .int .i64 r.amount, .int .i64 r.worth] 39) = w' := by
  obtain ⟨d, k, s, t, a, x⟩ := r
  cases h1 : (k == 1) <;> cases h3 : (k == 3) <;> cases h4 : (t == p) <;> cases h5 : (s == p)
  all_goals
    first
    | (exfalso; simp only [beq_iff_eq] at h1 h3; omega)
    | (go_enter Tryd.func21, Tryd.ntmps21
       go_wp2
       go_ret
       refine ⟨ret_int ?_, rfl⟩
       simp only [beq_iff_eq, beq_eq_false_iff_ne] at h1 h3 h4 h5
       simp only [money, flow, h1, h3, h4, h5, if_true, if_false]
       simp [wrap64]
       try omega)
end Go.Proofs.YtkllpfijeglppaaDoor.HsB
