/- The walks of the small functions that Match asks. -/
import Derived.Test.YtkllpfijeglppaaDoorHsV
namespace Go.Proofs.YtkllpfijeglppaaDoor.HsMa
open Go.RowKit Hs HsB HsC HsD HsF HsG HsH HsE HsI HsJ HsK HsL HsM HsN HsO HsP HsQ HsR HsS HsT HsU HsV
def DayIn (r : HRow) : Prop := 0 ≤ r.day ∧ r.day ≤ 1048576
instance (r : HRow) : Decidable (DayIn r) := by unfold DayIn; infer_instance
def sameButDay (a b : HRow) : Bool := a.kind == b.kind && a.src == b.src && a.dst == b.dst && a.amount == b.amount && a.worth == b.worth
/-- two rows correspond -/
def near (s : Int) (a b : HRow) : Bool := sameButDay a b && decide (a.day - b.day ≤ s) && decide (-(a.day - b.day) ≤ s)
theorem row_eql (a b c d e f a' b' c' d' e' f' : Int) (W : World) : (binOp .eql 39 (.agg #[.int .i64 a, .int .i64 b, .int .i64 c, .int .i64 d, .int .i64 e, .int .i64 f]) (.agg #[.int .i64 a', .int .i64 b', .int .i64 c', .int .i64 d', .int .i64 e', .int .i64 f'])).run Tryd.prog W = .ok (.bool (a == a' && b == b' && c == c' && d == d' && e == e' && f == f')) W := by
  rw [run_eql_struct, run_equalIn_agg W 9999 _ _ _ row_und row_held, row_fields]
  simp [go_sem, Bool.and_assoc]
  repeat' split
  all_goals simp_all
theorem ret_bool {a b : Bool} (h : a = b) : Ending.returned (.bool a) = Ending.returned (.bool b) := by rw [h]
set_option maxHeartbeats 2000000 in
theorem near_any (a b : HRow) (s : Int) (w : World) (ha : DayIn a) (hb : DayIn b) :
    Calls Tryd.prog 49 #[.agg #[.int .i64 a.day, .int .i64 a.kind, .int .i64 a.src, .int .i64 a.dst, .int .i64 a.amount, .int .i64 a.worth], .agg #[.int .i64 b.day, .int .i64 b.kind, .int .i64 b.src, .int .i64 b.dst, .int .i64 b.amount, .int .i64 b.worth], .int .i64 s] w
      fun e w' => e = .returned (.bool (near s a b)) ∧ Below w.heap.size w w' := by
  obtain ⟨d, k, f, t, m, x⟩ := a
  obtain ⟨d', k', f', t', m', x'⟩ := b
  unfold DayIn at ha hb
  dsimp only at ha hb
  obtain ⟨ha0, ha1⟩ := ha
  obtain ⟨hb0, hb1⟩ := hb
  have hw1 : IntKind.i64.wrap (d - d') = d - d' := IntWalk.i64_in _ (by omega)
  have hw2 : IntKind.i64.wrap (-(d - d')) = -(d - d') := IntWalk.i64_in _ (by omega)
  go_enter Tryd.func49, Tryd.ntmps49
  go_wp2_with fail
  all_goals
    go_ret
    refine ⟨ret_bool ?_, ((Below.refl _ _).alloc (Nat.le_refl _) _).alloc (by simp) _⟩
    simp [near, sameButDay, *] <;> intros <;> omega
set_option maxRecDepth 100000 in
set_option maxHeartbeats 2000000 in
theorem corr_any (a b : HRow) (s : Int) (w : World) (ha : DayIn a) (hb : DayIn b) :
    Calls Tryd.prog 47 #[.agg #[.int .i64 a.day, .int .i64 a.kind, .int .i64 a.src, .int .i64 a.dst, .int .i64 a.amount, .int .i64 a.worth], .agg #[.int .i64 b.day, .int .i64 b.kind, .int .i64 b.src, .int .i64 b.dst, .int .i64 b.amount, .int .i64 b.worth], .int .i64 s] w
      fun e w' => e = .returned (.bool (near s a b)) ∧ Below w.heap.size w w' := by
  obtain ⟨d, k, f, t, m, x⟩ := a
  obtain ⟨d', k', f', t', m', x'⟩ := b
  unfold DayIn at ha hb
  dsimp only at ha hb
  obtain ⟨ha0, ha1⟩ := ha
  obtain ⟨hb0, hb1⟩ := hb
  have hw1 : IntKind.i64.wrap (d - d') = d - d' := IntWalk.i64_in _ (by omega)
  have hw2 : IntKind.i64.wrap (-(d - d')) = -(d - d') := IntWalk.i64_in _ (by omega)
  have hre := fun W => row_eql d' k f t m x d' k' f' t' m' x' W
  have hrg := row_guard
  go_enter Tryd.func47, Tryd.ntmps47
  go_wp2_with fail
  all_goals
    go_ret
    refine ⟨ret_bool ?_, ((Below.refl _ _).alloc (Nat.le_refl _) _).alloc (by simp) _⟩
    clear hre hrg hw1 hw2
    simp_all [near, sameButDay] <;> intros <;> omega
def days (l : List HRow) : Bool := l.all fun r => decide (DayIn r)
theorem days_no {r : HRow} (l : List HRow) (h : r.day < 0 ∨ 1048576 < r.day) : days (r :: l) = false := by
  have : ¬ DayIn r := by unfold DayIn; omega
  simp [days, this]
theorem days_yes {r : HRow} (l : List HRow) (h0 : ¬ r.day < 0) (h1 : ¬ 1048576 < r.day) : days (r :: l) = days l := by
  have : DayIn r := by unfold DayIn; omega
  simp [days, this]
set_option maxHeartbeats 2000000 in
theorem days_any (l : List HRow) (A : Option Addr) (c : Nat) (w : World) (h : RowsAt w w.heap.size A l) :
    Calls Tryd.prog 45 #[.slice A l.length c] w fun e w' => e = .returned (.bool (days l)) ∧ Below w.heap.size w w' := by
  have hlen := h.1
  unfold maxLen at hlen
  have H := hide h
  clear h
  go_enter Tryd.func45, Tryd.ntmps45
  go_wp2_with fail
  go_loopw [7] (fun vi wr => ∃ (k : Nat), k ≤ l.length ∧ vi = .int .i64 k ∧ days l = days (l.drop k) ∧ Below w.heap.size w wr) (fun vi _ => l.length - (intOf vi).toNat)
  case atStart => exact ⟨0, by omega, rfl, rfl, Below.refl _ _⟩
  case round =>
    obtain ⟨k, hk, rfl, hb, hbr⟩ := hrel
    have HB := hide hb
    clear hb
    by_cases hlt : k < l.length
    · obtain ⟨r, hr⟩ : ∃ r, l[k]? = some r := ⟨_, List.getElem?_eq_getElem hlt⟩
      obtain ⟨b, off, rfl, hbw, hc⟩ := (H.out.below hbr).2 (by omega)
      obtain ⟨c0, c1, c2, c3, c4, c5⟩ := hc k r hr
      have hd := hide (drop_get hr)
      clear hr hc
      by_cases h0 : r.day < 0
      · go_wp2_with fail
        go_ret
        exact ⟨ret_bool (by rw [HB.out, hd.out]; exact (days_no _ (.inl h0)).symm), hbr.alloc hbr.size _⟩
      · by_cases h1 : 1048576 < r.day
        · go_wp2_with fail
          go_ret
          exact ⟨ret_bool (by rw [HB.out, hd.out]; exact (days_no _ (.inr h1)).symm), hbr.alloc hbr.size _⟩
        · go_wp2_with fail
          go_roundw
          case rel => exact ⟨k + 1, by omega, by go_num, by rw [HB.out, hd.out]; exact days_yes _ h0 h1, hbr.alloc hbr.size _⟩
          case measure => simp [intOf]; omega
    · go_wp2_with fail
      go_ret
      exact ⟨ret_bool (by rw [HB.out, List.drop_eq_nil_of_le (by omega)]; rfl), hbr⟩
def stepsUp : List HRow → Bool
  | a :: b :: l => decide (a.day ≤ b.day) && stepsUp (b :: l)
  | _ => true
end Go.Proofs.YtkllpfijeglppaaDoor.HsMa
