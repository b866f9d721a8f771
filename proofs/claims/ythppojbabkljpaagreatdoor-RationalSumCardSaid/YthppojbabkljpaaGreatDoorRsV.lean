/- What the rational laws share: awake inside a drawn region, few of one number, boxes. -/
import Derived.Test.YthppojbabkljpaaGreatDoorRsW
import Derived.Test.YthppojbabkljpaaGreatDoorRtD
import Derived.Test.YthppojbabkljpaaGreatDoorRtJ
namespace Go.Proofs.YthppojbabkljpaaGreatDoor.RsV
open Go.RowKit RnA RnB RnS RnC RnK RnM RnL RnN RnD RnE RnQ RnR RnP RnW RnX RoA RoB RoC RoD RoE RoF RoG RoH RoI RoJ RoK RoL RoM RoN PnA PnB PnC PnD PnE PnF PnG PnH PnI PnJ PnK PnL RtA RtB RtC RtD RtE RtG RtH RtI RtJ RpA RpB RpC RpD RpE RpF RpG RpH RnY RpI RpJ RpK RpL RsX RsY RsW
theorem awake_in (W : World) (he : Env W) (x : Qin.In (Below W.heap.size W)) : Calls Tryz.prog 16 #[] x.val fun e w' => e = .returned (.bool true) ∧ ∃ y : Qin.In (Below W.heap.size W), w' = y.val :=
  Qin.call ((awake_any x.val (he.below x.ok)).mono fun _ _ ⟨h1, h2⟩ => ⟨h1, x.ok.trans (h2.mono x.ok.size)⟩)
/-- the law's own list of one number -/
theorem few_one (n : Bool) (a d : ByteArray) (w : World) (k : Nat) (h1 : a.size ≤ maxLen) (h2 : d.size ≤ maxLen) (hb : Bx w k (.bool n) (.string a) (.string d)) :
    Calls Tryz.prog 19 #[.slice (some ⟨k, 0, none⟩) 1 1] w fun e w' => e = .returned (.bool (fewB a d)) ∧ Below w.heap.size w w' := by
  have hat : RatsAt w w.heap.size (some ⟨k, 0, none⟩) [(n, a, d)] := by
    refine ⟨by show 1 ≤ maxLen; decide, fun _ => ⟨k, 0, rfl, hb.lt, fun j n' a' d' hj => ?_⟩⟩
    match j, hj with
    | 0, hj =>
      simp only [List.getElem?_cons_zero, Option.some.injEq, Prod.mk.injEq] at hj
      obtain ⟨rfl, rfl, rfl⟩ := hj
      exact ⟨h1, h2, hb.1, hb.2.1, hb.2.2.1⟩
    | j + 1, hj => simp at hj
  refine (few_any [(n, a, d)] _ 1 w hat).mono fun e w' ⟨e1, e2⟩ => ⟨?_, e2⟩
  rw [e1]
  exact ret_bool (by rw [fewL_cons]; simp [fewL])
/-- the law's own lists of two and three numbers -/
theorem few_two (n : Bool) (a d : ByteArray) (n' : Bool) (a' d' : ByteArray) (w : World) (T : TypeId) (h1 : a.size ≤ maxLen) (h2 : d.size ≤ maxLen) (h3 : a'.size ≤ maxLen) (h4 : d'.size ≤ maxLen) :
    Calls Tryz.prog 19 #[.slice (some ⟨w.heap.size, 0, none⟩) 2 2] (w.alloc (.cells #[.bool n, .string a, .string d, .bool n', .string a', .string d'] T)) fun e w' =>
      e = .returned (.bool (fewB a d && fewB a' d')) ∧ Below (w.alloc (.cells #[.bool n, .string a, .string d, .bool n', .string a', .string d'] T)).heap.size (w.alloc (.cells #[.bool n, .string a, .string d, .bool n', .string a', .string d'] T)) w' := by
  have hat : RatsAt (w.alloc (.cells #[.bool n, .string a, .string d, .bool n', .string a', .string d'] T)) (w.alloc (.cells #[.bool n, .string a, .string d, .bool n', .string a', .string d'] T)).heap.size (some ⟨w.heap.size, 0, none⟩) [(n, a, d), (n', a', d')] := by
    refine ⟨by show 2 ≤ maxLen; decide, fun _ => ⟨w.heap.size, 0, rfl, by simp, fun j m b e hj => ?_⟩⟩
    match j, hj with
    | 0, hj =>
      simp only [List.getElem?_cons_zero, Option.some.injEq, Prod.mk.injEq] at hj
      obtain ⟨rfl, rfl, rfl⟩ := hj
      exact ⟨h1, h2, by simp, by simp, by simp⟩
    | 1, hj =>
      simp only [List.getElem?_cons_succ, List.getElem?_cons_zero, Option.some.injEq, Prod.mk.injEq] at hj
      obtain ⟨rfl, rfl, rfl⟩ := hj
      exact ⟨h3, h4, by simp, by simp, by simp⟩
    | j + 2, hj => simp at hj
  refine (few_any [(n, a, d), (n', a', d')] _ 2 _ hat).mono fun e w' ⟨e1, e2⟩ => ⟨?_, e2⟩
  rw [e1]
  exact ret_bool (by rw [fewL_cons, fewL_cons]; simp [fewL])
theorem few_three (n : Bool) (a d : ByteArray) (n' : Bool) (a' d' : ByteArray) (n3 : Bool) (a3 d3 : ByteArray) (w : World) (T : TypeId) (h1 : a.size ≤ maxLen) (h2 : d.size ≤ maxLen) (h3 : a'.size ≤ maxLen) (h4 : d'.size ≤ maxLen) (h5 : a3.size ≤ maxLen) (h6 : d3.size ≤ maxLen) :
    Calls Tryz.prog 19 #[.slice (some ⟨w.heap.size, 0, none⟩) 3 3] (w.alloc (.cells #[.bool n, .string a, .string d, .bool n', .string a', .string d', .bool n3, .string a3, .string d3] T)) fun e w' =>
      e = .returned (.bool (fewB a d && (fewB a' d' && fewB a3 d3))) ∧ Below (w.alloc (.cells #[.bool n, .string a, .string d, .bool n', .string a', .string d', .bool n3, .string a3, .string d3] T)).heap.size (w.alloc (.cells #[.bool n, .string a, .string d, .bool n', .string a', .string d', .bool n3, .string a3, .string d3] T)) w' := by
  have hat : RatsAt (w.alloc (.cells #[.bool n, .string a, .string d, .bool n', .string a', .string d', .bool n3, .string a3, .string d3] T)) (w.alloc (.cells #[.bool n, .string a, .string d, .bool n', .string a', .string d', .bool n3, .string a3, .string d3] T)).heap.size (some ⟨w.heap.size, 0, none⟩) [(n, a, d), (n', a', d'), (n3, a3, d3)] := by
    refine ⟨by show 3 ≤ maxLen; decide, fun _ => ⟨w.heap.size, 0, rfl, by simp, fun j m b e hj => ?_⟩⟩
    match j, hj with
    | 0, hj =>
      simp only [List.getElem?_cons_zero, Option.some.injEq, Prod.mk.injEq] at hj
      obtain ⟨rfl, rfl, rfl⟩ := hj
      exact ⟨h1, h2, by simp, by simp, by simp⟩
    | 1, hj =>
      simp only [List.getElem?_cons_succ, List.getElem?_cons_zero, Option.some.injEq, Prod.mk.injEq] at hj
      obtain ⟨rfl, rfl, rfl⟩ := hj
      exact ⟨h3, h4, by simp, by simp, by simp⟩
    | 2, hj =>
      simp only [List.getElem?_cons_succ, List.getElem?_cons_zero, Option.some.injEq, Prod.mk.injEq] at hj
      obtain ⟨rfl, rfl, rfl⟩ := hj
      exact ⟨h5, h6, by simp, by simp, by simp⟩
    | j + 3, hj => simp at hj
  refine (few_any [(n, a, d), (n', a', d'), (n3, a3, d3)] _ 3 _ hat).mono fun e w' ⟨e1, e2⟩ => ⟨?_, e2⟩
  rw [e1]
  exact ret_bool (by rw [fewL_cons, fewL_cons, fewL_cons]; simp [fewL])
/-- a callee that answers a value and makes memory, inside a drawn region -/
theorem v_in {f : FuncId} {args : Array Value} {r : Value} {W : World} {v : Qin.In (Below W.heap.size W)} (h : Calls Tryz.prog f args v.val fun e w' => e = .returned r ∧ Below v.val.heap.size v.val w') : Calls Tryz.prog f args v.val fun e w' => e = .returned r ∧ ∃ y : Qin.In (Below W.heap.size W), w' = y.val :=
  Qin.call (h.mono fun _ _ ⟨h1, h2⟩ => ⟨h1, v.ok.trans (h2.mono v.ok.size)⟩)
theorem few_size {a d : ByteArray} (h : fewB a d = true) : a.size ≤ 24 ∧ d.size ≤ 24 := by
  unfold fewB at h
  simpa using h
end Go.Proofs.YthppojbabkljpaaGreatDoor.RsV
