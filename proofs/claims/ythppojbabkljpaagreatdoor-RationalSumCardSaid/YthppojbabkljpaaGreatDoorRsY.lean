/- The arguments of the laws on rational numbers; 'few' of a single number. -/
import Derived.Test.YthppojbabkljpaaGreatDoorRK
namespace Go.Proofs.YthppojbabkljpaaGreatDoor.RsY
open Go.RowKit Go.ChangeShapes Go.WideShapes Go.ChangeAt Go.Deep RnW RtA RpF RpH RsX
section
variable {H : Type} {enc : TypeId × Value → H} {W : World} {base : Nat}
set_option maxRecDepth 100000 in
theorem rat_one : oneCellFields Tryz.prog (Tryz.prog.fieldsOf 24) = true := by kernel_rfl
theorem rat_size : (Tryz.prog.fieldsOf 24).size = 3 := by kernel_rfl
theorem rat_cells : Tryz.prog.cellsOf 24 = 3 := by kernel_rfl
set_option maxRecDepth 100000 in
theorem rat_f0 : ∃ f, (Tryz.prog.fieldsOf 24)[0]? = some f ∧ f.type = 4 := Option.map_eq_some_iff.1 (show ((Tryz.prog.fieldsOf 24)[0]?).map (·.type) = some 4 by kernel_rfl)
set_option maxRecDepth 100000 in
theorem rat_f1 : ∃ f, (Tryz.prog.fieldsOf 24)[1]? = some f ∧ f.type = 9 := Option.map_eq_some_iff.1 (show ((Tryz.prog.fieldsOf 24)[1]?).map (·.type) = some 9 by kernel_rfl)
set_option maxRecDepth 100000 in
theorem rat_f2 : ∃ f, (Tryz.prog.fieldsOf 24)[2]? = some f ∧ f.type = 9 := Option.map_eq_some_iff.1 (show ((Tryz.prog.fieldsOf 24)[2]?).map (·.type) = some 9 by kernel_rfl)
set_option maxRecDepth 100000 in
theorem und_str : Tryz.prog.underlying 9 = some .string := by kernel_rfl
set_option maxRecDepth 100000 in
theorem und_bool : Tryz.prog.underlying 4 = some .bool := by kernel_rfl
set_option maxRecDepth 100000 in
theorem open_rat {v : Value} {d : DataW H} {p : List MemPlace} (hv : Value.okWide Tryz.prog W .any base 24 v) (h : DataW.Trod enc Tryz.prog W 0 (fun _ => true) true 24 v d p) :
    ∃ (n : Bool) (a e : ByteArray), v = .agg #[.bool n, .string a, .string e] ∧ a.size ≤ maxLen ∧ e.size ≤ maxLen := by
  obtain ⟨cs, rfl, hsz⟩ := okWide_struct rat_und hv
  obtain ⟨l⟩ := cs
  match l, hsz.trans rat_cells with
  | [v0, v1, v2], _ =>
    obtain ⟨fuel, hf⟩ := h
    obtain ⟨xs, n, _, _, _, hlen, hg⟩ := DataW.trod_struct rat_und hf
    rw [rat_size] at hlen
    have cell : ∀ (j : Nat) (f : Field) (u : Value), (Tryz.prog.fieldsOf 24)[j]? = some f → [v0, v1, v2][j]? = some u → ∃ m x, DataW.trod enc Tryz.prog W 0 (fun _ => true) true m f.type [u] = some x := by
      intro j f u hj hju
      obtain ⟨o, k⟩ := hone_of rat_one j f hj
      have h1 := hg j f hj
      rw [o, k] at h1
      have hjl : j < 3 := by
        have := (List.getElem?_eq_some_iff.1 hju).1
        simpa using this
      have hone : ((Value.agg #[v0, v1, v2]).cells.toList.drop j).take 1 = [u] := by
        rcases (by omega : j = 0 ∨ j = 1 ∨ j = 2) with rfl | rfl | rfl <;> (simp at hju; subst hju; simp [Value.cells])
      rw [hone, List.getElem?_eq_getElem (by omega)] at h1
      exact ⟨_, _, h1⟩
    obtain ⟨f0, a0, b0⟩ := rat_f0
    obtain ⟨f1, a1, b1⟩ := rat_f1
    obtain ⟨f2, a2, b2⟩ := rat_f2
    obtain ⟨m0, x0, e0⟩ := cell 0 f0 v0 a0 rfl
    obtain ⟨m1, x1, e1⟩ := cell 1 f1 v1 a1 rfl
    obtain ⟨m2, x2, e2⟩ := cell 2 f2 v2 a2 rfl
    rw [b0] at e0
    rw [b1] at e1
    rw [b2] at e2
    obtain ⟨b, hb, _⟩ := DataW.trod_bool und_bool e0
    obtain ⟨s, hs, _, hs2⟩ := DataW.trod_string und_str e1
    obtain ⟨t, ht, _, ht2⟩ := DataW.trod_string und_str e2
    have hb' : v0 = .bool b := by simpa using hb
    have hs' : v1 = .string s := by simpa using hs
    have ht' : v2 = .string t := by simpa using ht
    subst hb' hs' ht'
    exact ⟨b, s, t, rfl, hs2, ht2⟩
end
/-- short enough for a law -/
def fewB (a d : ByteArray) : Bool := decide (a.size ≤ 24) && decide (d.size ≤ 24)
set_option maxHeartbeats 2000000 in
set_option maxRecDepth 100000 in
theorem few0_any (n : Bool) (a d : ByteArray) (w : World) (h1 : a.size ≤ maxLen) (h2 : d.size ≤ maxLen) :
    Calls Tryz.prog 90 #[.agg #[.bool n, .string a, .string d]] w fun e w' => e = .returned (.bool (fewB a d)) ∧ Below w.heap.size w w' := by
  unfold maxLen at h1 h2
  obtain ⟨V0, hV0, HX0, hc0, hl0⟩ := box_new w (.bool n) (.string a) (.string d)
  obtain ⟨c0, c1, c2, f0, f1, f2⟩ := HX0.out
  have hr : Hid (fewB a d = (decide (a.size ≤ 24) && decide (d.size ≤ 24))) := rfl
  by_cases ha : a.size ≤ 24
  · have hr2 : Hid (fewB a d = decide (d.size ≤ 24)) := by show _ = _; rw [hr.out, decide_eq_true ha]; rfl
    go_enter Tryz.func90, Tryz.ntmps90
    go_wp2_with fail
    go_ret
    exact ⟨ret_bool (by first | (rw [hr2.out]; exact decide_eq_decide.2 (by omega)) | rw [hr2.out]), hc0⟩
  · have hr2 : Hid (fewB a d = false) := by show _ = _; rw [hr.out, decide_eq_false ha]; rfl
    go_enter Tryz.func90, Tryz.ntmps90
    go_wp2_with fail
    go_ret
    exact ⟨ret_bool (by first | (rw [hr2.out]; exact decide_eq_decide.2 (by omega)) | rw [hr2.out]), hc0⟩
end Go.Proofs.YthppojbabkljpaaGreatDoor.RsY
