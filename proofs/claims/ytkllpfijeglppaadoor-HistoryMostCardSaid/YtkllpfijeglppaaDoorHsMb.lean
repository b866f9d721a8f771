/- The walks of the loops that Match asks first. -/
import Derived.Test.YtkllpfijeglppaaDoorHsMa
import Derived.Test.YtkllpfijeglppaaDoorHsLaw6
namespace Go.Proofs.YtkllpfijeglppaaDoor.HsMb
open Go.RowKit Hs HsB HsC HsD HsF HsG HsH HsE HsI HsJ HsK HsL HsM HsN HsO HsP HsQ HsR HsS HsT HsU HsV HsMa HsLaw6
def daysErr (l : List HRow) : Int := if days l then 0 else 1
def stepsErr (l : List HRow) : Int := if stepsUp l then 0 else 15
theorem daysErr1 {l : List HRow} (h : days l = false) : (1 : Int) = daysErr l := by rw [daysErr, h]; rfl
theorem daysErr0 {l : List HRow} (h : days l = true) : (0 : Int) = daysErr l := by rw [daysErr, h]; rfl
theorem stepsErr1 {l : List HRow} (h : stepsUp l = false) : (15 : Int) = stepsErr l := by rw [stepsErr, h]; rfl
theorem stepsErr0 {l : List HRow} (h : stepsUp l = true) : (0 : Int) = stepsErr l := by rw [stepsErr, h]; rfl
set_option maxHeartbeats 2000000 in
theorem rordered_any (l : List HRow) (A : Option Addr) (c : Nat) (w : World) (h : RowsAt w w.heap.size A l) :
    Calls Tryd.prog 59 #[.slice A l.length c] w fun e w' => e = .returned (.int .i64 (daysErr l)) ∧ Below w.heap.size w w' := by
  have hlen := h.1
  unfold maxLen at hlen
  have H := hide h
  clear h
  go_enter Tryd.func59, Tryd.ntmps59
  go_wp2_with fail
  go_loopw [3] (fun vi wr => ∃ (k : Nat), k ≤ l.length ∧ vi = .int .i64 k ∧ days l = days (l.drop k) ∧ Below w.heap.size w wr) (fun vi _ => l.length - (intOf vi).toNat)
  case atStart => exact ⟨0, by omega, rfl, rfl, Below.refl _ _⟩
  case round =>
    obtain ⟨k, hk, rfl, hb, hbr⟩ := hrel
    have HB := hide hb
    clear hb
    by_cases hlt : k < l.length
    · obtain ⟨r, hr⟩ : ∃ r, l[k]? = some r := ⟨_, List.getElem?_eq_getElem hlt⟩
      obtain ⟨b, off, rfl, hbw, hc⟩ := (H.out.below hbr).2 (by omega)
      obtain ⟨c0, c1, c2, c3, c4, c5⟩ := hc k r hr
      have hd := hide (drop_get hr)
      clear hr hc
      by_cases h0 : r.day < 0 ∨ 1048576 < r.day
      · have H0 := hide h0
        clear h0
        go_wp2_with (go_at_call 43; refine (day_no _ _ H0.out).mono ?_; rintro e w' ⟨rfl, rfl⟩)
        go_ret
        exact ⟨ret_int (daysErr1 (by rw [HB.out, hd.out, days_no _ H0.out])), hbr⟩
      · have h1 : 0 ≤ r.day ∧ r.day ≤ 1048576 := by omega
        have H1 := hide h1
        clear h0 h1
        go_wp2_with (go_at_call 43; refine (day_yes _ _ H1.out.1 H1.out.2).mono ?_; rintro e w' ⟨rfl, rfl⟩)
        go_roundw
        case rel => exact ⟨k + 1, by omega, by go_num, by rw [HB.out, hd.out]; exact days_yes _ (by have := H1.out; omega) (by have := H1.out; omega), hbr⟩
        case measure => simp [intOf]; omega
    · go_wp2_with fail
      go_ret
      exact ⟨ret_int (daysErr0 (by rw [HB.out, List.drop_eq_nil_of_le (by omega)]; rfl)), hbr⟩
theorem steps_no {a b : HRow} (l : List HRow) (h : b.day < a.day) : stepsUp (a :: b :: l) = false := by
  have : ¬ a.day ≤ b.day := by omega
  simp [stepsUp, this]
theorem steps_yes {a b : HRow} (l : List HRow) (h : ¬ b.day < a.day) : stepsUp (a :: b :: l) = stepsUp (b :: l) := by
  have : a.day ≤ b.day := by omega
  simp [stepsUp, this]
theorem steps_short {l : List HRow} (h : l.length ≤ 1) : stepsUp l = true := by
  match l with
  | [] => rfl
  | [_] => rfl
  | _ :: _ :: _ => simp at h
set_option maxHeartbeats 2000000 in
set_option maxRecDepth 100000 in
theorem ordered_any (l : List HRow) (A : Option Addr) (c : Nat) (w : World) (h : RowsAt w w.heap.size A l) :
    Calls Tryd.prog 46 #[.slice A l.length c] w fun e w' => e = .returned (.int .i64 (stepsErr l)) ∧ Below w.heap.size w w' := by
  have hlen := h.1
  unfold maxLen at hlen
  have H := hide h
  clear h
  go_enter Tryd.func46, Tryd.ntmps46
  go_wp2_with fail
  go_loopw [3] (fun vi wr => ∃ (k : Nat), (k ≤ l.length ∨ k = 0) ∧ vi = .int .i64 ((k : Int) + 1) ∧ stepsUp l = stepsUp (l.drop k) ∧ Below w.heap.size w wr) (fun vi _ => l.length + 1 - (intOf vi).toNat)
  case atStart => exact ⟨0, by omega, rfl, rfl, Below.refl _ _⟩
  case round =>
    obtain ⟨j, hk, rfl, hb, hbr⟩ := hrel
    have HB := hide hb
    obtain ⟨k, hkj⟩ : ∃ k, k = j + 1 := ⟨_, rfl⟩
    have ek : (j : Int) + 1 = (k : Int) := by omega
    rw [ek]
    have hsub : IntKind.i64.wrap ((k : Int) - 1) = (j : Int) := by
      rw [show (k : Int) - 1 = (j : Int) by omega]; exact IntWalk.i64_in _ (by omega)
    clear hb
    by_cases hlt : k < l.length
    · have hj : j < l.length := by omega
      obtain ⟨r, hr⟩ : ∃ r, l[k]? = some r := ⟨_, List.getElem?_eq_getElem hlt⟩
      obtain ⟨q, hq⟩ : ∃ r, l[j]? = some r := ⟨_, List.getElem?_eq_getElem hj⟩
      obtain ⟨b, off, rfl, hbw, hc⟩ := (H.out.below hbr).2 (by omega)
      have c0 := (hc k r hr).1
      have d0 := (hc j q hq).1
      have hd := hide ((drop_get hq).trans (by rw [← hkj, drop_get hr]))
      have hdr := hide (drop_get hr)
      clear hr hc hq
      have KJ := hide hkj
      clear hkj ek
      by_cases h0 : r.day < q.day
      · go_wp2_with fail
        go_region
        go_wp2_with fail
        go_ret
        exact ⟨ret_int (stepsErr1 (by rw [HB.out, hd.out, steps_no _ (by omega)])), below_drewN hbr _⟩
      · go_wp2_with fail
        go_region
        go_wp2_with fail
        go_roundw
        case rel => exact ⟨k, by omega, by go_num, by rw [HB.out, hd.out, steps_yes _ (by omega), hdr.out], below_drewN hbr _⟩
        case measure => simp [intOf]; omega
    · have hs : stepsUp (l.drop j) = true := steps_short (by simp; omega)
      clear ek hsub hkj hk
      go_wp2_with fail
      go_ret
      exact ⟨ret_int (stepsErr0 (by rw [HB.out, hs])), hbr⟩
end Go.Proofs.YtkllpfijeglppaaDoor.HsMb
