/- The walk of CheckMatch: its two loops. -/
import Derived.Test.YtkllpfijeglppaaDoorHsMc
namespace Go.Proofs.YtkllpfijeglppaaDoor.HsMd
open Go.RowKit Hs HsB HsC HsD HsF HsG HsH HsE HsI HsJ HsK HsL HsM HsN HsO HsP HsQ HsR HsS HsT HsU HsV HsMa HsLaw6 HsMb HsMc
set_option maxHeartbeats 4000000 in
set_option maxRecDepth 100000 in
theorem check_late (a b : List HRow) (A B : Option Addr) (c c' : Nat) (s : Int) (w : World) (ha : RowsAt w w.heap.size A a) (hb : RowsAt w w.heap.size B b) (h1 : ¬ 256 < a.length) (h2 : ¬ 256 < b.length) (d1 : days a = true) (d2 : days b = true) (s0 : 0 ≤ s) (s1 : s ≤ 1048576) :
    Calls Tryd.prog 48 #[.slice A a.length c, .slice B b.length c', .int .i64 s] w fun e w' => e = .returned (.int .i64 (matchErr a b s)) ∧ Below w.heap.size w w' := by
  have HA := hide ha
  have HB := hide hb
  have e1 := (daysErr0 d1).symm
  have e2 := (daysErr0 d2).symm
  have DD := hide (show days a = true ∧ days b = true ∧ 0 ≤ s ∧ s ≤ 1048576 from ⟨d1, d2, s0, s1⟩)
  have hLL : ¬ (256 < a.length ∨ 256 < b.length) := by omega
  have LL := Lib.hid hLL
  clear ha hb d1 d2 s0 s1 hLL
  go_enter Tryd.func48, Tryd.ntmps48
  go_wp2_with fail
  refine (rordered_any a _ _ _ HA.out).mono ?_
  rintro e w1 ⟨rfl, hb1⟩
  rw [e1]
  go_wp2_with fail
  refine (rordered_any b _ _ _ ((HB.out.below hb1).mono hb1.size)).mono ?_
  rintro e w2 ⟨rfl, hb2⟩
  rw [e2]
  go_wp2_with (go_at_call 43; refine (day_yes _ _ DD.out.2.2.1 DD.out.2.2.2).mono ?_; rintro e w3 ⟨rfl, rfl⟩)
  have hbb := hb1.trans (hb2.mono hb1.size)
  clear e1 e2
  go_loopw [7] (fun vi wr => ∃ (k : Nat), (k ≤ a.length ∨ k = 0) ∧ vi = .int .i64 ((k : Int) + 1) ∧ stepsUp a = stepsUp (a.drop k) ∧ Below w.heap.size w wr) (fun vi _ => a.length + 1 - (intOf vi).toNat)
  case atStart => exact ⟨0, by omega, rfl, rfl, hbb⟩
  case round =>
    obtain ⟨j, hk, rfl, hb, hbr⟩ := hrel
    have HS := hide hb
    obtain ⟨k, hkj⟩ : ∃ k, k = j + 1 := ⟨_, rfl⟩
    have ek : (j : Int) + 1 = (k : Int) := by omega
    rw [ek]
    have hsub : IntKind.i64.wrap ((k : Int) - 1) = (j : Int) := by
      rw [show (k : Int) - 1 = (j : Int) by omega]; exact IntWalk.i64_in _ (by omega)
    clear hb
    by_cases hlt : k < a.length
    · have hj : j < a.length := by omega
      obtain ⟨r, hr⟩ : ∃ r, a[k]? = some r := ⟨_, List.getElem?_eq_getElem hlt⟩
      obtain ⟨q, hq⟩ : ∃ r, a[j]? = some r := ⟨_, List.getElem?_eq_getElem hj⟩
      obtain ⟨b', off, rfl, hbw, hc⟩ := (HA.out.below hbr).2 (by omega)
      have c0 := (hc k r hr).1
      have d0 := (hc j q hq).1
      have hd := hide ((drop_get hq).trans (by rw [← hkj, drop_get hr]))
      have hdr := hide (drop_get hr)
      clear hr hc hq
      have KJ := hide hkj
      clear hkj ek
      by_cases h0 : r.day < q.day
      · go_wp2_with fail
        go_region
        go_wp2_with fail
        go_ret
        exact ⟨ret_int (matchErr15 LL.out DD.out (by rw [HS.out, hd.out, steps_no _ (by omega)]; simp)), below_drewN hbr _⟩
      · go_wp2_with fail
        go_region
        go_wp2_with fail
        go_roundw
        case rel => exact ⟨k, by omega, by go_num, by rw [HS.out, hd.out, steps_yes _ (by omega), hdr.out], below_drewN hbr _⟩
        case measure => simp [intOf]; omega
    · have hs : stepsUp a = true := by rw [HS.out]; exact steps_short (by simp; omega)
      have HU := hide hs
      clear ek hsub hkj hk hs HS
      go_wp2_with fail
      go_loopw [8] (fun vi wr => ∃ (k : Nat), (k ≤ b.length ∨ k = 0) ∧ vi = .int .i64 ((k : Int) + 1) ∧ stepsUp b = stepsUp (b.drop k) ∧ Below w.heap.size w wr) (fun vi _ => b.length + 1 - (intOf vi).toNat)
      case atStart => exact ⟨0, by omega, rfl, rfl, hbr⟩
      case round =>
        clear hbr
        obtain ⟨j, hk, rfl, hb, hbr⟩ := hrel
        have HS := hide hb
        obtain ⟨k, hkj⟩ : ∃ k, k = j + 1 := ⟨_, rfl⟩
        have ek : (j : Int) + 1 = (k : Int) := by omega
        rw [ek]
        have hsub : IntKind.i64.wrap ((k : Int) - 1) = (j : Int) := by
          rw [show (k : Int) - 1 = (j : Int) by omega]; exact IntWalk.i64_in _ (by omega)
        clear hb
        by_cases hlt : k < b.length
        · have hj : j < b.length := by omega
          obtain ⟨r, hr⟩ : ∃ r, b[k]? = some r := ⟨_, List.getElem?_eq_getElem hlt⟩
          obtain ⟨q, hq⟩ : ∃ r, b[j]? = some r := ⟨_, List.getElem?_eq_getElem hj⟩
          obtain ⟨b', off, rfl, hbw, hc⟩ := (HB.out.below hbr).2 (by omega)
          have c0 := (hc k r hr).1
          have d0 := (hc j q hq).1
          have hd := hide ((drop_get hq).trans (by rw [← hkj, drop_get hr]))
          have hdr := hide (drop_get hr)
          clear hr hc hq
          have KJ := hide hkj
          clear hkj ek
          by_cases h0 : r.day < q.day
          · go_wp2_with fail
            go_region
            go_wp2_with fail
            go_ret
            exact ⟨ret_int (matchErr15 LL.out DD.out (by rw [HS.out, hd.out, steps_no _ (by omega)]; simp)), below_drewN hbr _⟩
          · go_wp2_with fail
            go_region
            go_wp2_with fail
            go_roundw
            case rel => exact ⟨k, by omega, by go_num, by rw [HS.out, hd.out, steps_yes _ (by omega), hdr.out], below_drewN hbr _⟩
            case measure => simp [intOf]; omega
        · have hs : stepsUp b = true := by rw [HS.out]; exact steps_short (by simp; omega)
          have HU2 := hide hs
          clear ek hsub hkj hk hs HS
          go_wp2_with fail
          go_ret
          exact ⟨ret_int (matchErr0 LL.out DD.out ⟨HU.out, HU2.out⟩), hbr⟩
end Go.Proofs.YtkllpfijeglppaaDoor.HsMd
