/- The walk of the law RationalMake. -/
import Derived.Test.YthppojbabkljpaaDoorRsV
namespace Go.Proofs.YthppojbabkljpaaDoor.RsLaw15
theorem here : True := trivial
open Go.RowKit RnA RnB RnS RnC RnK RnM RnL RnN RnD RnE RnQ RnR RnG RnP RnW RnX RoA RoB RoC RoD RoE RoF RoG RoH RoI RoJ RoK RoL RoM RoN PnA PnB PnC PnD PnE PnF PnG PnH PnI PnJ PnK PnL RtA RtB RtC RtD RtE RtG RtH RtI RtJ RpA RpB RpC RpD RpE RpF RpG RpH RnY RpI RpJ RpK RpL RsX RsY RsW RsV
set_option maxHeartbeats 8000000 in
set_option maxRecDepth 100000 in
theorem make_law (neg : Bool) (s t : ByteArray) (w : World) (hs : s.size ≤ maxLen) (ht : t.size ≤ maxLen) (he : Env w) :
    Calls Tryd.prog 4 #[.bool neg, .string s, .string t] w fun e w' => e = .returned (.bool true) ∧ Below w.heap.size w w' := by
  unfold maxLen at hs ht
  have HAW := Lib.hid (fun w (h : Env w) => awake_any w h)
  by_cases hl : 40 < s.size ∨ 40 < t.size
  · have HA := hide (HAW.out w he)
    clear he
    rcases (by omega : 40 < s.size ∨ (s.size ≤ 40 ∧ 40 < t.size)) with h | ⟨h, h2⟩
    all_goals
      go_enter Tryd.func4, Tryd.ntmps4
      go_wp2_with fail
      refine HA.out.mono ?_
      rintro e w3 ⟨rfl, hb3⟩
      go_wp2_with fail
      go_ret
      exact ⟨rfl, hb3⟩
  · have h1 : s.size ≤ 40 := by omega
    have h2 : t.size ≤ 40 := by omega
    have P1 := Lib.hid (fun w => make_any neg s t w (by omega) (by omega))
    have R1 := Lib.hid (fun w => rmake_any neg s t w (by omega) (by omega))
    have hlt : ∀ q ok, makeQ neg (nv s) (nv t) = (q, ok) → Lt q 40 := by
      intro q ok h
      unfold makeQ at h
      split at h
      · injection h with h3 _
        rw [← h3]
        exact Lt.zero.mono (by decide)
      · rename_i h0
        injection h with h3 _
        rw [← h3]
        exact mk_lt h0 (lt_bs.2 (Nat.le_trans (nv_size s) h1)) (lt_bs.2 (Nat.le_trans (nv_size t) h2))
    generalize makeQ neg (nv s) (nv t) = p at *
    obtain ⟨q, ok⟩ := p
    have hq := hlt q ok rfl
    have V1 := Lib.hid (fun w => valid_any (negB q) (bs (nm q)) (dstr q) w (by have := hq.num; omega) (by have := hq.dstr; omega))
    rw [show validB (negB q) (bs (nm q)).data.toList (dstr q).data.toList = true from valid_enc q] at V1
    unfold RBPost at P1 R1
    simp only [enc_open] at P1 R1
    have S1 := fun W => rat_same (negB q) (bs (nm q)) (dstr q) W
    have hrg := rat_guard
    have HE := hide he
    clear he hlt hq hl
    cases ok
    all_goals
      go_enter Tryd.func4, Tryd.ntmps4
      go_wp2_with fail
      refine (P1.out _).mono ?_
      rintro e w5 ⟨rfl, hb5⟩
      obtain ⟨V6, hV6, HX6, hc6, hl6⟩ := box_new w5 (.bool (negB q)) (.string (bs (nm q))) (.string (dstr q))
      have HC6 := hide (hb5.trans (hc6.mono hb5.size))
      clear hb5 hc6
      go_wp2_with fail
      refine (R1.out _).mono ?_
      rintro e w7 ⟨rfl, hb7⟩
      obtain ⟨V8, hV8, HY8, hc8, hl8⟩ := box_new w7 (.bool (negB q)) (.string (bs (nm q))) (.string (dstr q))
      have hb8 := hb7.trans (hc8.mono hb7.size)
      have HX8 := hide (HX6.out.keep hb8 HX6.out.lt)
      have HC8 := hide (HC6.out.trans (hb8.mono HC6.out.size))
      clear hb7 hc8 hb8 HC6 HX6
      have he8 := hide (HE.out.below HC8.out)
      have HAW8 := hide (HAW.out _ he8.out)
      go_wp2_with fail
      refine HAW8.out.mono ?_
      rintro e w9 ⟨rfl, hb9⟩
      have HX9 := hide (HX8.out.keep hb9 HX8.out.lt)
      have HY9 := hide (HY8.out.keep hb9 HY8.out.lt)
      have HB9 := HC8.out.trans (hb9.mono HC8.out.size)
      obtain ⟨c0, c1, c2, _⟩ := HX9.out
      obtain ⟨d0, d1, d2, _⟩ := HY9.out
      clear hb9
      go_wp2_with fail
      refine (V1.out _).mono ?_
      rintro e w10 ⟨rfl, hb10⟩
      have hbf := HB9.trans (hb10.mono HB9.size)
      clear hb10
      go_wp2_with fail
      go_ret
      exact ⟨rfl, hbf⟩
end Go.Proofs.YthppojbabkljpaaDoor.RsLaw15
