/- The walk of the law RationalDivide. -/
import Derived.Test.YthppojbabkljpaaGreatDoorRsV
namespace Go.Proofs.YthppojbabkljpaaGreatDoor.RsLaw6
open Go.RowKit RnA RnB RnS RnC RnK RnM RnL RnN RnD RnE RnQ RnR RnG RnP RnW RnX RoA RoB RoC RoD RoE RoF RoG RoH RoI RoJ RoK RoL RoM RoN PnA PnB PnC PnD PnE PnF PnG PnH PnI PnJ PnK PnL RtA RtB RtC RtD RtE RtG RtH RtI RtJ RpA RpB RpC RpD RpE RpF RpG RpH RnY RpI RpJ RpK RpL RsX RsY RsW RsV
set_option maxHeartbeats 8000000 in
set_option maxRecDepth 100000 in
theorem divide_law (n : Bool) (a d : ByteArray) (n' : Bool) (a' d' : ByteArray) (w : World) (h1 : a.size ≤ maxLen) (h2 : d.size ≤ maxLen) (h3 : a'.size ≤ maxLen) (h4 : d'.size ≤ maxLen) (he : Env w) :
    Calls Tryz.prog 7 #[.agg #[.bool n, .string a, .string d], .agg #[.bool n', .string a', .string d']] w fun e w' => e = .returned (.bool true) ∧ Below w.heap.size w w' := by
  have HAW := Lib.hid (fun w (h : Env w) => awake_any w h)
  obtain ⟨W0, W2, hW0, hW2, hs0, HA2, HB2, HC2, hsz⟩ := startb w (.bool n) (.string a) (.string d) (.bool n') (.string a') (.string d')
  have HFEW := Lib.hid (few_two n a d n' a' d' W2 24 h1 h2 h3 h4)
  obtain ⟨a0, a1, a2, _⟩ := HA2.out
  obtain ⟨b0, b1, b2, _⟩ := HB2.out
  obtain ⟨V, hV⟩ : ∃ V, W2.alloc (.cells #[.bool n, .string a, .string d, .bool n', .string a', .string d'] 24) = V := ⟨_, rfl⟩
  have hbV : Below W2.heap.size W2 V := by rw [← hV]; exact (Below.refl _ _).alloc (Nat.le_refl _) _
  rw [hV] at HFEW
  have HA3 := hide (HA2.out.keep hbV HA2.out.lt)
  have HB3 := hide (HB2.out.keep hbV HB2.out.lt)
  have HC3 := hide (HC2.out.trans (hbV.mono HC2.out.size))
  clear hbV
  cases hf : fewB a d && fewB a' d'
  · rw [hf] at HFEW
    go_enter Tryz.func7, Tryz.ntmps7
    go_wp2_with fail
    refine HFEW.out.mono ?_
    rintro e w3 ⟨rfl, hb3⟩
    have hbf := HC3.out.trans (hb3.mono HC3.out.size)
    have he3 := hide (he.below hbf)
    go_wp2_with fail
    refine (HAW.out _ he3.out).mono ?_
    rintro e w4 ⟨rfl, hb4⟩
    go_wp2_with fail
    go_ret
    exact ⟨rfl, hbf.trans (hb4.mono hbf.size)⟩
  · rw [hf] at HFEW
    rw [Bool.and_eq_true] at hf
    obtain ⟨x1, x2⟩ := few_size hf.1
    obtain ⟨x3, x4⟩ := few_size hf.2
    have P1 := Lib.hid (fun w => pdiv_any n a d n' a' d' w 24 x1 x2 x3 x4 (by decide) (by decide))
    have R1 := Lib.hid (fun w => rdiv_any n a d n' a' d' w 24 x1 x2 x3 x4 (by decide) (by decide))
    generalize divQ (fixQ n a.data.toList d.data.toList) (fixQ n' a'.data.toList d'.data.toList) = p at *
    obtain ⟨q, ok⟩ := p
    unfold RBPost at P1 R1
    simp only [enc_open] at P1 R1
    have S1 := fun W => rat_same (negB q) (bs (nm q)) (dstr q) W
    have hrg := rat_guard
    clear h1 h2 h3 h4 hf x1 x2 x3 x4
    go_enter Tryz.func7, Tryz.ntmps7
    go_wp2_with fail
    refine HFEW.out.mono ?_
    rintro e w3 ⟨rfl, hb3⟩
    have HA4 := hide (HA3.out.keep hb3 HA3.out.lt)
    have HB4 := hide (HB3.out.keep hb3 HB3.out.lt)
    have HC4 := hide (HC3.out.trans (hb3.mono HC3.out.size))
    have he4 := hide (he.below HC4.out)
    clear a0 a1 a2 b0 b1 b2 hb3 HA3 HB3 HC3 HFEW hV hW0 hW2 HA2 HB2 HC2
    obtain ⟨a0, a1, a2, _⟩ := HA4.out
    obtain ⟨b0, b1, b2, _⟩ := HB4.out
    go_wp2_with fail
    refine (P1.out _).mono ?_
    rintro e w5 ⟨rfl, hb5⟩
    obtain ⟨V6, hV6, HX6, hc6, hl6⟩ := box_new w5 (.bool (negB q)) (.string (bs (nm q))) (.string (dstr q))
    have hb6 := hb5.trans (hc6.mono hb5.size)
    have HA6 := hide (HA4.out.keep hb6 HA4.out.lt)
    have HB6 := hide (HB4.out.keep hb6 HB4.out.lt)
    have HC6 := hide (HC4.out.trans (hb6.mono HC4.out.size))
    clear a0 a1 a2 b0 b1 b2 hb5 hc6 hb6 HA4 HB4 HC4 he4
    obtain ⟨a0, a1, a2, _⟩ := HA6.out
    obtain ⟨b0, b1, b2, _⟩ := HB6.out
    go_wp2_with fail
    refine (R1.out _).mono ?_
    rintro e w7 ⟨rfl, hb7⟩
    obtain ⟨V8, hV8, HY8, hc8, hl8⟩ := box_new w7 (.bool (negB q)) (.string (bs (nm q))) (.string (dstr q))
    have hb8 := hb7.trans (hc8.mono hb7.size)
    have HX8 := hide (HX6.out.keep hb8 HX6.out.lt)
    have HC8 := hide (HC6.out.trans (hb8.mono HC6.out.size))
    clear a0 a1 a2 b0 b1 b2 hb7 hc8 hb8 HA6 HB6 HC6 HX6
    have he8 := hide (he.below HC8.out)
    have HAW8 := hide (HAW.out _ he8.out)
    go_wp2_with fail
    refine HAW8.out.mono ?_
    rintro e w9 ⟨rfl, hb9⟩
    have HX9 := hide (HX8.out.keep hb9 HX8.out.lt)
    have HY9 := hide (HY8.out.keep hb9 HY8.out.lt)
    have hbf := HC8.out.trans (hb9.mono HC8.out.size)
    obtain ⟨c0, c1, c2, _⟩ := HX9.out
    obtain ⟨d0, d1, d2, _⟩ := HY9.out
    go_wp2_with fail
    go_ret
    exact ⟨rfl, hbf⟩
end Go.Proofs.YthppojbabkljpaaGreatDoor.RsLaw6
