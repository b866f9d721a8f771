/- The walk of the law RationalArithmetic. -/
import Derived.Test.YthppojbabkljpaaGreatDoorRsV
namespace Go.Proofs.YthppojbabkljpaaGreatDoor.RsLaw5
open Go.RowKit RnA RnB RnS RnC RnK RnM RnL RnN RnD RnE RnQ RnR RnG RnP RnW RnX RoA RoB RoC RoD RoE RoF RoG RoH RoI RoJ RoK RoL RoM RoN PnA PnB PnC PnD PnE PnF PnG PnH PnI PnJ PnK PnL RtA RtB RtC RtD RtE RtG RtH RtI RtJ RpA RpB RpC RpD RpE RpF RpG RpH RnY RpI RpJ RpK RpL RsX RsY RsW RsV
set_option maxHeartbeats 8000000 in
set_option maxRecDepth 100000 in
theorem arithmetic_law (n : Bool) (a d : ByteArray) (n' : Bool) (a' d' : ByteArray) (w : World) (h1 : a.size ≤ maxLen) (h2 : d.size ≤ maxLen) (h3 : a'.size ≤ maxLen) (h4 : d'.size ≤ maxLen) (he : Env w) :
    Calls Tryz.prog 10 #[.agg #[.bool n, .string a, .string d], .agg #[.bool n', .string a', .string d']] w fun e w' => e = .returned (.bool true) ∧ Below w.heap.size w w' := by
  have HAW := Lib.hid (fun w (h : Env w) => awake_any w h)
  obtain ⟨W0, W2, hW0, hW2, hs0, HA2, HB2, HC2, hsz⟩ := startb w (.bool n) (.string a) (.string d) (.bool n') (.string a') (.string d')
  have HFEW := Lib.hid (few_two n a d n' a' d' W2 24 h1 h2 h3 h4)
  obtain ⟨a0, a1, a2, _⟩ := HA2.out
  obtain ⟨b0, b1, b2, _⟩ := HB2.out
  obtain ⟨V, hV⟩ : ∃ V, W2.alloc (.cells #[.bool n, .string a, .string d, .bool n', .string a', .string d'] 24) = V := ⟨_, rfl⟩
  have hbV : Below W2.heap.size W2 V := by rw [← hV]; exact (Below.refl _ _).alloc (Nat.le_refl _) _
  rw [hV] at HFEW
  have HA3 := hide (HA2.out.keep hbV HA2.out.lt)
  have HB3 := hide (HB2.out.keep hbV HB2.out.lt)
  have HC3 := hide (HC2.out.trans (hbV.mono HC2.out.size))
  clear hbV
  cases hf : fewB a d && fewB a' d'
  · rw [hf] at HFEW
    go_enter Tryz.func10, Tryz.ntmps10
    go_wp2_with fail
    refine HFEW.out.mono ?_
    rintro e w3 ⟨rfl, hb3⟩
    have hbf := HC3.out.trans (hb3.mono HC3.out.size)
    have he3 := hide (he.below hbf)
    go_wp2_with fail
    refine (HAW.out _ he3.out).mono ?_
    rintro e w4 ⟨rfl, hb4⟩
    go_wp2_with fail
    go_ret
    exact ⟨rfl, hbf.trans (hb4.mono hbf.size)⟩
  · rw [hf] at HFEW
    rw [Bool.and_eq_true] at hf
    obtain ⟨x1, x2⟩ := few_size hf.1
    obtain ⟨x3, x4⟩ := few_size hf.2
    have P1 := Lib.hid (fun W (v : Qin.In (Below W.heap.size W)) => q_in (neg_any n a d v.val (by omega) (by omega)))
    have R1 := Lib.hid (fun W (v : Qin.In (Below W.heap.size W)) => q_in (rneg_any n a d v.val (by omega) (by omega)))
    have P2 := Lib.hid (fun W (v : Qin.In (Below W.heap.size W)) => q_in (padd_any n a d n' a' d' v.val 24 x1 x2 x3 x4 (by decide) (by decide)))
    have R2 := Lib.hid (fun W (v : Qin.In (Below W.heap.size W)) => q_in (radd_any n a d n' a' d' v.val 24 x1 x2 x3 x4 (by decide) (by decide)))
    have P3 := Lib.hid (fun W (v : Qin.In (Below W.heap.size W)) => q_in (psub_any n a d n' a' d' v.val 24 x1 x2 x3 x4 (by decide) (by decide)))
    have R3 := Lib.hid (fun W (v : Qin.In (Below W.heap.size W)) => q_in (rsub_any n a d n' a' d' v.val 24 x1 x2 x3 x4 (by decide) (by decide)))
    have P4 := Lib.hid (fun W (v : Qin.In (Below W.heap.size W)) => q_in (pmul_any n a d n' a' d' v.val 24 x1 x2 x3 x4 (by decide) (by decide)))
    have R4 := Lib.hid (fun W (v : Qin.In (Below W.heap.size W)) => q_in (rmul_any n a d n' a' d' v.val 24 x1 x2 x3 x4 (by decide) (by decide)))
    generalize fixQ n a.data.toList d.data.toList + fixQ n' a'.data.toList d'.data.toList = r2 at *
    generalize fixQ n a.data.toList d.data.toList - fixQ n' a'.data.toList d'.data.toList = r3 at *
    generalize fixQ n a.data.toList d.data.toList * fixQ n' a'.data.toList d'.data.toList = r4 at *
    generalize -fixQ n a.data.toList d.data.toList = r1 at *
    have S1 := fun W => rat_same (negB r1) (bs (nm r1)) (dstr r1) W
    have S2 := fun W => rat_same (negB r2) (bs (nm r2)) (dstr r2) W
    have S3 := fun W => rat_same (negB r3) (bs (nm r3)) (dstr r3) W
    have S4 := fun W => rat_same (negB r4) (bs (nm r4)) (dstr r4) W
    have hrg := rat_guard
    clear h1 h2 h3 h4 hf x1 x2 x3 x4
    go_enter Tryz.func10, Tryz.ntmps10
    go_wp2_with fail
    refine HFEW.out.mono ?_
    rintro e w3 ⟨rfl, hb3⟩
    have HA4 := hide (HA3.out.keep hb3 HA3.out.lt)
    have HB4 := hide (HB3.out.keep hb3 HB3.out.lt)
    have HC4 := hide (HC3.out.trans (hb3.mono HC3.out.size))
    have he4 := hide (he.below HC4.out)
    have HAWI := Lib.hid (fun x => awake_in w3 he4.out x)
    clear a0 a1 a2 b0 b1 b2 hb3 HA3 HB3 HC3 HFEW hV hW0 hW2 HA2 HB2 HC2
    go_wp2_with fail
    obtain ⟨k0, k1, k2⟩ := HA4.out.kin
    obtain ⟨l0, l1, l2⟩ := HB4.out.kin
    refine Qin.region (I := Below w3.heap.size w3) (Qin.start _ w3) (by kernel_rfl) (by kernel_rfl) ?_
    repeat (go_big_quiet_step ((first | (go_at_call 16; with_reducible exact HAWI.out _) | (go_at_call 37; with_reducible exact P1.out _ _) | (go_at_call 38; with_reducible exact R1.out _ _) | (go_at_call 39; with_reducible exact P2.out _ _) | (go_at_call 40; with_reducible exact R2.out _ _) | (go_at_call 41; with_reducible exact P3.out _ _) | (go_at_call 42; with_reducible exact R3.out _ _) | (go_at_call 43; with_reducible exact P4.out _ _) | (go_at_call 44; with_reducible exact R4.out _ _))))
    refine wpQuiet_nil ?_
    intro y
    have hbf := HC4.out.trans (y.ok.mono HC4.out.size)
    clear k0 k1 k2 l0 l1 l2
    go_wp2_with fail
    go_ret
    exact ⟨rfl, hbf⟩
end Go.Proofs.YthppojbabkljpaaGreatDoor.RsLaw5
