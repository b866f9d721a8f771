/- The walk of the law RationalFormat. -/
import Derived.Test.YthppojbabkljpaaGreatDoorRsL
namespace Go.Proofs.YthppojbabkljpaaGreatDoor.RsLaw2
open Go.RowKit RnA RnB RnS RnC RnK RnM RnL RnN RnD RnE RnQ RnR RnP RnW RnX RoA RoB RoC RoD RoE RoF RoG RoH RoI RoJ RoK RoL RoM RoN PnA PnB PnC PnD PnE PnF PnG PnH PnI PnJ PnK PnL RtA RtB RtC RtD RpA RpB RpC RpD RpE RpF RpG RpH RsX RsY RsW
theorem awake_in (W : World) (he : Env W) (x : Qin.In (Below W.heap.size W)) : Calls Tryz.prog 16 #[] x.val fun e w' => e = .returned (.bool true) ∧ ∃ y : Qin.In (Below W.heap.size W), w' = y.val :=
  Qin.call ((awake_any x.val (he.below x.ok)).mono fun _ _ ⟨h1, h2⟩ => ⟨h1, x.ok.trans (h2.mono x.ok.size)⟩)
theorem rformat_in (n : Bool) (a d : ByteArray) (q : Rat) (hq : fixQ n a.data.toList d.data.toList = q) (W : World) (x : Qin.In (Below W.heap.size W)) (ha : a.size ≤ 50000) (hd : d.size ≤ 50000) : Calls Tryz.prog 21 #[.agg #[.bool n, .string a, .string d]] x.val fun e w' => e = .returned (.string (st (formatQ q))) ∧ ∃ y : Qin.In (Below W.heap.size W), w' = y.val :=
  Qin.call ((rformat_any n a d x.val ha hd).mono fun _ _ ⟨h1, h2⟩ => ⟨by rw [h1, hq], x.ok.trans (h2.mono x.ok.size)⟩)
theorem rfix_in (n : Bool) (a d : ByteArray) (q : Rat) (hq : fixQ n a.data.toList d.data.toList = q) (W : World) (x : Qin.In (Below W.heap.size W)) (ha : a.size ≤ 50000) (hd : d.size ≤ 50000) : Calls Tryz.prog 22 #[.agg #[.bool n, .string a, .string d]] x.val fun e w' => e = .returned (.agg #[.bool (negB q), .string (bs (nm q)), .string (dstr q)]) ∧ ∃ y : Qin.In (Below W.heap.size W), w' = y.val :=
  Qin.call ((rfix_any n a d x.val (by omega) (by omega)).mono fun _ _ ⟨h1, h2⟩ => ⟨by rw [h1, hq, enc_open], x.ok.trans (h2.mono x.ok.size)⟩)
/-- the law's own list of one number -/
theorem few_one (n : Bool) (a d : ByteArray) (w : World) (k : Nat) (h1 : a.size ≤ maxLen) (h2 : d.size ≤ maxLen) (hb : Bx w k (.bool n) (.string a) (.string d)) :
    Calls Tryz.prog 19 #[.slice (some ⟨k, 0, none⟩) 1 1] w fun e w' => e = .returned (.bool (fewB a d)) ∧ Below w.heap.size w w' := by
  have hat : RatsAt w w.heap.size (some ⟨k, 0, none⟩) [(n, a, d)] := by
    refine ⟨by show 1 ≤ maxLen; decide, fun _ => ⟨k, 0, rfl, hb.lt, fun j n' a' d' hj => ?_⟩⟩
    match j, hj with
    | 0, hj =>
      simp only [List.getElem?_cons_zero, Option.some.injEq, Prod.mk.injEq] at hj
      obtain ⟨rfl, rfl, rfl⟩ := hj
      exact ⟨h1, h2, hb.1, hb.2.1, hb.2.2.1⟩
    | j + 1, hj => simp at hj
  refine (few_any [(n, a, d)] _ 1 w hat).mono fun e w' ⟨e1, e2⟩ => ⟨?_, e2⟩
  rw [e1]
  exact ret_bool (by rw [fewL_cons]; simp [fewL])
set_option maxHeartbeats 4000000 in
set_option maxRecDepth 100000 in
theorem format_law (n : Bool) (a d : ByteArray) (w : World) (h1 : a.size ≤ maxLen) (h2 : d.size ≤ maxLen) (he : Env w) :
    Calls Tryz.prog 4 #[.agg #[.bool n, .string a, .string d]] w fun e w' => e = .returned (.bool true) ∧ Below w.heap.size w w' := by
  have HAW := Lib.hid (fun w (h : Env w) => awake_any w h)
  obtain ⟨V0, hV0, HX0, hc0, hl0⟩ := box_new w (.bool n) (.string a) (.string d)
  obtain ⟨V1, hV1, HL1, hc1, hl1⟩ := box_new V0 (.bool n) (.string a) (.string d)
  have HX1 := hide (HX0.out.keep hc1 hl0)
  have HC1 := hide (hc0.trans (hc1.mono hc0.size))
  have HFEW := hide (few_one n a d V1 V0.heap.size h1 h2 HL1.out)
  obtain ⟨c0, c1, c2, _⟩ := HX0.out
  clear hc0 hc1
  cases hf : fewB a d
  · rw [hf] at HFEW
    go_enter Tryz.func4, Tryz.ntmps4
    go_wp2_with fail
    refine HFEW.out.mono ?_
    rintro e w2 ⟨rfl, hb2⟩
    have hbf := HC1.out.trans (hb2.mono HC1.out.size)
    have he2 := hide (he.below hbf)
    go_wp2_with fail
    refine (HAW.out _ he2.out).mono ?_
    rintro e w3 ⟨rfl, hb3⟩
    go_wp2_with fail
    go_ret
    exact ⟨rfl, hbf.trans (hb3.mono hbf.size)⟩
  · rw [hf] at HFEW
    have hsz : a.size ≤ 24 ∧ d.size ≤ 24 := by
      unfold fewB at hf
      simpa using hf
    obtain ⟨ha, hd⟩ := hsz
    obtain ⟨q, hq⟩ : ∃ q, fixQ n a.data.toList d.data.toList = q := ⟨_, rfl⟩
    obtain ⟨hs1, hs2⟩ := fix_size (n := n) (a := a) (d := d)
    rw [hq] at hs1 hs2
    have hsd := den_size q
    have hT1 := dec_size (nm q)
    have hT2 := dec_size q.den
    rw [st_size] at hT1 hT2
    have HF := Lib.hid (fun w => format_any n a d w (by omega) (by omega))
    have HRF := Lib.hid (fun W x => rformat_in n a d q hq W x (by omega) (by omega))
    have HFX := Lib.hid (fun W x => rfix_in n a d q hq W x (by omega) (by omega))
    rw [hq] at HF
    have hSs : (st (formatQ q)).size ≤ 50000 := by
      rw [st_size]
      unfold formatQ
      rw [List.length_append, List.length_append]
      have e1 : (if negB q then [45] else [] : List UInt8).length ≤ 1 := by split <;> simp
      have e2 : (if q.den = 1 then [] else 47 :: decOf q.den : List UInt8).length ≤ 1 + (decOf q.den).length := by split <;> simp <;> omega
      omega
    have HP := Lib.hid (fun w (h : Env w) => parse_any (st (formatQ q)) w hSs h)
    rw [st_data, parse_format q (by omega) (by omega)] at HP
    unfold RCPost at HP
    simp only [enc_open] at HP
    have S1 := fun W => rat_same (negB q) (bs (nm q)) (dstr q) W
    have hrg := rat_guard
    generalize st (formatQ q) = S at *
    clear hs1 hs2 hsd hT1 hT2 hq hf h1 h2
    go_enter Tryz.func4, Tryz.ntmps4
    go_wp2_with fail
    refine HFEW.out.mono ?_
    rintro e w2 ⟨rfl, hb2⟩
    have HX2 := hide (HX1.out.keep hb2 (by omega))
    have HC2 := hide (HC1.out.trans (hb2.mono HC1.out.size))
    have hs2 := hb2.size
    obtain ⟨c0, c1, c2, _⟩ := HX2.out
    clear hb2 HX1 HC1 HFEW
    go_wp2_with fail
    refine (HF.out _).mono ?_
    rintro e w3 ⟨rfl, hb3⟩
    have HX3 := hide (HX2.out.keep hb3 (by omega))
    have HC3 := hide (HC2.out.trans (hb3.mono HC2.out.size))
    have hs3 := hb3.size
    have he3 := hide (he.below HC3.out)
    clear hb3 HX2 HC2 c0 c1 c2
    go_wp2_with fail
    refine (HP.out _ he3.out).mono ?_
    rintro e w4 ⟨rfl, hb4⟩
    obtain ⟨V5, hV5, HY5, hc5, hl5⟩ := box_new w4 (.bool (negB q)) (.string (bs (nm q))) (.string (dstr q))
    have hs4 := hb4.size
    have HX5 := hide (HX3.out.keep (hb4.trans (hc5.mono hs4)) (by omega))
    have HC5 := hide (HC3.out.trans ((hb4.trans (hc5.mono hs4)).mono HC3.out.size))
    have he5 := hide (he.below HC5.out)
    clear hb4 hc5 HX3 HC3
    have HV5 := hide hV5
    clear hV5
    go_upto_region 5 with fail
    rw [HV5.out]
    have HAWI := Lib.hid (fun x => awake_in V5 he5.out x)
    have k0 := fun y : Qin.In (Below V5.heap.size V5) => (HX5.out.keep y.ok (by omega)).1
    have k1 := fun y : Qin.In (Below V5.heap.size V5) => (HX5.out.keep y.ok (by omega)).2.1
    have k2 := fun y : Qin.In (Below V5.heap.size V5) => (HX5.out.keep y.ok (by omega)).2.2.1
    have l0 := fun y : Qin.In (Below V5.heap.size V5) => (HY5.out.keep y.ok (by omega)).1
    have l1 := fun y : Qin.In (Below V5.heap.size V5) => (HY5.out.keep y.ok (by omega)).2.1
    have l2 := fun y : Qin.In (Below V5.heap.size V5) => (HY5.out.keep y.ok (by omega)).2.2.1
    haveI : Nonempty (Qin.In (Below V5.heap.size V5)) := ⟨⟨_, Below.refl _ _⟩⟩
    refine Qin.region (I := Below V5.heap.size V5) (Qin.start _ V5) (by kernel_rfl) (by kernel_rfl) ?_
    repeat (go_big_quiet_step ((first | (go_at_call 16; with_reducible exact HAWI.out _) | (go_at_call 21; with_reducible exact HRF.out _ _) | (go_at_call 22; with_reducible exact HFX.out _ _))))
    refine wpQuiet_nil ?_
    intro y
    have hbf := HC5.out.trans (y.ok.mono HC5.out.size)
    clear k0 k1 k2 l0 l1 l2
    go_wp2_with fail
    go_ret
    exact ⟨rfl, hbf⟩
end Go.Proofs.YthppojbabkljpaaGreatDoor.RsLaw2
