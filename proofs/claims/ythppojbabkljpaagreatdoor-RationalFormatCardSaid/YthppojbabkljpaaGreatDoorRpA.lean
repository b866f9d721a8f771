/- The walks of the program's Valid, clean, den of rational numbers. -/
import Derived.Test.YthppojbabkljpaaGreatDoorRtA
namespace Go.Proofs.YthppojbabkljpaaGreatDoor.RpA
open Go.RowKit RnA RnB RnS RnC RnK RnM RnL RnN RnD RnE RnQ RnR RnP RnW RnX RoA RoB RoC RoD RoE RoF RoG RoH RoI RoJ RoK RoL RoM RoN PnA PnB PnC PnD PnE PnG PnH PnI PnJ RtA
theorem quiet_norm (s t : ByteArray) (W : World) (q : Nat) (hs : s.size ≤ 9223372036854775807) (ht : bs (nv s) = t) :
    Calls Tryz.prog 107 #[.string s] (W.drewN q) fun e w'' => e = .returned (.string t) ∧ ∃ n, w'' = W.drewN n :=
  (norm_any s _ hs).mono fun _ _ ⟨h1, h2⟩ => ⟨by rw [h1, ht], q, h2.symm⟩
set_option maxHeartbeats 1000000 in
set_option maxRecDepth 100000 in
theorem valid_any (n : Bool) (a d : ByteArray) (w : World) (ha : a.size ≤ 100000) (hd : d.size ≤ 100000) :
    Calls Tryz.prog 115 #[.agg #[.bool n, .string a, .string d]] w fun e w' => e = .returned (.bool (validB n a.data.toList d.data.toList)) ∧ Below w.heap.size w w' := by
  obtain ⟨ta, hta⟩ : ∃ t, bs (nv a) = t := ⟨_, rfl⟩
  obtain ⟨td, htd⟩ : ∃ t, bs (nv d) = t := ⟨_, rfl⟩
  have HTA := Lib.hid hta
  have HTD := Lib.hid htd
  have HQA := Lib.hid (fun W q => quiet_norm a ta W q (by omega) hta)
  have HQD := Lib.hid (fun W q => quiet_norm d td W q (by omega) htd)
  clear hta htd
  cases hb1 : (ta.toList == a.toList)
  · have hr : Hid (validB n a.data.toList d.data.toList = false) := vb1 (fun e => eqb_false hb1 (by rw [← HTA.out, e]; simp [bs, nv]))
    go_enter Tryz.func115, Tryz.ntmps115
    go_wp2_with fail
    go_quiet ((go_at_call 107; with_reducible exact HQA.out _ _))
    go_wp2_with fail
    go_ret
    exact ⟨ret_bool hr.out.symm, below_drewN ((Below.refl _ _).alloc (Nat.le_refl _) _) _⟩
  · obtain rfl := eqb_true hb1
    cases hb2 : (td.toList == d.toList)
    · have hr : Hid (validB n ta.data.toList d.data.toList = false) := vb2 (fun e => eqb_false hb2 (by rw [← HTD.out, e]; simp [bs, nv]))
      go_enter Tryz.func115, Tryz.ntmps115
      go_wp2_with fail
      go_quiet ((go_at_call 107; first | (with_reducible exact HQA.out _ _) | (with_reducible exact HQD.out _ _)))
      go_wp2_with fail
      go_ret
      exact ⟨ret_bool hr.out.symm, below_drewN ((Below.refl _ _).alloc (Nat.le_refl _) _) _⟩
    · obtain rfl := eqb_true hb2
      have hA : ta.data.toList = bytesOf (bval ta.data.toList) := by
        have := congrArg (fun s : ByteArray => s.data.toList) HTA.out
        exact this.symm
      have hD : td.data.toList = bytesOf (bval td.data.toList) := by
        have := congrArg (fun s : ByteArray => s.data.toList) HTD.out
        exact this.symm
      by_cases h0 : 0 < ta.size
      · obtain ⟨e1, e2⟩ := str_ne h0
        have hane : ta.data.toList ≠ [] := by rw [tl] at e1; exact fun h => by rw [e1] at h; exact h
        by_cases h1 : 0 < td.size
        · obtain ⟨e3, e4⟩ := str_ne h1
          have hdne : td.data.toList ≠ [] := by rw [tl] at e3; exact fun h => by rw [e3] at h; exact h
          cases hb3 : (td.toList == [1])
          · have hd1 : td.data.toList ≠ [1] := by rw [tl] at hb3; simpa using hb3
            have hv5 := vb5 (n := n) hA hD hane hd1
            have hr : Hid (validB n ta.data.toList td.data.toList = ((bs ((nv ta).gcd (nv td))).toList == [1])) := by
              show _ = _
              rw [hv5, decide_eq_false hdne, Bool.false_or, tl]
              show decide ((nv ta).gcd (nv td) = 1) = (bytesOf ((nv ta).gcd (nv td)) == [1])
              rw [← bytesOf_one]
              by_cases h : (nv ta).gcd (nv td) = 1
              · rw [decide_eq_true h, h]; simp
              · have : bytesOf ((nv ta).gcd (nv td)) ≠ bytesOf 1 := fun e => h (bytesOf_inj e)
                simp [h, this]
            have HG := Lib.hid (fun w => gcd_any ta td w ha hd)
            generalize (nv ta).gcd (nv td) = g at *
            clear hA hD hane hv5 hdne hd1
            go_enter Tryz.func115, Tryz.ntmps115
            go_wp2_with fail
            go_quiet ((go_at_call 107; first | (with_reducible exact HQA.out _ _) | (with_reducible exact HQD.out _ _)))
            go_wp2_with fail
            refine (HG.out _).mono ?_
            rintro e w5 ⟨rfl, hb5⟩
            go_wp2_with fail
            go_ret
            exact ⟨ret_bool hr.out.symm, (below_drewN ((Below.refl _ _).alloc (Nat.le_refl _) _) _).trans (hb5.mono (by simp))⟩
          · have hr : Hid (validB n ta.data.toList td.data.toList = false) := vb3 (by rw [tl] at hb3; simpa using hb3)
            clear hA hD hane hdne
            go_enter Tryz.func115, Tryz.ntmps115
            go_wp2_with fail
            go_quiet ((go_at_call 107; first | (with_reducible exact HQA.out _ _) | (with_reducible exact HQD.out _ _)))
            go_wp2_with fail
            go_ret
            exact ⟨ret_bool hr.out.symm, below_drewN ((Below.refl _ _).alloc (Nat.le_refl _) _) _⟩
        · obtain ⟨e3, e4⟩ := str_em (s := td) (by omega)
          have hde : td.data.toList = [] := by rw [← tl]; exact e3
          have hr : Hid (validB n ta.data.toList td.data.toList = true) := by
            show _ = _
            rw [vb5 hA hD hane (by rw [hde]; simp), decide_eq_true hde]; rfl
          clear hA hD hane hde
          go_enter Tryz.func115, Tryz.ntmps115
          go_wp2_with fail
          go_quiet ((go_at_call 107; first | (with_reducible exact HQA.out _ _) | (with_reducible exact HQD.out _ _)))
          go_wp2_with fail
          go_ret
          exact ⟨ret_bool hr.out.symm, below_drewN ((Below.refl _ _).alloc (Nat.le_refl _) _) _⟩
      · obtain ⟨e1, e2⟩ := str_em (s := ta) (by omega)
        have hae : ta.data.toList = [] := by rw [← tl]; exact e1
        have hr : Hid (validB n ta.data.toList td.data.toList = (!n && td.toList.isEmpty)) := by
          show _ = _
          rw [vb4 hA hD hae, tl]
          congr 1
          rcases td.data.toList with _ | ⟨c, l⟩ <;> rfl
        clear hA hD hae
        cases n
        all_goals
          go_enter Tryz.func115, Tryz.ntmps115
          go_wp2_with fail
          go_quiet ((go_at_call 107; first | (with_reducible exact HQA.out _ _) | (with_reducible exact HQD.out _ _)))
          go_wp2_with fail
          go_ret
          exact ⟨ret_bool hr.out.symm, below_drewN ((Below.refl _ _).alloc (Nat.le_refl _) _) _⟩
set_option maxHeartbeats 1000000 in
set_option maxRecDepth 100000 in
theorem clean_any (n : Bool) (a d : ByteArray) (w : World) (ha : a.size ≤ 100000) (hd : d.size ≤ 100000) :
    Calls Tryz.prog 73 #[.agg #[.bool n, .string a, .string d]] w fun e w' => e = .returned (enc (fixQ n a.data.toList d.data.toList)) ∧ Below w.heap.size w w' := by
  have HV := Lib.hid (fun w => valid_any n a d w ha hd)
  have hB := (Below.refl w.heap.size w).alloc (Nat.le_refl _) (.cells #[.bool n, .string a, .string d] 24)
  have hB2 := hB.alloc (by simp) (.cells #[.bool false, .string ⟨#[]⟩, .string ⟨#[]⟩] 24)
  have hx := (Bx.new w (.bool n) (.string a) (.string d) 24).alloc (.cells #[.bool false, .string ⟨#[]⟩, .string ⟨#[]⟩] 24) (by simp)
  have hy := Bx.new (w.alloc (.cells #[.bool n, .string a, .string d] 24)) (.bool false) (.string ⟨#[]⟩) (.string ⟨#[]⟩) 24
  rw [show (w.alloc (.cells #[.bool n, .string a, .string d] 24)).heap.size = w.heap.size + 1 by simp] at hy
  have HX := hide hx
  have HY := hide hy
  have HB2 := hide hB2
  clear hx hy hB hB2
  cases hv : validB n a.data.toList d.data.toList
  · rw [hv] at HV
    have hr := hide (fix_bad hv)
    go_enter Tryz.func73, Tryz.ntmps73
    go_wp2_with fail
    refine (HV.out _).mono ?_
    rintro e w1 ⟨rfl, hb1⟩
    have hY := HY.out.keep hb1 (by simp)
    have HY1 := hide hY
    obtain ⟨c0, c1, c2, f0, f1, f2⟩ := hY
    have hbf := HB2.out.trans (hb1.mono (by simp; omega))
    go_wp2_with fail
    refine bodyPost_ret (results_rat rfl _ rfl (HY1.out.set3 _ _ _)) rfl ?_
    refine ⟨?_, below_set3 hbf (by omega) _ _ _⟩
    rw [hr.out, enc_zero_val]
  · rw [hv] at HV
    have hr := hide (enc_fix_val hv)
    go_enter Tryz.func73, Tryz.ntmps73
    go_wp2_with fail
    refine (HV.out _).mono ?_
    rintro e w1 ⟨rfl, hb1⟩
    have hY := HY.out.keep hb1 (by simp)
    have HY1 := hide hY
    obtain ⟨c0, c1, c2, f0, f1, f2⟩ := hY
    obtain ⟨d0, d1, d2, _⟩ := HX.out.keep hb1 (by simp; omega)
    have hbf := HB2.out.trans (hb1.mono (by simp; omega))
    go_wp2_with fail
    refine bodyPost_ret (results_rat rfl _ rfl (HY1.out.set3 _ _ _)) rfl ?_
    refine ⟨?_, below_set3 hbf (by omega) _ _ _⟩
    rw [hr.out]
theorem bytes_ne_nil {m : Nat} (h : m ≠ 0) : 0 < (bs m).size := by
  rw [bs_size]
  rcases Nat.eq_zero_or_pos (bytesOf m).length with h1 | h1
  · exact absurd (bytesOf_nil.1 (List.eq_nil_of_length_eq_zero h1)) h
  · exact h1
/-- a denominator that is laid open: 1 is written as nothing -/
theorem dstr_one {q : Rat} (h : q.den = 1) : dstr q = ⟨#[]⟩ := by unfold dstr encD; rw [if_pos h]; rfl
theorem dstr_big {q : Rat} (h : q.den ≠ 1) : dstr q = bs q.den := by unfold dstr encD; rw [if_neg h]; rfl
theorem bs1 : bs 1 = ⟨#[1]⟩ := by unfold bs; rw [bytesOf_one]
set_option maxHeartbeats 1000000 in
set_option maxRecDepth 100000 in
theorem den_any (q : Rat) (w : World) :
    Calls Tryz.prog 77 #[enc q] w fun e w' => e = .returned (.string (bs q.den)) ∧ Below w.heap.size w w' := by
  unfold enc
  by_cases h : q.den = 1
  · rw [dstr_one h, h, bs1]
    go_enter Tryz.func77, Tryz.ntmps77
    go_wp2_with fail
    go_ret
    exact ⟨rfl, (Below.refl _ _).alloc (Nat.le_refl _) _⟩
  · rw [dstr_big h]
    have h1 := bytes_ne_nil q.den_nz
    generalize bs q.den = s at *
    obtain ⟨e1, e2⟩ := str_ne h1
    go_enter Tryz.func77, Tryz.ntmps77
    go_wp2_with fail
    go_ret
    exact ⟨rfl, (Below.refl _ _).alloc (Nat.le_refl _) _⟩
end Go.Proofs.YthppojbabkljpaaGreatDoor.RpA
