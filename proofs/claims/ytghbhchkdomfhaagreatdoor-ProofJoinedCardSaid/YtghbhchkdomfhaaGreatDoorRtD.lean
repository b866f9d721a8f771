/- The walk of the reference's Format. -/
import Derived.Test.YtghbhchkdomfhaaGreatDoorRK
namespace Go.Proofs.YtghbhchkdomfhaaGreatDoor.RtD
theorem here : True := trivial
open Go.RowKit RnA RnB RnS RnC RnK RnM RnL RnN RnD RnE RnQ RnR RnP RnW RnX RoA RoB RoC RoD RoE RoF RoG RoH RoI RoJ RoK RoL RoM RoN PnA PnB PnC PnD PnE PnF PnG PnH PnI PnJ PnK PnL RtA RtB RtC RpA RpB RpC RpD RpE RpF RpG RpH
set_option maxHeartbeats 2000000 in
set_option maxRecDepth 100000 in
theorem rformat_any (n : Bool) (a d : ByteArray) (w : World) (ha : a.size ≤ 50000) (hd : d.size ≤ 50000) :
    Calls Tryz.prog 48 #[.agg #[.bool n, .string a, .string d]] w (SPost (st (formatQ (fixQ n a.data.toList d.data.toList))) w) := by
  have HC := Lib.hid (fun w => rfix_any n a d w (by omega) (by omega))
  obtain ⟨hs1, hs2⟩ := fix_size (n := n) (a := a) (d := d)
  generalize fixQ n a.data.toList d.data.toList = q at *
  rw [enc_open] at HC
  have HF1 := Lib.hid (fun w => rnatformat_any (bs (nm q)) w (by omega))
  rw [nv_bs] at HF1
  have hr := hide (fmt_eq q)
  have hT1 := dec_size (nm q)
  by_cases hd1 : q.den = 1
  · rw [if_pos hd1] at hr
    have hds := dstr_one hd1
    rw [st_nil_right] at hr
    have hT : (st (decOf (nm q))).size ≤ 150001 := by omega
    generalize st (formatQ q) = R at *
    generalize st (decOf (nm q)) = T1 at *
    generalize dstr q = D at *
    generalize bs (nm q) = A at *
    subst hds
    clear hd1 hs1 hs2 hT1
    cases hn : negB q
    all_goals
      rw [hn] at HC hr
      go_enter Tryz.func48, Tryz.ntmps48
      go_wp2_with fail
      refine (HC.out _).mono ?_
      rintro e w1 ⟨rfl, hb1⟩
      obtain ⟨hbx, hbw, hbl⟩ := boxed hb1
      have HBX1 := hide hbx
      obtain ⟨c0, c1, c2, f0, f1, f2⟩ := hbx
      go_wp2_with fail
      refine (HF1.out _).mono ?_
      rintro e w2 ⟨rfl, hb2⟩
      have HBX2 := hide ((HBX1.out.set3 _ _ _).keep hb2 (by rw [set3_size]; exact hbl))
      obtain ⟨d0, d1, d2, _⟩ := HBX2.out
      have hbf := (below_set3 hbw (Nat.le_refl _) _ _ _).trans (hb2.mono (by rw [set3_size]; exact Nat.le_of_lt hbl))
      clear c0 c1 c2 f0 f1 f2 hb1 hb2
      go_wp2_with fail
      go_ret
      refine ⟨?_, hbf⟩
      rw [hr.out]
      first | (rw [if_pos (by trivial)]; rfl) | (rw [if_neg (by simp), st_nil_left]; rfl)
  · rw [if_neg hd1] at hr
    have hds := dstr_big hd1
    have hsd := den_size q
    have HF2 := Lib.hid (fun w => rnatformat_any (bs q.den) w (by omega))
    rw [nv_bs] at HF2
    have hdp := bytes_ne_nil q.den_nz
    rw [hds] at HC
    have hT2 := dec_size q.den
    have hT : (st (decOf (nm q))).size ≤ 150001 := by omega
    have hT' : (st (decOf q.den)).size ≤ 200001 := by omega
    generalize st (formatQ q) = R at *
    generalize st (decOf (nm q)) = T1 at *
    generalize st (decOf q.den) = T2 at *
    generalize bs q.den = D at *
    generalize bs (nm q) = A at *
    obtain ⟨e1, e2⟩ := str_ne hdp
    clear hd1 hs1 hs2 hds hsd hT1 hT2
    cases hn : negB q
    all_goals
      rw [hn] at HC hr
      go_enter Tryz.func48, Tryz.ntmps48
      go_wp2_with fail
      refine (HC.out _).mono ?_
      rintro e w1 ⟨rfl, hb1⟩
      obtain ⟨hbx, hbw, hbl⟩ := boxed hb1
      have HBX1 := hide hbx
      obtain ⟨c0, c1, c2, f0, f1, f2⟩ := hbx
      go_wp2_with fail
      refine (HF1.out _).mono ?_
      rintro e w2 ⟨rfl, hb2⟩
      have HBX2 := hide ((HBX1.out.set3 _ _ _).keep hb2 (by rw [set3_size]; exact hbl))
      obtain ⟨d0, d1, d2, _⟩ := HBX2.out
      have hbf := (below_set3 hbw (Nat.le_refl _) _ _ _).trans (hb2.mono (by rw [set3_size]; exact Nat.le_of_lt hbl))
      clear c0 c1 c2 f0 f1 f2 hb1 hb2
      go_wp2_with fail
      refine (HF2.out _).mono ?_
      rintro e w3 ⟨rfl, hb3⟩
      have hbf2 := hbf.trans (hb3.mono hbf.size)
      clear d0 d1 d2
      go_wp2_with fail
      go_ret
      refine ⟨?_, hbf2⟩
      rw [hr.out]
      first | (rw [if_pos (by trivial)]; exact ret_str ((bapp_assoc (st [45] ++ T1) (st [47]) T2).trans (bapp_assoc (st [45]) T1 (st [47] ++ T2)))) | (rw [if_neg (by simp), st_nil_left]; exact ret_str (bapp_assoc T1 (st [47]) T2))
end Go.Proofs.YtghbhchkdomfhaaGreatDoor.RtD
