/- Sums of lists of rational numbers: the program's Sum and the reference's. -/
import Derived.Test.YthppojbabkljpaaGreatDoorRsU
namespace Go.Proofs.YthppojbabkljpaaGreatDoor.RsM
open Go.RowKit RnA RnB RnS RnC RnK RnM RnL RnN RnD RnE RnQ RnR RnG RnP RnW RnX RoA RoB RoC RoD RoE RoF RoG RoH RoI RoJ RoK RoL RoM RoN PnA PnB PnC PnD PnE PnF PnG PnH PnI PnJ PnK PnL RtA RtB RtC RtD RtE RtG RtH RtI RtJ RpA RpB RpC RpD RpE RpF RpG RpH RnY RpI RpJ RpK RpL RsX RsY RsW RsV RsU
def qOf (r : Raw) : Rat := fixQ r.1 r.2.1.data.toList r.2.2.data.toList
def sumL : List Raw → Rat
  | [] => 0
  | r :: l => qOf r + sumL l
theorem sumL_app (a b : List Raw) : sumL (a ++ b) = sumL a + sumL b := by
  induction a with
  | nil => show sumL b = 0 + sumL b; grind
  | cons x a ih => show qOf x + sumL (a ++ b) = qOf x + sumL a + sumL b; rw [ih]; grind
theorem sumL_turn (l : List Raw) (i : Nat) : sumL (l.drop i ++ l.take i) = sumL l := by
  have h := sumL_app (l.take i) (l.drop i)
  rw [List.take_append_drop] at h
  rw [sumL_app, h]; grind
theorem sumL_next {l : List Raw} {k : Nat} {r : Raw} (h : l[k]? = some r) : sumL (l.take (k + 1)) = sumL (l.take k) + qOf r := by
  rw [List.take_add_one, h, sumL_app]
  show _ + (qOf r + 0) = _
  grind
theorem fewL_get {l : List Raw} {k : Nat} {n : Bool} {a d : ByteArray} (hf : fewL l = true) (h : l[k]? = some (n, a, d)) : a.size ≤ 24 ∧ d.size ≤ 24 :=
  few_size (List.all_eq_true.1 hf _ (List.mem_of_getElem? h))
theorem sumL_lt {l : List Raw} (hf : fewL l = true) : ∀ k, k ≤ l.length → Lt (sumL (l.take k)) (25 * k + 1)
  | 0, _ => Lt.zero
  | k + 1, hk => by
    obtain ⟨⟨n, a, d⟩, hx⟩ : ∃ r, l[k]? = some r := ⟨_, List.getElem?_eq_getElem (by omega)⟩
    obtain ⟨h1, h2⟩ := fewL_get hf hx
    rw [sumL_next hx]
    have h3 := (sumL_lt hf k (by omega)).add (lt_raw (n := n) (k := 24) h1 h2 (by omega))
    exact h3.mono (by omega)
theorem at_kin {W : World} {b j : Nat} {x : Value} (hb : b < W.heap.size) (h : W.cell? ⟨b, j, none⟩ = some x) (v : Qin.In (Below W.heap.size W)) : v.val.cell? ⟨b, j, none⟩ = some x :=
  (v.ok.cell (p := ⟨b, j, none⟩) hb).trans h
theorem zero_bx {w : World} {k : Nat} (h : Bx w k (.bool false) (.string ⟨#[]⟩) (.string ⟨#[]⟩)) : Bx w k (.bool (negB 0)) (.string (bs (nm 0))) (.string (dstr 0)) := by
  have e1 : negB 0 = false := by decide
  have e2 : bs (nm 0) = ⟨#[]⟩ := by rw [show nm 0 = 0 from rfl, bs0]
  have e3 : dstr 0 = ⟨#[]⟩ := dstr_one rfl
  rw [e1, e2, e3]; exact h
set_option maxHeartbeats 8000000 in
set_option maxRecDepth 100000 in
theorem sum_any (l : List Raw) (A : Option Addr) (c : Nat) (w : World) (h : RatsAt w w.heap.size A l) (hf : fewL l = true) (hl : l.length ≤ 12) :
    Calls Tryz.prog 35 #[.slice A l.length c] w (RPost (sumL l) w) := by
  have H := hide h
  have HF := hide hf
  clear h hf
  obtain ⟨W0, W1, hW0, hW1, hs0, HR, HT, HB, hsz⟩ := start2 w (.bool false) (.string ⟨#[]⟩) (.string ⟨#[]⟩)
  obtain ⟨W2, hW2⟩ : ∃ W2, ((W1.setCell ⟨w.heap.size + 1, 0, none⟩ (.bool false)).setCell ⟨w.heap.size + 1, 1, none⟩ (.string ⟨#[]⟩)).setCell ⟨w.heap.size + 1, 2, none⟩ (.string ⟨#[]⟩) = W2 := ⟨_, rfl⟩
  have HR0 : Hid (Bx W2 w.heap.size (.bool false) (.string ⟨#[]⟩) (.string ⟨#[]⟩)) := by rw [← hW2]; exact HR.out.other3 (by omega) _ _ _
  have HT0 : Hid (Bx W2 (w.heap.size + 1) (.bool false) (.string ⟨#[]⟩) (.string ⟨#[]⟩)) := by rw [← hW2]; exact HT.out.set3 _ _ _
  have HB0 : Hid (Below w.heap.size w W2) := by rw [← hW2]; exact below_set3 HB.out (by omega) _ _ _
  obtain ⟨d0, d1, d2, g0, g1, g2⟩ := HT.out
  unfold RPost
  go_enter Tryz.func35, Tryz.ntmps35
  go_wp2_with fail
  go_loopw [9] (fun vi wr => ∃ (k : Nat) (q : Rat), k ≤ l.length ∧ vi = .int .i64 k ∧ Hid (q = sumL (l.take k)) ∧ Hid (Bx wr w.heap.size (.bool false) (.string ⟨#[]⟩) (.string ⟨#[]⟩)) ∧ Hid (Bx wr (w.heap.size + 1) (.bool (negB q)) (.string (bs (nm q))) (.string (dstr q))) ∧ Hid (Below w.heap.size w wr)) (fun vi _ => l.length - (intOf vi).toNat)
  case atStart =>
    exact ⟨0, 0, by omega, rfl, rfl, HR0, zero_bx HT0.out, HB0⟩
  case round =>
    clear d0 d1 d2 g0 g1 g2 hW0 hW1 hW2
    obtain ⟨k, q, hk, rfl, hq, HR1, HT1, HB1⟩ := hrel
    by_cases hlt : k < l.length
    · obtain ⟨⟨n, a, d⟩, hx⟩ : ∃ r, l[k]? = some r := ⟨_, List.getElem?_eq_getElem hlt⟩
      obtain ⟨b, off, rfl, hbw, hc⟩ := (H.out.below HB1.out).2 (by omega)
      obtain ⟨q1, q2, c0, c1, c2⟩ := hc k n a d hx
      have hwr := HB1.out.size
      have htl := HT1.out.lt
      obtain ⟨z1, z2⟩ := fewL_get HF.out hx
      have hlq : Lt q 400 := by rw [hq.out]; exact (sumL_lt HF.out k hk).mono (by omega)
      have hlq' : Lt (fixQ n a.data.toList d.data.toList) 400 := lt_raw (by omega) (by omega) (by omega)
      have HC := Lib.hid (fun W v => clean_in n a d _ rfl W v (by omega) (by omega))
      have HN := hide (sumL_next hx)
      change Hid (_ = _ + fixQ n a.data.toList d.data.toList) at HN
      generalize fixQ n a.data.toList d.data.toList = q' at *
      have HS := Lib.hid (fun W (v : Qin.In (Below W.heap.size W)) => q_in (add_q q q' v.val 400 400 hlq hlq' (by omega)))
      have HE : Hid (q + q' = sumL (l.take (k + 1))) := by show _ = _; rw [HN.out, hq.out]
      generalize q + q' = r at *
      clear hx hc q1 q2 z1 z2 hlq hlq' hq HN
      obtain ⟨V, hV, HX, hcv, hlv⟩ := box_new wr (.bool n) (.string a) (.string d)
      have HTV := hide (HT1.out.keep hcv htl)
      have HRV := hide (HR1.out.keep hcv (by omega))
      have HBV := hide (HB1.out.trans (hcv.mono hwr))
      have hsv := HBV.out.size
      have HV := hide hV
      go_wp2_with fail
      obtain ⟨k0, k1, k2⟩ := HX.out.kin
      obtain ⟨l0, l1, l2⟩ := HTV.out.kin
      refine Qtl.region (I := Below V.heap.size V) 4 (Qin.start _ _) (by kernel_rfl) (by kernel_rfl) ?_
      simp only [List.take_succ_cons, List.take_zero, List.drop_succ_cons, List.drop_zero]
      repeat (go_big_quiet_step ((first | (go_at_call 73; with_reducible exact HC.out _ _) | (go_at_call 91; with_reducible exact HS.out _ _))))
      refine wpQuiet_nil ?_
      intro v
      clear k0 k1 k2 l0 l1 l2 c0 c1 c2
      have HT2 := hide (HTV.out.keep v.ok HTV.out.lt)
      have HR2 := hide (HRV.out.keep v.ok (by omega))
      have HB2 := hide (HBV.out.trans (v.ok.mono hsv))
      obtain ⟨d0, d1, d2, g0, g1, g2⟩ := HT2.out
      go_wp2_with fail
      go_roundw
      case rel => exact ⟨k + 1, r, by omega, by go_num, HE, HR2.out.other3 (by omega) _ _ _, HT2.out.set3 _ _ _, below_set3 HB2.out (by omega) _ _ _⟩
      case measure => simp [intOf]; omega
    · obtain ⟨d0, d1, d2, _⟩ := HT1.out
      obtain ⟨e0, e1, e2, g0, g1, g2⟩ := HR1.out
      have hfin : Hid (q = sumL l) := by show _ = _; rw [hq.out, List.take_of_length_le (by omega)]
      go_wp2_with fail
      refine bodyPost_ret (results_rat rfl _ rfl (HR1.out.set3 _ _ _)) rfl ?_
      exact ⟨by rw [← hfin.out, enc_open], below_set3 HB1.out (by omega) _ _ _⟩
set_option maxHeartbeats 8000000 in
set_option maxRecDepth 100000 in
theorem rsum_any (l : List Raw) (A : Option Addr) (c : Nat) (w : World) (h : RatsAt w w.heap.size A l) (hf : fewL l = true) (hl : l.length ≤ 12) :
    Calls Tryz.prog 36 #[.slice A l.length c] w (RPost (sumL l) w) := by
  have H := hide h
  have HF := hide hf
  clear h hf
  obtain ⟨W0, W1, hW0, hW1, hs0, HR, HT, HB, hsz⟩ := start2 w (.bool false) (.string ⟨#[]⟩) (.string ⟨#[]⟩)
  obtain ⟨W2, hW2⟩ : ∃ W2, ((W1.setCell ⟨w.heap.size + 1, 0, none⟩ (.bool false)).setCell ⟨w.heap.size + 1, 1, none⟩ (.string ⟨#[]⟩)).setCell ⟨w.heap.size + 1, 2, none⟩ (.string ⟨#[]⟩) = W2 := ⟨_, rfl⟩
  have HR0 : Hid (Bx W2 w.heap.size (.bool false) (.string ⟨#[]⟩) (.string ⟨#[]⟩)) := by rw [← hW2]; exact HR.out.other3 (by omega) _ _ _
  have HT0 : Hid (Bx W2 (w.heap.size + 1) (.bool false) (.string ⟨#[]⟩) (.string ⟨#[]⟩)) := by rw [← hW2]; exact HT.out.set3 _ _ _
  have HB0 : Hid (Below w.heap.size w W2) := by rw [← hW2]; exact below_set3 HB.out (by omega) _ _ _
  obtain ⟨d0, d1, d2, g0, g1, g2⟩ := HT.out
  unfold RPost
  go_enter Tryz.func36, Tryz.ntmps36
  go_wp2_with fail
  go_loopw [4] (fun vi wr => ∃ (k : Nat) (q : Rat), k ≤ l.length ∧ vi = .int .i64 k ∧ Hid (q = sumL (l.take k)) ∧ Hid (Bx wr w.heap.size (.bool false) (.string ⟨#[]⟩) (.string ⟨#[]⟩)) ∧ Hid (Bx wr (w.heap.size + 1) (.bool (negB q)) (.string (bs (nm q))) (.string (dstr q))) ∧ Hid (Below w.heap.size w wr)) (fun vi _ => l.length - (intOf vi).toNat)
  case atStart =>
    exact ⟨0, 0, by omega, rfl, rfl, HR0, zero_bx HT0.out, HB0⟩
  case round =>
    clear d0 d1 d2 g0 g1 g2 hW0 hW1 hW2
    obtain ⟨k, q, hk, rfl, hq, HR1, HT1, HB1⟩ := hrel
    by_cases hlt : k < l.length
    · obtain ⟨⟨n, a, d⟩, hx⟩ : ∃ r, l[k]? = some r := ⟨_, List.getElem?_eq_getElem hlt⟩
      obtain ⟨b, off, rfl, hbw, hc⟩ := (H.out.below HB1.out).2 (by omega)
      obtain ⟨q1, q2, c0, c1, c2⟩ := hc k n a d hx
      have hwr := HB1.out.size
      have htl := HT1.out.lt
      obtain ⟨z1, z2⟩ := fewL_get HF.out hx
      have hlq : Lt q 400 := by rw [hq.out]; exact (sumL_lt HF.out k hk).mono (by omega)
      have hlq' : Lt (fixQ n a.data.toList d.data.toList) 400 := lt_raw (by omega) (by omega) (by omega)
      have HC := Lib.hid (fun W v => fix_in n a d _ rfl W v (by omega) (by omega))
      have HN := hide (sumL_next hx)
      change Hid (_ = _ + fixQ n a.data.toList d.data.toList) at HN
      generalize fixQ n a.data.toList d.data.toList = q' at *
      have HS := Lib.hid (fun W (v : Qin.In (Below W.heap.size W)) => q_in (rplus_q q q' v.val 400 hlq hlq' (by omega)))
      have HE : Hid (q + q' = sumL (l.take (k + 1))) := by show _ = _; rw [HN.out, hq.out]
      generalize q + q' = r at *
      clear hx hc q1 q2 z1 z2 hlq hlq' hq HN
      obtain ⟨l0, l1, l2⟩ := HT1.out.kin
      have k0 := at_kin (by omega) c0
      have k1 := at_kin (by omega) c1
      have k2 := at_kin (by omega) c2
      go_wp2_with fail
      refine Qtl.region (I := Below wr.heap.size wr) 7 (Qin.start _ _) (by kernel_rfl) (by kernel_rfl) ?_
      simp only [List.take_succ_cons, List.take_zero, List.drop_succ_cons, List.drop_zero]
      repeat (go_big_quiet_step ((first | (go_at_call 22; with_reducible exact HC.out _ _) | (go_at_call 92; with_reducible exact HS.out _ _))))
      refine wpQuiet_nil ?_
      intro v
      clear k0 k1 k2 l0 l1 l2 c0 c1 c2
      have HT2 := hide (HT1.out.keep v.ok htl)
      have HR2 := hide (HR1.out.keep v.ok (by omega))
      have HB2 := hide (HB1.out.trans (v.ok.mono hwr))
      obtain ⟨d0, d1, d2, g0, g1, g2⟩ := HT2.out
      go_wp2_with fail
      go_roundw
      case rel => exact ⟨k + 1, r, by omega, by go_num, HE, HR2.out.other3 (by omega) _ _ _, HT2.out.set3 _ _ _, below_set3 HB2.out (by omega) _ _ _⟩
      case measure => simp [intOf]; omega
    · obtain ⟨d0, d1, d2, _⟩ := HT1.out
      obtain ⟨e0, e1, e2, g0, g1, g2⟩ := HR1.out
      have hfin : Hid (q = sumL l) := by show _ = _; rw [hq.out, List.take_of_length_le (by omega)]
      go_wp2_with fail
      refine bodyPost_ret (results_rat rfl _ rfl (HR1.out.set3 _ _ _)) rfl ?_
      exact ⟨by rw [← hfin.out, enc_open], below_set3 HB1.out (by omega) _ _ _⟩
end Go.Proofs.YthppojbabkljpaaGreatDoor.RsM
