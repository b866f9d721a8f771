/- The walk of the law RationalSum. -/
import Derived.Test.YthppojbabkljpaaGreatDoorRsN
namespace Go.Proofs.YthppojbabkljpaaGreatDoor.RsLaw13
open Go.RowKit RnA RnB RnS RnC RnK RnM RnL RnN RnD RnE RnQ RnR RnG RnP RnW RnX RoA RoB RoC RoD RoE RoF RoG RoH RoI RoJ RoK RoL RoM RoN PnA PnB PnC PnD PnE PnF PnG PnH PnI PnJ PnK PnL RtA RtB RtC RtD RtE RtG RtH RtI RtJ RpA RpB RpC RpD RpE RpF RpG RpH RnY RpI RpJ RpK RpL RsX RsY RsW RsV RsU RsM RsN
open Wd
theorem rat_info : (Tryz.prog.info? 24).map (fun i => (i.zero, i.size, i.bytes)) = some (some (.agg #[.bool false, .string ⟨#[]⟩, .string ⟨#[]⟩]), 3, 40) := by kernel_rfl
theorem turn_facts {l : List Raw} {i : Nat} (hf : fewL l = true) (hi : i ≤ l.length) :
    ∃ m : List Raw, m.length = (l.length - i) + i ∧ fewL m = true ∧ sumL m = sumL l ∧ cellsL m = cellsL (l.drop i) ++ cellsL (l.take i) ∧ ∀ r ∈ m, r.2.1.size ≤ maxLen ∧ r.2.2.size ≤ maxLen := by
  have hm : ∀ r ∈ l.drop i ++ l.take i, fewB r.2.1 r.2.2 = true := fun r hr => List.all_eq_true.1 hf r (by
    rcases List.mem_append.1 hr with h | h
    · exact List.mem_of_mem_drop h
    · exact List.mem_of_mem_take h)
  refine ⟨l.drop i ++ l.take i, ?_, List.all_eq_true.2 hm, sumL_turn l i, cellsL_app _ _, fun r hr => ?_⟩
  · rw [List.length_append, List.length_drop, List.length_take]; omega
  · obtain ⟨h1, h2⟩ := few_size (hm r hr)
    unfold maxLen
    omega
theorem _root_.Go.Proofs.YthppojbabkljpaaGreatDoor.RsW.RatsAt.more_ {w : World} {B B' : Nat} {A : Option Addr} {l : List Raw} (h : RatsAt w B A l) (hb : B ≤ B') : RatsAt w B' A l :=
  ⟨h.1, fun hp => by
    obtain ⟨b, off, e, hlt, hc⟩ := h.2 hp
    exact ⟨b, off, e, by omega, hc⟩⟩
set_option maxHeartbeats 8000000 in
set_option maxRecDepth 100000 in
theorem sum_law (A : Option Addr) (l : List Raw) (c : Nat) (x : Int) (w : World) (h : RatsAt w w.heap.size A l) (hc : l.length ≤ c) (hx : 0 ≤ x ∧ x ≤ 255) (he : Env w) :
    Calls Tryz.prog 9 #[.slice A l.length c, .int .u8 x] w fun e w' => e = .returned (.bool true) ∧ Below w.heap.size w w' := by
  have HAW := Lib.hid (fun w (h : Env w) => awake_any w h)
  obtain ⟨k, rfl⟩ : ∃ k : Nat, x = k := ⟨x.toNat, by omega⟩
  have hk : k ≤ 255 := by omega
  have HFEW := hide (fewrats_any l 12 A c w h (by decide))
  have H := hide h
  have hlm := h.1
  unfold maxLen at hlm
  clear h
  cases hf : (decide (l.length ≤ 12) && fewL l)
  · rw [hf] at HFEW
    go_enter Tryz.func9, Tryz.ntmps9
    go_wp2_with fail
    refine HFEW.out.mono ?_
    rintro e w2 ⟨rfl, hb2⟩
    have he2 := hide (he.below hb2)
    go_wp2_with fail
    refine (HAW.out _ he2.out).mono ?_
    rintro e w3 ⟨rfl, hb3⟩
    go_wp2_with fail
    go_ret
    exact ⟨rfl, hb2.trans (hb3.mono hb2.size)⟩
  · rw [hf] at HFEW
    rw [Bool.and_eq_true, decide_eq_true_eq] at hf
    obtain ⟨hl, hfl⟩ := hf
    have HFL := hide hfl
    clear hfl
    have HP := Lib.hid (fun w => pick_any k l.length w hk (by omega))
    have S1 := Lib.hid (fun W (h : RatsAt W W.heap.size A l) => sum_any l A c W h HFL.out hl)
    have S2 := Lib.hid (fun W (h : RatsAt W W.heap.size A l) => rsum_any l A c W h HFL.out hl)
    go_enter Tryz.func9, Tryz.ntmps9
    go_wp2_with fail
    refine HFEW.out.mono ?_
    rintro e w2 ⟨rfl, hb2⟩
    go_wp2_with fail
    refine (HP.out _).mono ?_
    rintro e w4 ⟨i, hi, rfl, hb4⟩
    have hB4 := hb2.trans (hb4.mono hb2.size)
    clear hb4
    have h4 := H.out.below hB4
    obtain ⟨m, hml, hmf, hms, hmc, hmz⟩ := turn_facts HFL.out hi
    have S3 := Lib.hid (fun A' c' W (h : RatsAt W W.heap.size A' m) => sum_any m A' c' W h hmf (by omega))
    rw [hms] at S3
    generalize sumL l = q at *
    unfold RPost at S1 S2 S3
    rw [enc_open] at S1 S2 S3
    have HEQ := fun W => rat_same (negB q) (bs (nm q)) (dstr q) W
    obtain ⟨i0, hi0, hz0, hz1, hz2⟩ := info_parts rat_info
    have hcut := (reads_of h4).cut (k := i) (cap := c) hi hc
    rw [cellsL_drop l hi] at hcut
    have hhead : Reads w4 w.heap.size 3 A i (cellsL (l.take i)) := by
      refine ⟨by rw [cellsL_len, List.length_take]; omega, fun hp => ?_⟩
      obtain ⟨ad, e1, e2, e3⟩ := (reads_of h4).2 (by omega)
      refine ⟨ad, e1, e2, fun j u hj => e3 j u ?_⟩
      rw [← cellsL_take l hi] at hj
      rw [List.getElem?_take] at hj
      split at hj
      · exact hj
      · cases hj
    have HCUT := hide (hcut.more hB4.size)
    have HHEAD := hide (hhead.more hB4.size)
    clear hcut hhead h4
    go_wp2_with fail
    refine Qmt.wp_region (C := Beh w4) (by kernel_rfl) (by kernel_rfl) ?_
    have hw0 := draw_below w4
    generalize { w4 with drawn := w4.drawn + 1 } = w5 at *
    refine Qmt.takes [0, 1, 4, 5] 5 _ _ _ (beh hw0) (by kernel_rfl) ?_
    simp only [List.filterMap_cons, List.filterMap_nil, List.getElem?_toArray, List.getElem?_cons_zero, List.getElem?_cons_succ]
    change wpQuiet _ _ _ _ [_, _, _, _] _
    repeat (go_big_quiet_step (fail))
    refine wpQuiet_nil ?_
    by_cases hci : c = i
    · subst hci
      rw [if_pos rfl, show l.length - c = 0 by omega] at HCUT
      refine Qmt.fork [2, 6] (beh hw0) (by kernel_rfl) (by simp) ⟨?_, ?_, trivial⟩
      · refine Qmt.by_op rfl (by kernel_rfl) ?_
        go_wp2_with fail
        refine ⟨rfl, ?_⟩
        refine Qmt.fork [3, 6] (beh hw0) (by kernel_rfl) (by simp) ⟨?_, ?_, trivial⟩
        · refine Qmt.by_op rfl (by kernel_rfl) ?_
          refine wpList_append_any _ rfl (.const (.slice none 0 0)) (.tmp 18) _ rfl w4.heap.size 24 i0 _ 3 40 Tryz.underlying46 hi0 hz0 hz1 hz2 rfl (by omega) (.slice none 0 0) 0 [] rfl
            ⟨by simp, .inl ⟨rfl, rfl⟩⟩ w4.heap.size _ 0 _ (cellsL (l.drop c)) rfl (HCUT.out.below hw0) (cellsL_one _) (by simp only [maxLen]; omega) (by omega) hw0.size ?_
          intro v1 w6 hown1 hg1 hat1
          have hB6 : Below w4.heap.size w4 w6 := hw0.grown hg1 hw0.size (by simp [Value.ownBlock])
          go_wp2_with fail
          refine ⟨rfl, ?_⟩
          simp only [Act.put, List.getElem_toArray, List.getElem_cons_succ, List.getElem_cons_zero, List.setIfInBounds_toArray, List.set_cons_succ, List.set_cons_zero]
          refine Qmt.fork [6] (beh hB6) (by kernel_rfl) (by simp) ⟨?_, trivial⟩
          refine Qmt.by_op rfl (by kernel_rfl) ?_
          go_wp2_with fail
          refine ⟨rfl, ?_⟩
          refine Qmt.fork [7] (beh hB6) (by kernel_rfl) (by simp) ⟨?_, trivial⟩
          refine Qmt.by_op rfl (by kernel_rfl) ?_
          refine wpList_append_any _ rfl (.tmp 19) (.tmp 22) _ rfl w4.heap.size 24 i0 _ 3 40 Tryz.underlying46 hi0 hz0 hz1 hz2 rfl (by omega) v1 (0 + 0) ([] ++ cellsL (l.drop c)) rfl
            hown1 w4.heap.size A c _ (cellsL (l.take c)) rfl (HHEAD.out.below hB6) (cellsL_one _) (by simp only [maxLen]; omega) (by omega) hB6.size ?_
          intro v2 w7 hown2 hg2 hat2
          have hB7 : Below w4.heap.size w4 w7 := hB6.grown hg2 hB6.size (fun z hz => by
            have h5 := hw0.size
            rcases hat1 with e | e <;> rw [e] at hz <;> simp [Value.ownBlock] at hz
            omega)
          go_wp2_with fail
          refine ⟨rfl, ?_⟩
          simp only [Act.put, List.getElem_toArray, List.getElem_cons_succ, List.getElem_cons_zero, List.setIfInBounds_toArray, List.set_cons_succ, List.set_cons_zero]
          rw [List.nil_append, ← hmc, show 0 + 0 + c = m.length by omega] at hown2
          obtain ⟨A', c', rfl, hm7⟩ := rats_of hown2 (by simp only [maxLen]; omega) hmz
          refine Qmt.takes [8] 0 _ _ _ (beh hB7) (by kernel_rfl) ?_
          simp only [List.filterMap_cons, List.filterMap_nil, List.getElem?_toArray, List.getElem?_cons_zero, List.getElem?_cons_succ]
          change wpQuiet _ _ _ _ [_] _
          repeat (go_big_quiet_step (fail))
          refine wpQuiet_nil ?_
          refine Qmt.by_end (beh hB7) (by kernel_rfl) ?_
          have hB8 := hB4.trans (hB7.mono hB4.size)
          have he8 := hide (he.below hB8)
          have h8 := hide ((H.out.below hB8).more_ hB8.size)
          clear HP HFEW HCUT HHEAD hown1 hown2 hg1 hg2 hat1 hat2 hmc hms hi0 hml hmz hmf
          go_wp2_with fail
          refine (HAW.out _ he8.out).mono ?_
          rintro e w9 ⟨rfl, hb9⟩
          go_wp2_with fail
          refine Calls.mono (S1.out _ ((h8.out.below hb9).more_ hb9.size)) ?_
          rintro e w10 ⟨rfl, hb10⟩
          have hb10' := hb9.trans (hb10.mono hb9.size)
          go_wp2_with fail
          refine (S2.out _ ((h8.out.below hb10').more_ hb10'.size)).mono ?_
          rintro e w11 ⟨rfl, hb11⟩
          have hb11' := hb10'.trans (hb11.mono hb10'.size)
          go_wp2_with fail
          refine (S3.out _ _ _ ((hm7.below hb11').more_ hb11'.size)).mono ?_
          rintro e w12 ⟨rfl, hb12⟩
          have hb12' := hb11'.trans (hb12.mono hb11'.size)
          go_wp2_with fail
          refine (S1.out _ ((h8.out.below hb12').more_ hb12'.size)).mono ?_
          rintro e w13 ⟨rfl, hb13⟩
          have hb13' := hb12'.trans (hb13.mono hb12'.size)
          go_wp2_with fail
          go_ret
          exact ⟨rfl, hB8.trans (hb13'.mono hB8.size)⟩
        · refine Qmt.by_op rfl (by kernel_rfl) ?_
          go_wp2_with fail
          refine ⟨rfl, ?_⟩
          refine Qmt.fork [3] (beh hw0) (by kernel_rfl) (by simp) ⟨?_, trivial⟩
          refine Qmt.by_op rfl (by kernel_rfl) ?_
          refine wpList_append_any _ rfl (.const (.slice none 0 0)) (.tmp 18) _ rfl w4.heap.size 24 i0 _ 3 40 Tryz.underlying46 hi0 hz0 hz1 hz2 rfl (by omega) (.slice none 0 0) 0 [] rfl
            ⟨by simp, .inl ⟨rfl, rfl⟩⟩ w4.heap.size _ 0 _ (cellsL (l.drop c)) rfl (HCUT.out.below hw0) (cellsL_one _) (by simp only [maxLen]; omega) (by omega) hw0.size ?_
          intro v1 w6 hown1 hg1 hat1
          have hB6 : Below w4.heap.size w4 w6 := hw0.grown hg1 hw0.size (by simp [Value.ownBlock])
          go_wp2_with fail
          refine ⟨rfl, ?_⟩
          simp only [Act.put, List.getElem_toArray, List.getElem_cons_succ, List.getElem_cons_zero, List.setIfInBounds_toArray, List.set_cons_succ, List.set_cons_zero]
          refine Qmt.fork [7] (beh hB6) (by kernel_rfl) (by simp) ⟨?_, trivial⟩
          refine Qmt.by_op rfl (by kernel_rfl) ?_
          refine wpList_append_any _ rfl (.tmp 19) (.tmp 22) _ rfl w4.heap.size 24 i0 _ 3 40 Tryz.underlying46 hi0 hz0 hz1 hz2 rfl (by omega) v1 (0 + 0) ([] ++ cellsL (l.drop c)) rfl
            hown1 w4.heap.size A c _ (cellsL (l.take c)) rfl (HHEAD.out.below hB6) (cellsL_one _) (by simp only [maxLen]; omega) (by omega) hB6.size ?_
          intro v2 w7 hown2 hg2 hat2
          have hB7 : Below w4.heap.size w4 w7 := hB6.grown hg2 hB6.size (fun z hz => by
            have h5 := hw0.size
            rcases hat1 with e | e <;> rw [e] at hz <;> simp [Value.ownBlock] at hz
            omega)
          go_wp2_with fail
          refine ⟨rfl, ?_⟩
          simp only [Act.put, List.getElem_toArray, List.getElem_cons_succ, List.getElem_cons_zero, List.setIfInBounds_toArray, List.set_cons_succ, List.set_cons_zero]
          rw [List.nil_append, ← hmc, show 0 + 0 + c = m.length by omega] at hown2
          obtain ⟨A', c', rfl, hm7⟩ := rats_of hown2 (by simp only [maxLen]; omega) hmz
          refine Qmt.takes [8] 0 _ _ _ (beh hB7) (by kernel_rfl) ?_
          simp only [List.filterMap_cons, List.filterMap_nil, List.getElem?_toArray, List.getElem?_cons_zero, List.getElem?_cons_succ]
          change wpQuiet _ _ _ _ [_] _
          repeat (go_big_quiet_step (fail))
          refine wpQuiet_nil ?_
          refine Qmt.by_end (beh hB7) (by kernel_rfl) ?_
          have hB8 := hB4.trans (hB7.mono hB4.size)
          have he8 := hide (he.below hB8)
          have h8 := hide ((H.out.below hB8).more_ hB8.size)
          clear HP HFEW HCUT HHEAD hown1 hown2 hg1 hg2 hat1 hat2 hmc hms hi0 hml hmz hmf
          go_wp2_with fail
          refine (HAW.out _ he8.out).mono ?_
          rintro e w9 ⟨rfl, hb9⟩
          go_wp2_with fail
          refine Calls.mono (S1.out _ ((h8.out.below hb9).more_ hb9.size)) ?_
          rintro e w10 ⟨rfl, hb10⟩
          have hb10' := hb9.trans (hb10.mono hb9.size)
          go_wp2_with fail
          refine (S2.out _ ((h8.out.below hb10').more_ hb10'.size)).mono ?_
          rintro e w11 ⟨rfl, hb11⟩
          have hb11' := hb10'.trans (hb11.mono hb10'.size)
          go_wp2_with fail
          refine (S3.out _ _ _ ((hm7.below hb11').more_ hb11'.size)).mono ?_
          rintro e w12 ⟨rfl, hb12⟩
          have hb12' := hb11'.trans (hb12.mono hb11'.size)
          go_wp2_with fail
          refine (S1.out _ ((h8.out.below hb12').more_ hb12'.size)).mono ?_
          rintro e w13 ⟨rfl, hb13⟩
          have hb13' := hb12'.trans (hb13.mono hb12'.size)
          go_wp2_with fail
          go_ret
          exact ⟨rfl, hB8.trans (hb13'.mono hB8.size)⟩
      · refine Qmt.by_op rfl (by kernel_rfl) ?_
        go_wp2_with fail
        refine ⟨rfl, ?_⟩
        refine Qmt.fork [2] (beh hw0) (by kernel_rfl) (by simp) ⟨?_, trivial⟩
        refine Qmt.by_op rfl (by kernel_rfl) ?_
        go_wp2_with fail
        refine ⟨rfl, ?_⟩
        refine Qmt.fork [3] (beh hw0) (by kernel_rfl) (by simp) ⟨?_, trivial⟩
        refine Qmt.by_op rfl (by kernel_rfl) ?_
        refine wpList_append_any _ rfl (.const (.slice none 0 0)) (.tmp 18) _ rfl w4.heap.size 24 i0 _ 3 40 Tryz.underlying46 hi0 hz0 hz1 hz2 rfl (by omega) (.slice none 0 0) 0 [] rfl
          ⟨by simp, .inl ⟨rfl, rfl⟩⟩ w4.heap.size _ 0 _ (cellsL (l.drop c)) rfl (HCUT.out.below hw0) (cellsL_one _) (by simp only [maxLen]; omega) (by omega) hw0.size ?_
        intro v1 w6 hown1 hg1 hat1
        have hB6 : Below w4.heap.size w4 w6 := hw0.grown hg1 hw0.size (by simp [Value.ownBlock])
        go_wp2_with fail
        refine ⟨rfl, ?_⟩
        simp only [Act.put, List.getElem_toArray, List.getElem_cons_succ, List.getElem_cons_zero, List.setIfInBounds_toArray, List.set_cons_succ, List.set_cons_zero]
        refine Qmt.fork [7] (beh hB6) (by kernel_rfl) (by simp) ⟨?_, trivial⟩
        refine Qmt.by_op rfl (by kernel_rfl) ?_
        refine wpList_append_any _ rfl (.tmp 19) (.tmp 22) _ rfl w4.heap.size 24 i0 _ 3 40 Tryz.underlying46 hi0 hz0 hz1 hz2 rfl (by omega) v1 (0 + 0) ([] ++ cellsL (l.drop c)) rfl
          hown1 w4.heap.size A c _ (cellsL (l.take c)) rfl (HHEAD.out.below hB6) (cellsL_one _) (by simp only [maxLen]; omega) (by omega) hB6.size ?_
        intro v2 w7 hown2 hg2 hat2
        have hB7 : Below w4.heap.size w4 w7 := hB6.grown hg2 hB6.size (fun z hz => by
          have h5 := hw0.size
          rcases hat1 with e | e <;> rw [e] at hz <;> simp [Value.ownBlock] at hz
          omega)
        go_wp2_with fail
        refine ⟨rfl, ?_⟩
        simp only [Act.put, List.getElem_toArray, List.getElem_cons_succ, List.getElem_cons_zero, List.setIfInBounds_toArray, List.set_cons_succ, List.set_cons_zero]
        rw [List.nil_append, ← hmc, show 0 + 0 + c = m.length by omega] at hown2
        obtain ⟨A', c', rfl, hm7⟩ := rats_of hown2 (by simp only [maxLen]; omega) hmz
        refine Qmt.takes [8] 0 _ _ _ (beh hB7) (by kernel_rfl) ?_
        simp only [List.filterMap_cons, List.filterMap_nil, List.getElem?_toArray, List.getElem?_cons_zero, List.getElem?_cons_succ]
        change wpQuiet _ _ _ _ [_] _
        repeat (go_big_quiet_step (fail))
        refine wpQuiet_nil ?_
        refine Qmt.by_end (beh hB7) (by kernel_rfl) ?_
        have hB8 := hB4.trans (hB7.mono hB4.size)
        have he8 := hide (he.below hB8)
        have h8 := hide ((H.out.below hB8).more_ hB8.size)
        clear HP HFEW HCUT HHEAD hown1 hown2 hg1 hg2 hat1 hat2 hmc hms hi0 hml hmz hmf
        go_wp2_with fail
        refine (HAW.out _ he8.out).mono ?_
        rintro e w9 ⟨rfl, hb9⟩
        go_wp2_with fail
        refine Calls.mono (S1.out _ ((h8.out.below hb9).more_ hb9.size)) ?_
        rintro e w10 ⟨rfl, hb10⟩
        have hb10' := hb9.trans (hb10.mono hb9.size)
        go_wp2_with fail
        refine (S2.out _ ((h8.out.below hb10').more_ hb10'.size)).mono ?_
        rintro e w11 ⟨rfl, hb11⟩
        have hb11' := hb10'.trans (hb11.mono hb10'.size)
        go_wp2_with fail
        refine (S3.out _ _ _ ((hm7.below hb11').more_ hb11'.size)).mono ?_
        rintro e w12 ⟨rfl, hb12⟩
        have hb12' := hb11'.trans (hb12.mono hb11'.size)
        go_wp2_with fail
        refine (S1.out _ ((h8.out.below hb12').more_ hb12'.size)).mono ?_
        rintro e w13 ⟨rfl, hb13⟩
        have hb13' := hb12'.trans (hb13.mono hb12'.size)
        go_wp2_with fail
        go_ret
        exact ⟨rfl, hB8.trans (hb13'.mono hB8.size)⟩
    · rw [if_neg hci] at HCUT
      refine Qmt.fork [2, 6] (beh hw0) (by kernel_rfl) (by simp) ⟨?_, ?_, trivial⟩
      · refine Qmt.by_op rfl (by kernel_rfl) ?_
        go_wp2_with fail
        refine ⟨rfl, ?_⟩
        refine Qmt.fork [3, 6] (beh hw0) (by kernel_rfl) (by simp) ⟨?_, ?_, trivial⟩
        · refine Qmt.by_op rfl (by kernel_rfl) ?_
          refine wpList_append_any _ rfl (.const (.slice none 0 0)) (.tmp 18) _ rfl w4.heap.size 24 i0 _ 3 40 Tryz.underlying46 hi0 hz0 hz1 hz2 rfl (by omega) (.slice none 0 0) 0 [] rfl
            ⟨by simp, .inl ⟨rfl, rfl⟩⟩ w4.heap.size _ (l.length - i) _ (cellsL (l.drop i)) rfl (HCUT.out.below hw0) (cellsL_one _) (by simp only [maxLen]; omega) (by omega) hw0.size ?_
          intro v1 w6 hown1 hg1 hat1
          have hB6 : Below w4.heap.size w4 w6 := hw0.grown hg1 hw0.size (by simp [Value.ownBlock])
          go_wp2_with fail
          refine ⟨rfl, ?_⟩
          simp only [Act.put, List.getElem_toArray, List.getElem_cons_succ, List.getElem_cons_zero, List.setIfInBounds_toArray, List.set_cons_succ, List.set_cons_zero]
          refine Qmt.fork [6] (beh hB6) (by kernel_rfl) (by simp) ⟨?_, trivial⟩
          refine Qmt.by_op rfl (by kernel_rfl) ?_
          go_wp2_with fail
          refine ⟨rfl, ?_⟩
          refine Qmt.fork [7] (beh hB6) (by kernel_rfl) (by simp) ⟨?_, trivial⟩
          refine Qmt.by_op rfl (by kernel_rfl) ?_
          refine wpList_append_any _ rfl (.tmp 19) (.tmp 22) _ rfl w4.heap.size 24 i0 _ 3 40 Tryz.underlying46 hi0 hz0 hz1 hz2 rfl (by omega) v1 (0 + (l.length - i)) ([] ++ cellsL (l.drop i)) rfl
            hown1 w4.heap.size A i _ (cellsL (l.take i)) rfl (HHEAD.out.below hB6) (cellsL_one _) (by simp only [maxLen]; omega) (by omega) hB6.size ?_
          intro v2 w7 hown2 hg2 hat2
          have hB7 : Below w4.heap.size w4 w7 := hB6.grown hg2 hB6.size (fun z hz => by
            have h5 := hw0.size
            rcases hat1 with e | e <;> rw [e] at hz <;> simp [Value.ownBlock] at hz
            omega)
          go_wp2_with fail
          refine ⟨rfl, ?_⟩
          simp only [Act.put, List.getElem_toArray, List.getElem_cons_succ, List.getElem_cons_zero, List.setIfInBounds_toArray, List.set_cons_succ, List.set_cons_zero]
          rw [List.nil_append, ← hmc, show 0 + (l.length - i) + i = m.length by omega] at hown2
          obtain ⟨A', c', rfl, hm7⟩ := rats_of hown2 (by simp only [maxLen]; omega) hmz
          refine Qmt.takes [8] 0 _ _ _ (beh hB7) (by kernel_rfl) ?_
          simp only [List.filterMap_cons, List.filterMap_nil, List.getElem?_toArray, List.getElem?_cons_zero, List.getElem?_cons_succ]
          change wpQuiet _ _ _ _ [_] _
          repeat (go_big_quiet_step (fail))
          refine wpQuiet_nil ?_
          refine Qmt.by_end (beh hB7) (by kernel_rfl) ?_
          have hB8 := hB4.trans (hB7.mono hB4.size)
          have he8 := hide (he.below hB8)
          have h8 := hide ((H.out.below hB8).more_ hB8.size)
          clear HP HFEW HCUT HHEAD hown1 hown2 hg1 hg2 hat1 hat2 hmc hms hi0 hml hmz hmf
          go_wp2_with fail
          refine (HAW.out _ he8.out).mono ?_
          rintro e w9 ⟨rfl, hb9⟩
          go_wp2_with fail
          refine Calls.mono (S1.out _ ((h8.out.below hb9).more_ hb9.size)) ?_
          rintro e w10 ⟨rfl, hb10⟩
          have hb10' := hb9.trans (hb10.mono hb9.size)
          go_wp2_with fail
          refine (S2.out _ ((h8.out.below hb10').more_ hb10'.size)).mono ?_
          rintro e w11 ⟨rfl, hb11⟩
          have hb11' := hb10'.trans (hb11.mono hb10'.size)
          go_wp2_with fail
          refine (S3.out _ _ _ ((hm7.below hb11').more_ hb11'.size)).mono ?_
          rintro e w12 ⟨rfl, hb12⟩
          have hb12' := hb11'.trans (hb12.mono hb11'.size)
          go_wp2_with fail
          refine (S1.out _ ((h8.out.below hb12').more_ hb12'.size)).mono ?_
          rintro e w13 ⟨rfl, hb13⟩
          have hb13' := hb12'.trans (hb13.mono hb12'.size)
          go_wp2_with fail
          go_ret
          exact ⟨rfl, hB8.trans (hb13'.mono hB8.size)⟩
        · refine Qmt.by_op rfl (by kernel_rfl) ?_
          go_wp2_with fail
          refine ⟨rfl, ?_⟩
          refine Qmt.fork [3] (beh hw0) (by kernel_rfl) (by simp) ⟨?_, trivial⟩
          refine Qmt.by_op rfl (by kernel_rfl) ?_
          refine wpList_append_any _ rfl (.const (.slice none 0 0)) (.tmp 18) _ rfl w4.heap.size 24 i0 _ 3 40 Tryz.underlying46 hi0 hz0 hz1 hz2 rfl (by omega) (.slice none 0 0) 0 [] rfl
            ⟨by simp, .inl ⟨rfl, rfl⟩⟩ w4.heap.size _ (l.length - i) _ (cellsL (l.drop i)) rfl (HCUT.out.below hw0) (cellsL_one _) (by simp only [maxLen]; omega) (by omega) hw0.size ?_
          intro v1 w6 hown1 hg1 hat1
          have hB6 : Below w4.heap.size w4 w6 := hw0.grown hg1 hw0.size (by simp [Value.ownBlock])
          go_wp2_with fail
          refine ⟨rfl, ?_⟩
          simp only [Act.put, List.getElem_toArray, List.getElem_cons_succ, List.getElem_cons_zero, List.setIfInBounds_toArray, List.set_cons_succ, List.set_cons_zero]
          refine Qmt.fork [7] (beh hB6) (by kernel_rfl) (by simp) ⟨?_, trivial⟩
          refine Qmt.by_op rfl (by kernel_rfl) ?_
          refine wpList_append_any _ rfl (.tmp 19) (.tmp 22) _ rfl w4.heap.size 24 i0 _ 3 40 Tryz.underlying46 hi0 hz0 hz1 hz2 rfl (by omega) v1 (0 + (l.length - i)) ([] ++ cellsL (l.drop i)) rfl
            hown1 w4.heap.size A i _ (cellsL (l.take i)) rfl (HHEAD.out.below hB6) (cellsL_one _) (by simp only [maxLen]; omega) (by omega) hB6.size ?_
          intro v2 w7 hown2 hg2 hat2
          have hB7 : Below w4.heap.size w4 w7 := hB6.grown hg2 hB6.size (fun z hz => by
            have h5 := hw0.size
            rcases hat1 with e | e <;> rw [e] at hz <;> simp [Value.ownBlock] at hz
            omega)
          go_wp2_with fail
          refine ⟨rfl, ?_⟩
          simp only [Act.put, List.getElem_toArray, List.getElem_cons_succ, List.getElem_cons_zero, List.setIfInBounds_toArray, List.set_cons_succ, List.set_cons_zero]
          rw [List.nil_append, ← hmc, show 0 + (l.length - i) + i = m.length by omega] at hown2
          obtain ⟨A', c', rfl, hm7⟩ := rats_of hown2 (by simp only [maxLen]; omega) hmz
          refine Qmt.takes [8] 0 _ _ _ (beh hB7) (by kernel_rfl) ?_
          simp only [List.filterMap_cons, List.filterMap_nil, List.getElem?_toArray, List.getElem?_cons_zero, List.getElem?_cons_succ]
          change wpQuiet _ _ _ _ [_] _
          repeat (go_big_quiet_step (fail))
          refine wpQuiet_nil ?_
          refine Qmt.by_end (beh hB7) (by kernel_rfl) ?_
          have hB8 := hB4.trans (hB7.mono hB4.size)
          have he8 := hide (he.below hB8)
          have h8 := hide ((H.out.below hB8).more_ hB8.size)
          clear HP HFEW HCUT HHEAD hown1 hown2 hg1 hg2 hat1 hat2 hmc hms hi0 hml hmz hmf
          go_wp2_with fail
          refine (HAW.out _ he8.out).mono ?_
          rintro e w9 ⟨rfl, hb9⟩
          go_wp2_with fail
          refine Calls.mono (S1.out _ ((h8.out.below hb9).more_ hb9.size)) ?_
          rintro e w10 ⟨rfl, hb10⟩
          have hb10' := hb9.trans (hb10.mono hb9.size)
          go_wp2_with fail
          refine (S2.out _ ((h8.out.below hb10').more_ hb10'.size)).mono ?_
          rintro e w11 ⟨rfl, hb11⟩
          have hb11' := hb10'.trans (hb11.mono hb10'.size)
          go_wp2_with fail
          refine (S3.out _ _ _ ((hm7.below hb11').more_ hb11'.size)).mono ?_
          rintro e w12 ⟨rfl, hb12⟩
          have hb12' := hb11'.trans (hb12.mono hb11'.size)
          go_wp2_with fail
          refine (S1.out _ ((h8.out.below hb12').more_ hb12'.size)).mono ?_
          rintro e w13 ⟨rfl, hb13⟩
          have hb13' := hb12'.trans (hb13.mono hb12'.size)
          go_wp2_with fail
          go_ret
          exact ⟨rfl, hB8.trans (hb13'.mono hB8.size)⟩
      · refine Qmt.by_op rfl (by kernel_rfl) ?_
        go_wp2_with fail
        refine ⟨rfl, ?_⟩
        refine Qmt.fork [2] (beh hw0) (by kernel_rfl) (by simp) ⟨?_, trivial⟩
        refine Qmt.by_op rfl (by kernel_rfl) ?_
        go_wp2_with fail
        refine ⟨rfl, ?_⟩
        refine Qmt.fork [3] (beh hw0) (by kernel_rfl) (by simp) ⟨?_, trivial⟩
        refine Qmt.by_op rfl (by kernel_rfl) ?_
        refine wpList_append_any _ rfl (.const (.slice none 0 0)) (.tmp 18) _ rfl w4.heap.size 24 i0 _ 3 40 Tryz.underlying46 hi0 hz0 hz1 hz2 rfl (by omega) (.slice none 0 0) 0 [] rfl
          ⟨by simp, .inl ⟨rfl, rfl⟩⟩ w4.heap.size _ (l.length - i) _ (cellsL (l.drop i)) rfl (HCUT.out.below hw0) (cellsL_one _) (by simp only [maxLen]; omega) (by omega) hw0.size ?_
        intro v1 w6 hown1 hg1 hat1
        have hB6 : Below w4.heap.size w4 w6 := hw0.grown hg1 hw0.size (by simp [Value.ownBlock])
        go_wp2_with fail
        refine ⟨rfl, ?_⟩
        simp only [Act.put, List.getElem_toArray, List.getElem_cons_succ, List.getElem_cons_zero, List.setIfInBounds_toArray, List.set_cons_succ, List.set_cons_zero]
        refine Qmt.fork [7] (beh hB6) (by kernel_rfl) (by simp) ⟨?_, trivial⟩
        refine Qmt.by_op rfl (by kernel_rfl) ?_
        refine wpList_append_any _ rfl (.tmp 19) (.tmp 22) _ rfl w4.heap.size 24 i0 _ 3 40 Tryz.underlying46 hi0 hz0 hz1 hz2 rfl (by omega) v1 (0 + (l.length - i)) ([] ++ cellsL (l.drop i)) rfl
          hown1 w4.heap.size A i _ (cellsL (l.take i)) rfl (HHEAD.out.below hB6) (cellsL_one _) (by simp only [maxLen]; omega) (by omega) hB6.size ?_
        intro v2 w7 hown2 hg2 hat2
        have hB7 : Below w4.heap.size w4 w7 := hB6.grown hg2 hB6.size (fun z hz => by
          have h5 := hw0.size
          rcases hat1 with e | e <;> rw [e] at hz <;> simp [Value.ownBlock] at hz
          omega)
        go_wp2_with fail
        refine ⟨rfl, ?_⟩
        simp only [Act.put, List.getElem_toArray, List.getElem_cons_succ, List.getElem_cons_zero, List.setIfInBounds_toArray, List.set_cons_succ, List.set_cons_zero]
        rw [List.nil_append, ← hmc, show 0 + (l.length - i) + i = m.length by omega] at hown2
        obtain ⟨A', c', rfl, hm7⟩ := rats_of hown2 (by simp only [maxLen]; omega) hmz
        refine Qmt.takes [8] 0 _ _ _ (beh hB7) (by kernel_rfl) ?_
        simp only [List.filterMap_cons, List.filterMap_nil, List.getElem?_toArray, List.getElem?_cons_zero, List.getElem?_cons_succ]
        change wpQuiet _ _ _ _ [_] _
        repeat (go_big_quiet_step (fail))
        refine wpQuiet_nil ?_
        refine Qmt.by_end (beh hB7) (by kernel_rfl) ?_
        have hB8 := hB4.trans (hB7.mono hB4.size)
        have he8 := hide (he.below hB8)
        have h8 := hide ((H.out.below hB8).more_ hB8.size)
        clear HP HFEW HCUT HHEAD hown1 hown2 hg1 hg2 hat1 hat2 hmc hms hi0 hml hmz hmf
        go_wp2_with fail
        refine (HAW.out _ he8.out).mono ?_
        rintro e w9 ⟨rfl, hb9⟩
        go_wp2_with fail
        refine Calls.mono (S1.out _ ((h8.out.below hb9).more_ hb9.size)) ?_
        rintro e w10 ⟨rfl, hb10⟩
        have hb10' := hb9.trans (hb10.mono hb9.size)
        go_wp2_with fail
        refine (S2.out _ ((h8.out.below hb10').more_ hb10'.size)).mono ?_
        rintro e w11 ⟨rfl, hb11⟩
        have hb11' := hb10'.trans (hb11.mono hb10'.size)
        go_wp2_with fail
        refine (S3.out _ _ _ ((hm7.below hb11').more_ hb11'.size)).mono ?_
        rintro e w12 ⟨rfl, hb12⟩
        have hb12' := hb11'.trans (hb12.mono hb11'.size)
        go_wp2_with fail
        refine (S1.out _ ((h8.out.below hb12').more_ hb12'.size)).mono ?_
        rintro e w13 ⟨rfl, hb13⟩
        have hb13' := hb12'.trans (hb13.mono hb12'.size)
        go_wp2_with fail
        go_ret
        exact ⟨rfl, hB8.trans (hb13'.mono hB8.size)⟩
end Go.Proofs.YthppojbabkljpaaGreatDoor.RsLaw13
