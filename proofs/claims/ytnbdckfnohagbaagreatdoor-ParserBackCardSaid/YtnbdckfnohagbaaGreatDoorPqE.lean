/- The walks of the program's limit and clause. -/
import Derived.Test.YtnbdckfnohagbaaGreatDoorPqD
namespace Go.Proofs.YtnbdckfnohagbaaGreatDoor.PqE
theorem here : True := trivial
open Go.RowKit Lx Wd RnW PqA PqB PqC PqD RoL RnQ RnR RnP RtA RpC RpF
theorem _root_.Go.Proofs.YtnbdckfnohagbaaGreatDoor.RpF.Env.kept {R : Nat} {w w' : World} (h : Env w) (hk : Kept R w w') (hR : 0 < R) : Env w' := by
  obtain ⟨h1, m, h2⟩ := h
  exact ⟨Nat.le_trans h1 hk.size, m, (hk.cell (p := ⟨0, 0, none⟩) (by show 0 < w.heap.size; omega) (by show 0 ≠ R; omega)).trans h2⟩
theorem rat_new (w : World) (a b c : Value) : ∃ V, w.alloc (.cells #[a, b, c] 43) = V ∧ Hid (Blk V w.heap.size [a, b, c]) ∧ Hid (Below w.heap.size w V) ∧ V.heap.size = w.heap.size + 1 :=
  ⟨_, rfl, Blk.new w [a, b, c] _, (Below.refl _ _).alloc (Nat.le_refl _) _, by simp⟩
set_option maxHeartbeats 8000000 in
set_option maxRecDepth 100000 in
theorem limit_any (ts : List Tok) (hts : Toks ts) (s : St) (R : Nat) (A : Option Addr) (c : Nat) (w : World) (h : Rd w R A c ts s) (hl : ts.length ≤ 100000) (he : Env w) (h0 : 0 < R) :
    Calls Tryz.prog 49 #[.pointer (some ⟨R, 0, none⟩)] w (ClP (⟨3, (limitP ts s).1.1, sNo, [], negB (limitP ts s).1.2, str (encN (limitP ts s).1.2), str (encD (limitP ts s).1.2), 0⟩, (limitP ts s).2) ts R A c w) := by
  have HTK := Lib.hid (fun s kind hk text w h => take_any ts hts s kind hk text R A c w h hl)
  have hRw := h.lt
  rcases h1 : take ts 1 ⟨#[]⟩ s with ⟨nm', s1⟩
  have hc : limitP ts s = ((nm', (limitS ts s1).1), (limitS ts s1).2) := by
    unfold limitP sNo
    simp only [h1]
  rw [hc]
  have HT1 := Lib.hid (fun w h => HTK.out s 1 (by decide) ⟨#[]⟩ w h)
  rw [h1] at HT1
  have H := hide h
  have HE := hide he
  clear h h1 hc he
  unfold TakeP at HT1
  obtain ⟨V0, hV0, HJ, HBE, hs0⟩ := new8 w (.int .i64 0) (.string ⟨#[]⟩) (.string ⟨#[]⟩) (.slice none 0 0) (.bool false) (.string ⟨#[]⟩) (.string ⟨#[]⟩) (.int .i64 0) 45
  have HR := hide (H.out.below HBE.out)
  have HK := hide ((Kept.refl R w).step HBE.out)
  have HIS := Lib.hid (fun w h => is_any ts s1 2 ⟨#[]⟩ R A c w h)
  go_enter Tryz.func49, Tryz.ntmps49
  go_wp2_with fail
  refine (HT1.out _ HR.out).mono ?_
  rintro e w2 ⟨rfl, hr2, hk2⟩
  obtain ⟨V2, hV2, HB, HBV, hs2⟩ := new8 w2 (.int .i64 3) (.string nm') (.string ⟨#[]⟩) (.slice none 0 0) (.bool false) (.string ⟨#[]⟩) (.string ⟨#[]⟩) (.int .i64 0) 45
  replace HJ := hide ((HJ.out.kept hk2 (by omega)).below HBV.out)
  replace HR := hide (hr2.below HBV.out)
  replace HK := hide ((HK.out.trans hk2).step (HBV.out.mono (Nat.le_trans HK.out.size hk2.size)))
  replace HE := hide (HE.out.kept HK.out h0)
  have hJ2 : w.heap.size < w2.heap.size := by have := hk2.size; omega
  have HV2 := hide hV2
  clear hk2 hr2 HBE hs0 HBV hV2 HT1 H
  obtain ⟨K, hKe⟩ : ∃ K, w2.heap.size = K := ⟨_, rfl⟩
  have hs4 : K < V2.heap.size := by omega
  rw [hKe] at HB hJ2
  have hKR : R ≠ K := by omega
  have hwK : w.heap.size ≤ K := by omega
  cases hi : isB ts 2 ⟨#[]⟩ s1
  · rw [hi] at HIS
    have hL := limit_no hi
    have HLI := hide hL
    have HF := Lib.hid (fun w h => fail_any ts s1 10 R A c w h (by decide))
    clear hi hL hV0
    go_wp2_with fail
    rw [HV2.out]
    clear HV2 hs2 hKe
    refine (HIS.out _ HR.out).mono ?_
    rintro e w3 ⟨rfl, hb3⟩
    replace HR := hide (HR.out.below hb3)
    replace HB := hide (HB.out.below hb3)
    replace HJ := hide (HJ.out.below hb3)
    replace HK := hide (HK.out.trans (Kept.of_below hb3))
    clear hb3
    go_wp2_with fail
    refine (HF.out _ HR.out).mono ?_
    rintro e w4 ⟨rfl, hr4, hk4, _⟩
    replace HR := hide hr4
    replace HB := hide (HB.out.kept hk4 hKR.symm)
    replace HJ := hide (HJ.out.kept hk4 (by omega))
    replace HK := hide (HK.out.trans hk4)
    clear hr4 hk4
    obtain ⟨c0, c1, c2, c3, c4, c5, c6, c7⟩ := cells8 HB.out
    obtain ⟨d0, d1, d2, d3, d4, d5, d6, d7⟩ := cells8 HJ.out
    obtain ⟨e0, e1, e2, e3, e4, e5, e6, e7⟩ := frozen8 HJ.out
    go_wp2_with fail
    refine bodyPost_ret (results_cl rfl _ rfl (HJ.out.set8 rfl _ _ _ _ _ _ _ _)) rfl ?_
    have hk8 := kept_set8 (Kept.refl w.heap.size w4) (.int .i64 3) (.string nm') (.string ⟨#[]⟩) (.slice none 0 0) (.bool false) (.string ⟨#[]⟩) (.string ⟨#[]⟩) (.int .i64 0)
    rw [HLI.out]
    exact ⟨none, 0, by rw [enc_zero.1, enc_zero.2.1, enc_zero.2.2]; rfl, Strs.nil _ _ _, HR.out.low (hk8.below (by omega) (by have := HJ.out.lt; omega)), Kept.out HK.out hk8 (Nat.le_refl _)⟩
  · rw [hi] at HIS
    obtain ⟨n, rfl, hh, hx⟩ := is_ok hi
    obtain ⟨q, cd, hpq, hcd⟩ := code_of (tk ts n).text.data.toList
    have hL := limit_go hh hpq
    have HLI := hide hL
    have hk5 : (tk ts n).kind ≠ 5 := by rw [hit_kind hh]; decide
    clear hi hL hV0 hh hx
    go_wp2_with fail
    rw [HV2.out]
    clear HV2 hs2 hKe
    refine (HIS.out _ HR.out).mono ?_
    rintro e w3 ⟨rfl, hb3⟩
    replace HR := hide (HR.out.below hb3)
    replace HB := hide (HB.out.below hb3)
    replace HJ := hide (HJ.out.below hb3)
    replace HE := hide (HE.out.below hb3)
    replace HK := hide (HK.out.trans (Kept.of_below hb3))
    have hs5 : K < w3.heap.size := by have := hb3.size; omega
    clear hb3 hs4
    obtain ⟨b, off, hA, hb, hRw, c0, c1, hn, t0, t1, t2⟩ := HR.out.text
    subst hA
    have k0 := at_kin hRw c0
    have k1 := at_kin hRw c1
    have l1 := at_kin hb t1
    have HP := Lib.hid (fun w' (hb' : Below w3.heap.size w3 w') => parse_any (tk ts n).text w' (by have := hts.size _ (Toks.tk_mem hn); omega) (HE.out.below hb'))
    rw [hpq] at HP
    unfold RCPost at HP
    simp only [enc_open] at HP
    have HN1 := hide (hts.more hn hk5)
    clear c0 c1 t0 t1 t2 hpq hk5
    go_upto_region 5 with fail
    go_cut [4, 5] (fun v4 v5 wx => ∃ M, v4 = .pointer (some ⟨M, 0, none⟩) ∧ v5 = .int .i64 (cd : Int) ∧ w3.heap.size ≤ M ∧ Hid (Blk wx M [.bool (negB q), .string (bs (nm q)), .string (dstr q)]) ∧ Hid (Below w3.heap.size w3 wx))
    case first =>
      go_wp2_with fail
      refine Qmt.wp_region (C := Cls (Below w3.heap.size w3)) (by kernel_rfl) (by kernel_rfl) ?_
      simp only [List.length_cons, List.length_nil]
      refine Qmt.takes [0, 1, 2, 3, 4, 5, 6, 7, 8, 9, 10] 7 _ _ _ (cls (Qin.start _ _)) (by kernel_rfl) ?_
      simp only [List.filterMap_cons, List.filterMap_nil, List.getElem?_toArray, List.getElem?_cons_zero, List.getElem?_cons_succ]
      change wpQuiet _ _ _ _ [_, _, _, _, _, _, _, _, _, _, _] _
      repeat (go_big_quiet_step (fail))
      refine wpQuiet_nil ?_
      refine Qmt.fork [11, 15] (cls (Qin.start _ _)) (by kernel_rfl) (by simp) ⟨?_, ?_, trivial⟩
      · refine Qmt.by_op rfl (by kernel_rfl) ?_
        go_wp2_with fail
        refine (HP.out _ (Qin.start _ _)).mono ?_
        rintro e wB ⟨rfl, hbB⟩
        have hB := (Qin.start w3.heap.size w3).trans hbB
        obtain ⟨V, hV, HX, HBV, hsV⟩ := rat_new wB (.bool (negB q)) (.string (bs (nm q))) (.string (dstr q))
        have hBV := hB.trans (HBV.out.mono hB.size)
        go_wp2_with fail
        refine ⟨rfl, ?_⟩
        refine Qmt.takes [12, 13, 14] 3 _ _ _ (cls hB) (by kernel_rfl) ?_
        simp only [List.filterMap_cons, List.filterMap_nil, List.getElem?_toArray, List.getElem?_cons_zero, List.getElem?_cons_succ]
        change wpQuiet _ _ _ _ [_, _, _] _
        repeat (go_big_quiet_step (fail))
        refine wpQuiet_nil ?_
        refine Qmt.fork [15] (cls hB) (by kernel_rfl) (by simp) ⟨?_, trivial⟩
        refine Qmt.by_op rfl (by kernel_rfl) ?_
        go_wp2_with fail
        refine ⟨rfl, ?_⟩
        refine Qmt.fork [16] (cls ((hB.alloc hB.size _))) (by kernel_rfl) (by simp) ⟨?_, trivial⟩
        refine Qmt.by_op rfl (by kernel_rfl) ?_
        go_wp2_with fail
        refine ⟨rfl, ?_⟩
        refine Qmt.takes [17] 0 _ _ _ (cls hBV) (by kernel_rfl) ?_
        simp only [List.filterMap_cons, List.filterMap_nil, List.getElem?_toArray, List.getElem?_cons_zero, List.getElem?_cons_succ]
        change wpQuiet _ _ _ _ [_] _
        repeat (go_big_quiet_step (fail))
        refine wpQuiet_nil ?_
        refine Qmt.by_end (cls hBV) (by kernel_rfl) ?_
        go_wp2_with fail
        go_meet
        case rel => exact ⟨wB.heap.size, rfl, rfl, hB.size, HX, hBV⟩
      · refine Qmt.by_op rfl (by kernel_rfl) ?_
        have hBV := ((Below.refl w3.heap.size w3).alloc (Nat.le_refl _) (.cells #[.bool false, .string ⟨#[]⟩, .string ⟨#[]⟩] 43)).drew
        have hXV : Blk (w3.alloc (.cells #[.bool false, .string ⟨#[]⟩, .string ⟨#[]⟩] 43)).drew w3.heap.size _ := Blk.new w3 [.bool false, .string ⟨#[]⟩, .string ⟨#[]⟩] 43
        obtain ⟨V, hV⟩ : ∃ V, (w3.alloc (.cells #[.bool false, .string ⟨#[]⟩, .string ⟨#[]⟩] 43)).drew = V := ⟨_, rfl⟩
        rw [hV] at hBV hXV
        go_wp2_with fail
        refine ⟨rfl, ?_⟩
        refine Qmt.fork [11] (cls hBV) (by kernel_rfl) (by simp) ⟨?_, trivial⟩
        refine Qmt.by_op rfl (by kernel_rfl) ?_
        go_wp2_with fail
        refine (HP.out _ hBV).mono ?_
        rintro e wB ⟨rfl, hbB⟩
        have hB := hBV.trans (hbB.mono hBV.size)
        have HXB := hide (hXV.below hbB)
        clear hV
        go_wp2_with fail
        refine ⟨rfl, ?_⟩
        refine Qmt.takes [12, 13, 14] 2 _ _ _ (cls hB) (by kernel_rfl) ?_
        simp only [List.filterMap_cons, List.filterMap_nil, List.getElem?_toArray, List.getElem?_cons_zero, List.getElem?_cons_succ]
        change wpQuiet _ _ _ _ [_, _, _] _
        repeat (go_big_quiet_step (fail))
        refine wpQuiet_nil ?_
        refine Qmt.fork [16] (cls hB) (by kernel_rfl) (by simp) ⟨?_, trivial⟩
        refine Qmt.by_op rfl (by kernel_rfl) ?_
        have d0 := HXB.out.cell (i := 0) rfl
        have d1 := HXB.out.cell (i := 1) rfl
        have d2 := HXB.out.cell (i := 2) rfl
        have e0 := HXB.out.frozen 0
        have e1 := HXB.out.frozen 1
        have e2 := HXB.out.frozen 2
        go_wp2_with fail
        refine ⟨rfl, ?_⟩
        refine Qmt.takes [17] 0 _ _ _ (cls ((((hB.setCell (p := ⟨w3.heap.size, 0, none⟩) (Nat.le_refl _) _).setCell (p := ⟨w3.heap.size, 1, none⟩) (Nat.le_refl _) _).setCell (p := ⟨w3.heap.size, 2, none⟩) (Nat.le_refl _) _))) (by kernel_rfl) ?_
        simp only [List.filterMap_cons, List.filterMap_nil, List.getElem?_toArray, List.getElem?_cons_zero, List.getElem?_cons_succ]
        change wpQuiet _ _ _ _ [_] _
        repeat (go_big_quiet_step (fail))
        refine wpQuiet_nil ?_
        refine Qmt.by_end (cls ((((hB.setCell (p := ⟨w3.heap.size, 0, none⟩) (Nat.le_refl _) _).setCell (p := ⟨w3.heap.size, 1, none⟩) (Nat.le_refl _) _).setCell (p := ⟨w3.heap.size, 2, none⟩) (Nat.le_refl _) _))) (by kernel_rfl) ?_
        go_wp2_with fail
        go_meet
        case rel => exact ⟨w3.heap.size, rfl, rfl, Nat.le_refl _, ((HXB.out.set 0 (.bool (negB q))).set 1 (.string (bs (nm q)))).set 2 (.string (dstr q)), ((hB.setCell (p := ⟨w3.heap.size, 0, none⟩) (Nat.le_refl _) _).setCell (p := ⟨w3.heap.size, 1, none⟩) (Nat.le_refl _) _).setCell (p := ⟨w3.heap.size, 2, none⟩) (Nat.le_refl _) _⟩
    case rest =>
      obtain ⟨M, rfl, rfl, hM, HX, HBX⟩ := hcut
      clear k0 k1 l1 HP HIS
      have hsx := HBX.out.size
      replace HR := hide (HR.out.below HBX.out)
      replace HB := hide (HB.out.below HBX.out)
      replace HJ := hide (HJ.out.below HBX.out)
      replace HK := hide (HK.out.trans (Kept.of_below HBX.out))
      have hMx := HX.out.lt
      clear HBX HE HTK
      by_cases hc : cd = 0
      · have hb0 : ((cd : Int) != 0) = false := by simp [hc]
        have HC := hide hc
        clear hc
        have hn1 := HN1.out
        obtain ⟨g1, f1, _⟩ := HR.out.next
        obtain ⟨w6, hw6⟩ : ∃ w6, wc.setCell ⟨R, 1, none⟩ (.int .i64 ((n : Int) + 1)) = w6 := ⟨_, rfl⟩
        have hk6 := (Kept.refl R wc).setCell 1 (.int .i64 ((n : Int) + 1))
        have hr6 := HR.out.step hn1
        rw [hw6] at hk6 hr6
        replace HR := hide hr6
        replace HX := hide (HX.out.kept hk6 (by omega))
        replace HB := hide (HB.out.kept hk6 hKR.symm)
        replace HJ := hide (HJ.out.kept hk6 (by omega))
        replace HK := hide (HK.out.trans hk6)
        clear hr6 hk6
        obtain ⟨m0, m1, m2⟩ : w6.cell? ⟨M, 0, none⟩ = some (.bool (negB q)) ∧ w6.cell? ⟨M, 1, none⟩ = some (.string (bs (nm q))) ∧ w6.cell? ⟨M, 2, none⟩ = some (.string (dstr q)) := ⟨HX.out.cell rfl, HX.out.cell rfl, HX.out.cell rfl⟩
        obtain ⟨c0, c1, c2, c3, c4, c5, c6, c7⟩ := cells8 HB.out
        obtain ⟨e0, e1, e2, e3, e4, e5, e6, e7⟩ := frozen8 HB.out
        obtain ⟨w7, hw7⟩ : ∃ w7, ((w6.setCell ⟨K, 4, none⟩ (.bool (negB q))).setCell ⟨K, 5, none⟩ (.string (bs (nm q)))).setCell ⟨K, 6, none⟩ (.string (dstr q)) = w7 := ⟨_, rfl⟩
        have hk7 := (((Kept.refl K w6).setCell 4 (.bool (negB q))).setCell 5 (.string (bs (nm q)))).setCell 6 (.string (dstr q))
        have hb7 := ((HB.out.set 4 (.bool (negB q))).set 5 (.string (bs (nm q)))).set 6 (.string (dstr q))
        rw [hw7] at hk7 hb7
        change Blk w7 K [.int .i64 3, .string nm', .string ⟨#[]⟩, .slice none 0 0, .bool (negB q), .string (bs (nm q)), .string (dstr q), .int .i64 0] at hb7
        replace HR := hide (HR.out.low (hk7.below (by omega) (by have := HB.out.lt; omega)))
        replace HB := hide hb7
        replace HJ := hide (HJ.out.kept hk7 (by omega))
        replace HK := hide (Kept.out HK.out hk7 hwK)
        clear hk7 hb7
        obtain ⟨c0, c1, c2, c3, c4, c5, c6, c7⟩ := cells8 HB.out
        obtain ⟨d0, d1, d2, d3, d4, d5, d6, d7⟩ := cells8 HJ.out
        obtain ⟨e0, e1, e2, e3, e4, e5, e6, e7⟩ := frozen8 HJ.out
        go_wp2_with fail
        refine bodyPost_ret (results_cl rfl _ rfl (HJ.out.set8 rfl _ _ _ _ _ _ _ _)) rfl ?_
        have hk8 := kept_set8 (Kept.refl w.heap.size w7) (.int .i64 3) (.string nm') (.string ⟨#[]⟩) (.slice none 0 0) (.bool (negB q)) (.string (bs (nm q))) (.string (dstr q)) (.int .i64 0)
        rw [HLI.out, if_pos HC.out]
        exact ⟨none, 0, rfl, Strs.nil _ _ _, HR.out.low (hk8.below (by omega) (by have := HJ.out.lt; omega)), Kept.out HK.out hk8 (Nat.le_refl _)⟩
      · have hb0 : ((cd : Int) != 0) = true := by simpa using hc
        have HC := hide hc
        have HF := Lib.hid (fun w h => fail_any ts (.ok n) cd R (some ⟨b, off, none⟩) c w h hc)
        clear hc
        have hn1 := HN1.out
        obtain ⟨g1, _, _⟩ := HR.out.next
        have HG := hide g1
        clear g1
        go_wp2_with fail
        refine (HF.out _ HR.out).mono ?_
        rintro e w5 ⟨rfl, hr5, hk5, h51⟩
        have hr5' : Rd w5 R (some ⟨b, off, none⟩) c ts (.bad cd (tk ts n).off) := hr5
        have g1 := h51.trans HG.out
        have f1 := hr5'.free
        replace HX := hide (HX.out.kept hk5 (by omega))
        replace HB := hide (HB.out.kept hk5 hKR.symm)
        replace HJ := hide (HJ.out.kept hk5 (by omega))
        replace HK := hide (HK.out.trans hk5)
        obtain ⟨w6, hw6⟩ : ∃ w6, w5.setCell ⟨R, 1, none⟩ (.int .i64 ((n : Int) + 1)) = w6 := ⟨_, rfl⟩
        have hk6 := (Kept.refl R w5).setCell 1 (.int .i64 ((n : Int) + 1))
        have hr6 := hr5'.bump hn1
        rw [hw6] at hk6 hr6
        replace HR := hide hr6
        replace HX := hide (HX.out.kept hk6 (by omega))
        replace HB := hide (HB.out.kept hk6 hKR.symm)
        replace HJ := hide (HJ.out.kept hk6 (by omega))
        replace HK := hide (HK.out.trans hk6)
        clear hr6 hk6 hr5 hr5' hk5 h51
        obtain ⟨m0, m1, m2⟩ : w6.cell? ⟨M, 0, none⟩ = some (.bool (negB q)) ∧ w6.cell? ⟨M, 1, none⟩ = some (.string (bs (nm q))) ∧ w6.cell? ⟨M, 2, none⟩ = some (.string (dstr q)) := ⟨HX.out.cell rfl, HX.out.cell rfl, HX.out.cell rfl⟩
        obtain ⟨c0, c1, c2, c3, c4, c5, c6, c7⟩ := cells8 HB.out
        obtain ⟨e0, e1, e2, e3, e4, e5, e6, e7⟩ := frozen8 HB.out
        obtain ⟨w7, hw7⟩ : ∃ w7, ((w6.setCell ⟨K, 4, none⟩ (.bool (negB q))).setCell ⟨K, 5, none⟩ (.string (bs (nm q)))).setCell ⟨K, 6, none⟩ (.string (dstr q)) = w7 := ⟨_, rfl⟩
        have hk7 := (((Kept.refl K w6).setCell 4 (.bool (negB q))).setCell 5 (.string (bs (nm q)))).setCell 6 (.string (dstr q))
        have hb7 := ((HB.out.set 4 (.bool (negB q))).set 5 (.string (bs (nm q)))).set 6 (.string (dstr q))
        rw [hw7] at hk7 hb7
        change Blk w7 K [.int .i64 3, .string nm', .string ⟨#[]⟩, .slice none 0 0, .bool (negB q), .string (bs (nm q)), .string (dstr q), .int .i64 0] at hb7
        replace HR := hide (HR.out.low (hk7.below (by omega) (by have := HB.out.lt; omega)))
        replace HB := hide hb7
        replace HJ := hide (HJ.out.kept hk7 (by omega))
        replace HK := hide (Kept.out HK.out hk7 hwK)
        clear hk7 hb7
        obtain ⟨c0, c1, c2, c3, c4, c5, c6, c7⟩ := cells8 HB.out
        obtain ⟨d0, d1, d2, d3, d4, d5, d6, d7⟩ := cells8 HJ.out
        obtain ⟨e0, e1, e2, e3, e4, e5, e6, e7⟩ := frozen8 HJ.out
        go_wp2_with fail
        refine bodyPost_ret (results_cl rfl _ rfl (HJ.out.set8 rfl _ _ _ _ _ _ _ _)) rfl ?_
        have hk8 := kept_set8 (Kept.refl w.heap.size w7) (.int .i64 3) (.string nm') (.string ⟨#[]⟩) (.slice none 0 0) (.bool (negB q)) (.string (bs (nm q))) (.string (dstr q)) (.int .i64 0)
        rw [HLI.out, if_neg HC.out]
        exact ⟨none, 0, rfl, Strs.nil _ _ _, HR.out.low (hk8.below (by omega) (by have := HJ.out.lt; omega)), Kept.out HK.out hk8 (Nat.le_refl _)⟩

end Go.Proofs.YtnbdckfnohagbaaGreatDoor.PqE
