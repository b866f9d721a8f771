/- The walk of the reference's clause. -/
import Derived.Test.YtnbdckfnohagbaaGreatDoorPqJ
import Derived.Test.YtnbdckfnohagbaaGreatDoorRT
namespace Go.Proofs.YtnbdckfnohagbaaGreatDoor.PqK
theorem here : True := trivial
open Go.RowKit Lx Wd RnW PqA PqB PqC PqD PqE PqF PqI PqJ RoL RnQ RnR RnP RtA RpC RpF
theorem resv_four {t : ByteArray} (h : resv t = false) : (t.toList == [99, 108, 97, 115, 115]) = false ∧ (t.toList == [108, 105, 109, 105, 116]) = false ∧ (t.toList == [115, 117, 98, 111, 114, 100, 105, 110, 97, 116, 101]) = false := by
  unfold resv at h
  simp only [Bool.or_eq_false_iff] at h
  exact ⟨h.1, h.2.2.1, h.2.2.2⟩
theorem resv_rest {t : ByteArray} (h : resv t = true) (h1 : (t.toList == [99, 108, 97, 115, 115]) = false) (h2 : (t.toList == [108, 105, 109, 105, 116]) = false) (h3 : (t.toList == [115, 117, 98, 111, 114, 100, 105, 110, 97, 116, 101]) = false) : (t.toList == [98, 101, 102, 111, 114, 101]) = true := by
  unfold resv at h
  rw [h1, h2, h3] at h
  simpa using h
/-- what the reference's clause answers -/
def rclauseP (ts : List Tok) (n : Nat) : Cl × St :=
  if knownB (tk ts n) then body ts (tk ts n) (.ok (n + 1)) else (⟨0, sNo, sNo, [], false, sNo, sNo, (tk ts n).off⟩, .bad 10 (tk ts n).off)
/-- what the reference's clause leaves -/
def ClR (p : Cl × St) (ts : List Tok) (R : Nat) (A : Option Addr) (c : Nat) (w : World) (e : Ending) (w' : World) : Prop :=
  ∃ A' c', e = .returned (.agg #[.int .i64 p.1.kind, .string p.1.name, .string p.1.other, .slice A' p.1.list.length c', .bool p.1.neg, .string p.1.num, .string p.1.den, .int .i64 p.1.off]) ∧ Strs (w.heap.size ≤ ·) w' A' c' p.1.list ∧ Rf w' R A c ts p.2 ∧ Kept R w w'
def RMid (p : Cl × St) (ts : List Tok) (R : Nat) (A : Option Addr) (c : Nat) (w : World) (K : Nat) (wx : World) : Prop :=
  ∃ A' c', Blk wx K [.int .i64 p.1.kind, .string p.1.name, .string p.1.other, .slice A' p.1.list.length c', .bool p.1.neg, .string p.1.num, .string p.1.den, .int .i64 p.1.off] ∧ Strs (K < ·) wx A' c' p.1.list ∧ Rf wx R A c ts p.2 ∧ Kept R w wx
set_option maxHeartbeats 16000000 in
set_option maxRecDepth 100000 in
theorem rclause_any (ts : List Tok) (hts : Toks ts) (n : Nat) (R : Nat) (A : Option Addr) (c : Nat) (w : World) (h : Rf w R A c ts (.ok n)) (hk5 : (tk ts n).kind ≠ 5) (hl : ts.length ≤ 100000) (he : Env w) (h0 : 0 < R) :
    Calls Tryz.prog 25 #[.pointer (some ⟨R, 0, none⟩)] w (ClR (rclauseP ts n) ts R A c w) := by
  have HTK := Lib.hid (fun s kind hk text w h => rtake_any ts hts s kind hk text R A c w h hl)
  have HF := Lib.hid (fun s e he w h => rfail_any ts s e R A c w h he)
  have HCL := Lib.hid (fun s K w a0 a2 a4 a5 a6 a7 n0 h hb hRK => rclass_any ts hts s R K A c w a0 a2 a4 a5 a6 a7 n0 h hb hRK hl)
  have hRw := h.lt
  have hnl := h.next.2.2
  have hn1 := hide (hts.more hnl hk5)
  have HNM := Lib.hid (hts.name _ (Toks.tk_mem hnl))
  have HWD := Lib.hid (hts.word _ (Toks.tk_mem hnl))
  have H := hide h
  have HE := hide he
  obtain ⟨V0, hV0, HJ, HBE, hs0⟩ := new8 w (.int .i64 0) (.string ⟨#[]⟩) (.string ⟨#[]⟩) (.slice none 0 0) (.bool false) (.string ⟨#[]⟩) (.string ⟨#[]⟩) (.int .i64 0) 45
  have HR := hide (H.out.below HBE.out)
  have HK := hide ((Kept.refl R w).step HBE.out)
  have HE0 := hide (HE.out.below HBE.out)
  have hs1 : w.heap.size < V0.heap.size := by omega
  clear h hk5 he H HE HBE hs0
  go_enter Tryz.func25, Tryz.ntmps25
  obtain ⟨b, off, hA, hb, hRw, c0, c1, hn, t0, t1, t2, _⟩ := HR.out.text
  have k0 := at_kin hRw c0
  have k1 := at_kin hRw c1
  have l0 := at_kin hb t0
  have l1 := at_kin hb t1
  have l2 := at_kin hb t2
  have hBW : Hid (Below V0.heap.size V0 ((World.alloc { V0 with drawn := V0.drawn + 1 } (.cells #[.int .i64 (tk ts n).kind, .string (tk ts n).text, .int .i64 ((tk ts n).off : Int)] 66)))) := (Qin.start _ V0).alloc (Nat.le_refl _) _
  have hXW : Hid (Blk (World.alloc { V0 with drawn := V0.drawn + 1 } (.cells #[.int .i64 (tk ts n).kind, .string (tk ts n).text, .int .i64 ((tk ts n).off : Int)] 66)) V0.heap.size [.int .i64 (tk ts n).kind, .string (tk ts n).text, .int .i64 ((tk ts n).off : Int)]) := Blk.new { V0 with drawn := V0.drawn + 1 } [.int .i64 (tk ts n).kind, .string (tk ts n).text, .int .i64 ((tk ts n).off : Int)] _
  have hRlt := hRw
  clear hRw
  subst hA
  clear c0 c1 t0 t1 t2 hb
  go_upto_region 1 with fail
  go_cut [3] (fun v wx => ∃ L, Hid (L = V0.heap.size) ∧ v = .pointer (some ⟨L, 0, none⟩) ∧ Hid (Blk wx L [.int .i64 (tk ts n).kind, .string (tk ts n).text, .int .i64 ((tk ts n).off : Int)]) ∧ Hid (Below V0.heap.size V0 wx))
  case first =>
    go_wp2_with fail
    refine Qmt.wp_region (C := Cls (Below V0.heap.size V0)) (by kernel_rfl) (by kernel_rfl) ?_
    simp only [List.length_cons, List.length_nil]
    refine Qmt.takes [0, 1, 2, 3, 4, 5, 6, 7, 8, 9] 2 _ _ _ (cls (Qin.start _ V0)) (by kernel_rfl) ?_
    simp only [List.filterMap_cons, List.filterMap_nil, List.getElem?_toArray, List.getElem?_cons_zero, List.getElem?_cons_succ]
    change wpQuiet _ _ _ _ [_, _, _, _, _, _, _, _, _, _] _
    repeat (go_big_quiet_step (fail))
    refine wpQuiet_nil ?_
    refine Qmt.fork [10] (cls (Qin.start _ V0)) (by kernel_rfl) (by simp) ⟨?_, trivial⟩
    refine Qmt.by_op rfl (by kernel_rfl) ?_
    go_wp2_with fail
    refine ⟨rfl, ?_⟩
    refine Qmt.fork [11] (cls ((Qin.start _ V0).alloc (Nat.le_refl _) _)) (by kernel_rfl) (by simp) ⟨?_, trivial⟩
    refine Qmt.by_op rfl (by kernel_rfl) ?_
    go_wp2_with fail
    refine ⟨rfl, ?_⟩
    refine Qmt.by_end (cls hBW.out) (by kernel_rfl) ?_
    go_wp2_with fail
    go_meet
    case rel => exact ⟨_, rfl, rfl, hXW, hBW⟩
  case rest =>
    obtain ⟨L, hL, rfl, HX, HBX⟩ := hcut
    have hL' := hL.out
    clear hBW hXW k0 k1 l0 l1 l2 hV0
    have hlx := HX.out.lt
    replace HR := hide (HR.out.below HBX.out)
    replace HJ := hide (HJ.out.below HBX.out)
    replace HK := hide (HK.out.step (HBX.out.mono (by omega)))
    replace HE0 := hide (HE0.out.below HBX.out)
    obtain ⟨t, ht⟩ : ∃ t, tk ts n = t := ⟨_, rfl⟩
    rw [ht] at HX HNM HWD
    have HT := hide ht
    have x0 := HX.out.cell (i := 0) rfl
    have x1 := HX.out.cell (i := 1) rfl
    have x2 := HX.out.cell (i := 2) rfl
    have hJL : w.heap.size < L := by omega
    have hRLt : R < L := by omega
    clear HBX ht hL'
    obtain ⟨wo, rfl⟩ : ∃ wo, wo = wc := ⟨_, rfl⟩
    obtain ⟨V5, hV5, HB, HBV, hs5⟩ := new8 wo (.int .i64 0) (.string ⟨#[]⟩) (.string ⟨#[]⟩) (.slice none 0 0) (.bool false) (.string ⟨#[]⟩) (.string ⟨#[]⟩) (.int .i64 (t.off : Int)) 45
    obtain ⟨K, hKe⟩ : ∃ K, wo.heap.size = K := ⟨_, rfl⟩
    have hLK : L < K := by omega
    have hKR : R ≠ K := by omega
    rw [hKe] at HB
    replace HR := hide (HR.out.below HBV.out)
    replace HX := hide (HX.out.below HBV.out)
    replace HJ := hide (HJ.out.below HBV.out)
    replace HK := hide (HK.out.trans (Kept.of_below HBV.out))
    replace HE0 := hide (HE0.out.below HBV.out)
    have HV5 := hide hV5
    clear HBV hs5 hV5
    obtain ⟨⟨b', s'⟩, hbd⟩ : ∃ p, rclauseP ts n = p := ⟨_, rfl⟩
    have HBD := hide hbd
    clear hbd
    go_upto_block 0 with fail
    rw [HV5.out]
    clear x0 x1 x2 hKe HV5
    have x0 := HX.out.cell (i := 0) rfl
    have x1 := HX.out.cell (i := 1) rfl
    go_cut [] (fun wx => Hid (RMid (b', s') ts R (some ⟨b, off, none⟩) c w K wx) ∧ Hid (Blk wx w.heap.size [.int .i64 0, .string ⟨#[]⟩, .string ⟨#[]⟩, .slice none 0 0, .bool false, .string ⟨#[]⟩, .string ⟨#[]⟩, .int .i64 0]))
    case first =>
      cases k1 : (t.kind == 1)
      · cases k3 : (t.kind == 3)
        · have hkn : knownB t = false := by unfold knownB; rw [k1, k3]; rfl
          have hbd := HBD.out
          unfold rclauseP at hbd
          rw [HT.out, if_neg (by rw [hkn]; exact Bool.false_ne_true)] at hbd
          injection hbd with h1 h2
          subst h1; subst h2
          have HF1 := Lib.hid (fun w h => HF.out (.ok n) 10 (by decide) w h)
          clear hkn
          go_wp2_with fail
          refine (HF1.out _ HR.out).mono ?_
          rintro e w6 ⟨rfl, hr6, hk6⟩
          change Rf w6 R _ c ts (.bad 10 (tk ts n).off) at hr6
          rw [HT.out] at hr6
          replace HB := hide (HB.out.kept hk6 hKR.symm)
          replace HJ := hide (HJ.out.kept hk6 (by omega))
          replace HR := hide hr6
          replace HK := hide (HK.out.trans hk6)
          go_wp2_with fail
          go_meet
          case rel => exact ⟨⟨none, 0, HB.out, Strs.nil _ _ _, HR.out, HK.out⟩, HJ.out⟩
        · have hrv := HWD.out (by simpa using k3)
          cases q1 : (t.text.toList == [99, 108, 97, 115, 115])
          · cases q2 : (t.text.toList == [108, 105, 109, 105, 116])
            · cases q3 : (t.text.toList == [115, 117, 98, 111, 114, 100, 105, 110, 97, 116, 101])
              · have hkn : knownB t = false := by unfold knownB; rw [k1, k3, before_tl, resv_rest hrv q1 q2 q3]; rfl
                clear hrv
                have hbd := HBD.out
                unfold rclauseP at hbd
                rw [HT.out, if_neg (by rw [hkn]; exact Bool.false_ne_true)] at hbd
                injection hbd with h1 h2
                subst h1; subst h2
                have HF1 := Lib.hid (fun w h => HF.out (.ok n) 10 (by decide) w h)
                clear hkn
                go_wp2_with fail
                refine (HF1.out _ HR.out).mono ?_
                rintro e w6 ⟨rfl, hr6, hk6⟩
                change Rf w6 R _ c ts (.bad 10 (tk ts n).off) at hr6
                rw [HT.out] at hr6
                replace HB := hide (HB.out.kept hk6 hKR.symm)
                replace HJ := hide (HJ.out.kept hk6 (by omega))
                replace HR := hide hr6
                replace HK := hide (HK.out.trans hk6)
                go_wp2_with fail
                go_meet
                case rel => exact ⟨⟨none, 0, HB.out, Strs.nil _ _ _, HR.out, HK.out⟩, HJ.out⟩
              · have hbf : (t.text.toList == [98, 101, 102, 111, 114, 101]) = false := by
                  have := (beq_iff_eq.1 q3)
                  rw [this]; rfl
                clear hrv
                have hkn : knownB t = true := by unfold knownB; rw [k1, k3, before_tl, hbf]; rfl
                have hbd := HBD.out
                unfold rclauseP at hbd
                rw [HT.out, if_pos hkn] at hbd
                clear hkn
                rw [body_sub q1 q2 q3] at hbd
                rcases ht1 : take ts 1 sNo (.ok (n + 1)) with ⟨z1, s1⟩
                rw [ht1] at hbd
                injection hbd with h1 h2
                subst h1; subst h2
                have HT1 := Lib.hid (fun w h => HTK.out (.ok (n + 1)) 1 (by decide) sNo w h)
                rw [ht1] at HT1
                unfold TakeR sNo at HT1
                clear ht1 hbf
                obtain ⟨g1, f1, _⟩ := HR.out.next
                obtain ⟨w5, hw5⟩ : ∃ w5, V5.setCell ⟨R, 1, none⟩ (.int .i64 ((n : Int) + 1)) = w5 := ⟨_, rfl⟩
                have hkw5 := (Kept.refl R V5).setCell 1 (.int .i64 ((n : Int) + 1))
                have hrw5 := HR.out.step hn1.out
                rw [hw5] at hkw5 hrw5
                replace HR := hide hrw5
                replace HB := hide (HB.out.kept hkw5 hKR.symm)
                replace HJ := hide (HJ.out.kept hkw5 (by omega))
                replace HK := hide (HK.out.trans hkw5)
                replace HE0 := hide (HE0.out.kept hkw5 h0)
                clear hkw5 hrw5
                obtain ⟨w6, hw6⟩ : ∃ w6, w5.setCell ⟨K, 0, none⟩ (.int .i64 4) = w6 := ⟨_, rfl⟩
                have hsw6 := (Kept.refl K w5).setCell 0 (.int .i64 4)
                have hbw6 := HB.out.set 0 (.int .i64 4)
                have hgw6 := HB.out.cell (i := 0) rfl
                have hfw6 := HB.out.frozen 0
                have hklw6 := HB.out.lt
                rw [hw6] at hsw6 hbw6
                replace HR := hide (HR.out.low (hsw6.below (by omega) (by omega)))
                replace HB := hide hbw6
                replace HJ := hide (HJ.out.kept hsw6 (by omega))
                replace HK := hide (Kept.out HK.out hsw6 (by omega))
                replace HE0 := hide (HE0.out.kept hsw6 (by omega))
                clear hsw6 hbw6 hklw6
                go_wp2_with fail
                refine (HT1.out _ HR.out).mono ?_
                rintro e w7 ⟨rfl, hrw7, hkw7⟩
                replace HB := hide (HB.out.kept hkw7 hKR.symm)
                replace HJ := hide (HJ.out.kept hkw7 (by omega))
                replace HR := hide hrw7
                replace HK := hide (HK.out.trans hkw7)
                replace HE0 := hide (HE0.out.kept hkw7 h0)
                clear hrw7 hkw7
                obtain ⟨w8, hw8⟩ : ∃ w8, w7.setCell ⟨K, 1, none⟩ (.string z1) = w8 := ⟨_, rfl⟩
                have hsw8 := (Kept.refl K w7).setCell 1 (.string z1)
                have hbw8 := HB.out.set 1 (.string z1)
                have hgw8 := HB.out.cell (i := 1) rfl
                have hfw8 := HB.out.frozen 1
                have hklw8 := HB.out.lt
                rw [hw8] at hsw8 hbw8
                replace HR := hide (HR.out.low (hsw8.below (by omega) (by omega)))
                replace HB := hide hbw8
                replace HJ := hide (HJ.out.kept hsw8 (by omega))
                replace HK := hide (Kept.out HK.out hsw8 (by omega))
                replace HE0 := hide (HE0.out.kept hsw8 (by omega))
                clear hsw8 hbw8 hklw8
                go_wp2_with fail
                go_meet
                case rel => exact ⟨⟨none, 0, HB.out, Strs.nil _ _ _, HR.out, HK.out⟩, HJ.out⟩
            · have hbf : (t.text.toList == [98, 101, 102, 111, 114, 101]) = false := by
                have := (beq_iff_eq.1 q2)
                rw [this]; rfl
              clear hrv
              have hkn : knownB t = true := by unfold knownB; rw [k1, k3, before_tl, hbf]; rfl
              have hbd := HBD.out
              unfold rclauseP at hbd
              rw [HT.out, if_pos hkn] at hbd
              clear hkn
              rw [body_limit q1 q2] at hbd
              unfold limitP at hbd
              rcases ht1 : take ts 1 sNo (.ok (n + 1)) with ⟨z1, s1⟩
              simp only [ht1] at hbd
              have HT1 := Lib.hid (fun w h => HTK.out (.ok (n + 1)) 1 (by decide) sNo w h)
              rw [ht1] at HT1
              unfold TakeR sNo at HT1
              clear ht1 hbf
              obtain ⟨g1, f1, _⟩ := HR.out.next
              obtain ⟨w5, hw5⟩ : ∃ w5, V5.setCell ⟨R, 1, none⟩ (.int .i64 ((n : Int) + 1)) = w5 := ⟨_, rfl⟩
              have hkw5 := (Kept.refl R V5).setCell 1 (.int .i64 ((n : Int) + 1))
              have hrw5 := HR.out.step hn1.out
              rw [hw5] at hkw5 hrw5
              replace HR := hide hrw5
              replace HB := hide (HB.out.kept hkw5 hKR.symm)
              replace HJ := hide (HJ.out.kept hkw5 (by omega))
              replace HK := hide (HK.out.trans hkw5)
              replace HE0 := hide (HE0.out.kept hkw5 h0)
              clear hkw5 hrw5
              obtain ⟨w6, hw6⟩ : ∃ w6, w5.setCell ⟨K, 0, none⟩ (.int .i64 3) = w6 := ⟨_, rfl⟩
              have hsw6 := (Kept.refl K w5).setCell 0 (.int .i64 3)
              have hbw6 := HB.out.set 0 (.int .i64 3)
              have hgw6 := HB.out.cell (i := 0) rfl
              have hfw6 := HB.out.frozen 0
              have hklw6 := HB.out.lt
              rw [hw6] at hsw6 hbw6
              replace HR := hide (HR.out.low (hsw6.below (by omega) (by omega)))
              replace HB := hide hbw6
              replace HJ := hide (HJ.out.kept hsw6 (by omega))
              replace HK := hide (Kept.out HK.out hsw6 (by omega))
              replace HE0 := hide (HE0.out.kept hsw6 (by omega))
              clear hsw6 hbw6 hklw6
              go_wp2_with fail
              refine (HT1.out _ HR.out).mono ?_
              rintro e w7 ⟨rfl, hrw7, hkw7⟩
              replace HB := hide (HB.out.kept hkw7 hKR.symm)
              replace HJ := hide (HJ.out.kept hkw7 (by omega))
              replace HR := hide hrw7
              replace HK := hide (HK.out.trans hkw7)
              replace HE0 := hide (HE0.out.kept hkw7 h0)
              clear hrw7 hkw7
              obtain ⟨w8, hw8⟩ : ∃ w8, w7.setCell ⟨K, 1, none⟩ (.string z1) = w8 := ⟨_, rfl⟩
              have hsw8 := (Kept.refl K w7).setCell 1 (.string z1)
              have hbw8 := HB.out.set 1 (.string z1)
              have hgw8 := HB.out.cell (i := 1) rfl
              have hfw8 := HB.out.frozen 1
              have hklw8 := HB.out.lt
              rw [hw8] at hsw8 hbw8
              replace HR := hide (HR.out.low (hsw8.below (by omega) (by omega)))
              replace HB := hide hbw8
              replace HJ := hide (HJ.out.kept hsw8 (by omega))
              replace HK := hide (Kept.out HK.out hsw8 (by omega))
              replace HE0 := hide (HE0.out.kept hsw8 (by omega))
              clear hsw8 hbw8 hklw8
              cases hi : isB ts 2 ⟨#[]⟩ s1
              · rw [limit_no hi] at hbd
                injection hbd with h1 h2
                subst h1; subst h2
                have HT2 := Lib.hid (fun w h => HTK.out s1 2 (by decide) ⟨#[]⟩ w h)
                rw [take_no hi] at HT2
                unfold TakeR at HT2
                have key : ∃ (m e a : Nat), Blk w8 R [.slice (some ⟨b, off, none⟩) ts.length c, .int .i64 (m : Int), .int .i64 (a : Int), .int .i64 (e : Int)] ∧ (((e : Int) == 0) = false ∨ (((e : Int) == 0) = true ∧ ((tk ts m).kind == 2) = false ∧ m < ts.length ∧ w8.cell? ⟨b, off + m * 3, none⟩ = some (.int .i64 (tk ts m).kind))) := by
                  obtain ⟨m, e, a, hS, hBl, hTA⟩ := HR.out
                  refine ⟨m, e, a, hBl, ?_⟩
                  cases s1 with
                  | bad e' a' => exact .inl (by obtain ⟨_, h1, h2, _⟩ := hS; subst h1; simpa using h2)
                  | ok m' =>
                    obtain ⟨hm, h1, h2, h3⟩ := hS
                    subst h1; subst h2; subst h3
                    obtain ⟨b3, off3, hA3, _, _, hc3⟩ := hTA
                    injection hA3 with hA3
                    injection hA3 with e1 e2
                    subst e1; subst e2
                    refine .inr ⟨rfl, ?_, hm, (hc3 m _ (tk_get hm)).1⟩
                    have hi' : hitT (tk ts m) 2 ⟨#[]⟩ = false := hi
                    unfold hitT at hi'
                    rw [tl_mk] at hi'
                    simpa using hi'
                obtain ⟨m, e, a, hBl, hcase⟩ := key
                have c0 := hBl.cell (i := 0) rfl
                have c1 := hBl.cell (i := 1) rfl
                have c3 := hBl.cell (i := 3) rfl
                clear hBl hi
                rcases hcase with he0 | ⟨he0, hkm, hml, hcm⟩
                all_goals
                  go_wp2_with fail
                  go_quiet (fail)
                  go_wp2_with fail
                  replace HR := hide (HR.out.below (below_drewN (Below.refl _ _) nq))
                  replace HB := hide (HB.out.drew nq)
                  replace HJ := hide (HJ.out.drew nq)
                  replace HK := hide (HK.out.drew nq)
                  replace HE0 := hide (show Env (w8.drewN nq) from HE0.out)
                  clear c0 c1 c3
                  refine (HT2.out _ HR.out).mono ?_
                  rintro e w9 ⟨rfl, hr9, hk9⟩
                  replace HB := hide (HB.out.kept hk9 hKR.symm)
                  replace HJ := hide (HJ.out.kept hk9 (by omega))
                  replace HR := hide hr9
                  replace HK := hide (HK.out.trans hk9)
                  clear hr9 hk9
                  go_wp2_with fail
                  go_meet
                  case rel =>
                    have e1 : bs (nm 0) = ⟨#[]⟩ := by rw [show nm 0 = 0 from rfl, bs0]
                    have e2 : negB 0 = false := enc_zero.1
                    refine ⟨⟨none, 0, ?_, Strs.nil _ _ _, HR.out, HK.out⟩, HJ.out⟩
                    dsimp only
                    rw [enc_zero.1, enc_zero.2.1, enc_zero.2.2]
                    exact HB.out
              · obtain ⟨n2, hs1, hh, ht2⟩ := is_ok hi
                subst hs1
                obtain ⟨q, cd, hpq, hcd⟩ := code_of (tk ts n2).text.data.toList
                rw [limit_go hh hpq] at hbd
                injection hbd with h1 h2
                subst h1
                have hkk : ((tk ts n2).kind == 2) = true := by
                  have := hit_kind hh
                  simpa using this
                obtain ⟨b3, off3, hA3, hb3, hRw3, c0, c1, hn3, t0, t1, t2, c3⟩ := HR.out.text
                have hA3' := hA3
                injection hA3 with hA3
                injection hA3 with hA4 hA5
                subst hA4; subst hA5
                clear hA3' t1 t2 hh hi
                go_wp2_with fail
                go_quiet (fail)
                obtain ⟨w9, hw9⟩ : ∃ w9, w8.drewN nq = w9 := ⟨_, rfl⟩
                replace HR := hide (HR.out.below (below_drewN (Below.refl _ _) nq))
                replace HB := hide (HB.out.drew nq)
                replace HJ := hide (HJ.out.drew nq)
                replace HK := hide (HK.out.drew nq)
                rw [hw9] at HR HB HJ HK ⊢
                have hk9 : K < w9.heap.size := HB.out.lt
                clear hw9 c0 c1 c3 t0
                go_wp2_with fail
                obtain ⟨b2, off2, hA, hb, hRw, c0, c1, hn2, t0, t1, t2, _⟩ := HR.out.text
                injection hA with hA
                injection hA with hA4 hA5
                subst hA4; subst hA5
                have k0 := at_kin hRw c0
                have k1 := at_kin hRw c1
                have l1 := at_kin hb t1
                have HP := Lib.hid (fun w' (hb' : Below w9.heap.size w9 w') => RtL.rparse_any (tk ts n2).text w' (by have := hts.size _ (Toks.tk_mem hn2); omega))
                rw [hpq] at HP
                unfold RCPost at HP
                simp only [enc_open] at HP
                clear c0 c1 t0 t1 t2 hpq
                go_upto_region 18 with fail
                go_cut [5, 6] (fun v4 v5 wx => ∃ M, v4 = .pointer (some ⟨M, 0, none⟩) ∧ v5 = .int .i64 (cd : Int) ∧ w9.heap.size ≤ M ∧ Hid (Blk wx M [.bool (negB q), .string (bs (nm q)), .string (dstr q)]) ∧ Hid (Below w9.heap.size w9 wx))
                case first =>
                  go_wp2_with fail
                  refine Qmt.wp_region (C := Cls (Below w9.heap.size w9)) (by kernel_rfl) (by kernel_rfl) ?_
                  simp only [List.length_cons, List.length_nil]
                  refine Qmt.takes [0, 1, 2, 3, 4, 5, 6, 7, 8, 9, 10] 7 _ _ _ (cls (Qin.start _ _)) (by kernel_rfl) ?_
                  simp only [List.filterMap_cons, List.filterMap_nil, List.getElem?_toArray, List.getElem?_cons_zero, List.getElem?_cons_succ]
                  change wpQuiet _ _ _ _ [_, _, _, _, _, _, _, _, _, _, _] _
                  repeat (go_big_quiet_step (fail))
                  refine wpQuiet_nil ?_
                  refine Qmt.fork [11, 15] (cls (Qin.start _ _)) (by kernel_rfl) (by simp) ⟨?_, ?_, trivial⟩
                  · refine Qmt.by_op rfl (by kernel_rfl) ?_
                    go_wp2_with fail
                    refine (HP.out _ (Qin.start _ _)).mono ?_
                    rintro e wB ⟨rfl, hbB⟩
                    have hB := (Qin.start w9.heap.size w9).trans hbB
                    obtain ⟨V, hV, HX, HBV, hsV⟩ := rat_new wB (.bool (negB q)) (.string (bs (nm q))) (.string (dstr q))
                    have hBV := hB.trans (HBV.out.mono hB.size)
                    go_wp2_with fail
                    refine ⟨rfl, ?_⟩
                    refine Qmt.takes [12, 13, 14] 3 _ _ _ (cls hB) (by kernel_rfl) ?_
                    simp only [List.filterMap_cons, List.filterMap_nil, List.getElem?_toArray, List.getElem?_cons_zero, List.getElem?_cons_succ]
                    change wpQuiet _ _ _ _ [_, _, _] _
                    repeat (go_big_quiet_step (fail))
                    refine wpQuiet_nil ?_
                    refine Qmt.fork [15] (cls hB) (by kernel_rfl) (by simp) ⟨?_, trivial⟩
                    refine Qmt.by_op rfl (by kernel_rfl) ?_
                    go_wp2_with fail
                    refine ⟨rfl, ?_⟩
                    refine Qmt.fork [16] (cls ((hB.alloc hB.size _))) (by kernel_rfl) (by simp) ⟨?_, trivial⟩
                    refine Qmt.by_op rfl (by kernel_rfl) ?_
                    go_wp2_with fail
                    refine ⟨rfl, ?_⟩
                    refine Qmt.takes [17] 0 _ _ _ (cls hBV) (by kernel_rfl) ?_
                    simp only [List.filterMap_cons, List.filterMap_nil, List.getElem?_toArray, List.getElem?_cons_zero, List.getElem?_cons_succ]
                    change wpQuiet _ _ _ _ [_] _
                    repeat (go_big_quiet_step (fail))
                    refine wpQuiet_nil ?_
                    refine Qmt.by_end (cls hBV) (by kernel_rfl) ?_
                    go_wp2_with fail
                    go_meet
                    case rel => exact ⟨wB.heap.size, rfl, rfl, hB.size, HX, hBV⟩
                  · refine Qmt.by_op rfl (by kernel_rfl) ?_
                    have hBV := ((Below.refl w9.heap.size w9).alloc (Nat.le_refl _) (.cells #[.bool false, .string ⟨#[]⟩, .string ⟨#[]⟩] 43)).drew
                    have hXV : Blk (w9.alloc (.cells #[.bool false, .string ⟨#[]⟩, .string ⟨#[]⟩] 43)).drew w9.heap.size _ := Blk.new w9 [.bool false, .string ⟨#[]⟩, .string ⟨#[]⟩] 43
                    obtain ⟨V, hV⟩ : ∃ V, (w9.alloc (.cells #[.bool false, .string ⟨#[]⟩, .string ⟨#[]⟩] 43)).drew = V := ⟨_, rfl⟩
                    rw [hV] at hBV hXV
                    go_wp2_with fail
                    refine ⟨rfl, ?_⟩
                    refine Qmt.fork [11] (cls hBV) (by kernel_rfl) (by simp) ⟨?_, trivial⟩
                    refine Qmt.by_op rfl (by kernel_rfl) ?_
                    go_wp2_with fail
                    refine (HP.out _ hBV).mono ?_
                    rintro e wB ⟨rfl, hbB⟩
                    have hB := hBV.trans (hbB.mono hBV.size)
                    have HXB := hide (hXV.below hbB)
                    clear hV
                    go_wp2_with fail
                    refine ⟨rfl, ?_⟩
                    refine Qmt.takes [12, 13, 14] 2 _ _ _ (cls hB) (by kernel_rfl) ?_
                    simp only [List.filterMap_cons, List.filterMap_nil, List.getElem?_toArray, List.getElem?_cons_zero, List.getElem?_cons_succ]
                    change wpQuiet _ _ _ _ [_, _, _] _
                    repeat (go_big_quiet_step (fail))
                    refine wpQuiet_nil ?_
                    refine Qmt.fork [16] (cls hB) (by kernel_rfl) (by simp) ⟨?_, trivial⟩
                    refine Qmt.by_op rfl (by kernel_rfl) ?_
                    have d0 := HXB.out.cell (i := 0) rfl
                    have d1 := HXB.out.cell (i := 1) rfl
                    have d2 := HXB.out.cell (i := 2) rfl
                    have e0 := HXB.out.frozen 0
                    have e1 := HXB.out.frozen 1
                    have e2 := HXB.out.frozen 2
                    go_wp2_with fail
                    refine ⟨rfl, ?_⟩
                    refine Qmt.takes [17] 0 _ _ _ (cls ((((hB.setCell (p := ⟨w9.heap.size, 0, none⟩) (Nat.le_refl _) _).setCell (p := ⟨w9.heap.size, 1, none⟩) (Nat.le_refl _) _).setCell (p := ⟨w9.heap.size, 2, none⟩) (Nat.le_refl _) _))) (by kernel_rfl) ?_
                    simp only [List.filterMap_cons, List.filterMap_nil, List.getElem?_toArray, List.getElem?_cons_zero, List.getElem?_cons_succ]
                    change wpQuiet _ _ _ _ [_] _
                    repeat (go_big_quiet_step (fail))
                    refine wpQuiet_nil ?_
                    refine Qmt.by_end (cls ((((hB.setCell (p := ⟨w9.heap.size, 0, none⟩) (Nat.le_refl _) _).setCell (p := ⟨w9.heap.size, 1, none⟩) (Nat.le_refl _) _).setCell (p := ⟨w9.heap.size, 2, none⟩) (Nat.le_refl _) _))) (by kernel_rfl) ?_
                    go_wp2_with fail
                    go_meet
                    case rel => exact ⟨w9.heap.size, rfl, rfl, Nat.le_refl _, ((HXB.out.set 0 (.bool (negB q))).set 1 (.string (bs (nm q)))).set 2 (.string (dstr q)), ((hB.setCell (p := ⟨w9.heap.size, 0, none⟩) (Nat.le_refl _) _).setCell (p := ⟨w9.heap.size, 1, none⟩) (Nat.le_refl _) _).setCell (p := ⟨w9.heap.size, 2, none⟩) (Nat.le_refl _) _⟩
                case rest =>
                  obtain ⟨M, rfl, rfl, hM, HXX, HBX⟩ := hcut
                  clear k0 k1 l1 HP
                  replace HR := hide (HR.out.below HBX.out)
                  replace HB := hide (HB.out.below HBX.out)
                  replace HJ := hide (HJ.out.below HBX.out)
                  replace HK := hide (HK.out.trans (Kept.of_below HBX.out))
                  have hKM : K < M := by omega
                  clear HBX
                  by_cases hc : cd = 0
                  · rw [if_pos hc] at h2
                    subst h2
                    have hb0 : ((cd : Int) != 0) = false := by simp [hc]
                    have HT2 := Lib.hid (fun w h => HTK.out (.ok n2) 2 (by decide) ⟨#[]⟩ w h)
                    rw [ht2] at HT2
                    unfold TakeR at HT2
                    clear hc
                    obtain ⟨m0, m1, m2⟩ : wc.cell? ⟨M, 0, none⟩ = some (.bool (negB q)) ∧ wc.cell? ⟨M, 1, none⟩ = some (.string (bs (nm q))) ∧ wc.cell? ⟨M, 2, none⟩ = some (.string (dstr q)) := ⟨HXX.out.cell rfl, HXX.out.cell rfl, HXX.out.cell rfl⟩
                    have y4 := HB.out.cell (i := 4) rfl
                    have y5 := HB.out.cell (i := 5) rfl
                    have y6 := HB.out.cell (i := 6) rfl
                    have z4 := HB.out.frozen 4
                    have z5 := HB.out.frozen 5
                    have z6 := HB.out.frozen 6
                    obtain ⟨w11, hw11⟩ : ∃ w11, ((wc.setCell ⟨K, 4, none⟩ (.bool (negB q))).setCell ⟨K, 5, none⟩ (.string (bs (nm q)))).setCell ⟨K, 6, none⟩ (.string (dstr q)) = w11 := ⟨_, rfl⟩
                    have hk11 := (((Kept.refl K wc).setCell 4 (.bool (negB q))).setCell 5 (.string (bs (nm q)))).setCell 6 (.string (dstr q))
                    have hb11 := ((HB.out.set 4 (.bool (negB q))).set 5 (.string (bs (nm q)))).set 6 (.string (dstr q))
                    have hkl := HB.out.lt
                    rw [hw11] at hk11 hb11
                    replace HR := hide (HR.out.low (hk11.below (by omega) (by omega)))
                    replace HB := hide hb11
                    replace HJ := hide (HJ.out.kept hk11 (by omega))
                    replace HK := hide (Kept.out HK.out hk11 (by omega))
                    clear hk11 hb11
                    go_wp2_with fail
                    clear m0 m1 m2 y4 y5 y6 z4 z5 z6 hw11
                    refine (HT2.out _ HR.out).mono ?_
                    rintro e w12 ⟨rfl, hr12, hk12⟩
                    replace HB := hide (HB.out.kept hk12 hKR.symm)
                    replace HJ := hide (HJ.out.kept hk12 (by omega))
                    replace HR := hide hr12
                    replace HK := hide (HK.out.trans hk12)
                    clear hr12 hk12
                    go_wp2_with fail
                    go_meet
                    case rel => exact ⟨⟨none, 0, HB.out, Strs.nil _ _ _, HR.out, HK.out⟩, HJ.out⟩
                  · rw [if_neg hc] at h2
                    subst h2
                    have hb0 : ((cd : Int) != 0) = true := by simpa using hc
                    have HF2 := Lib.hid (fun w h => HF.out (.ok n2) cd hc w h)
                    have HT2 := Lib.hid (fun w h => HTK.out (.bad cd (tk ts n2).off) 2 (by decide) ⟨#[]⟩ w h)
                    simp only [take] at HT2
                    unfold TakeR at HT2
                    clear hc
                    go_wp2_with fail
                    refine (HF2.out _ HR.out).mono ?_
                    rintro e w10 ⟨rfl, hr10, hk10⟩
                    change Rf w10 R _ c ts (.bad cd (tk ts n2).off) at hr10
                    replace HB := hide (HB.out.kept hk10 hKR.symm)
                    replace HJ := hide (HJ.out.kept hk10 (by omega))
                    replace HXX := hide (HXX.out.kept hk10 (by omega))
                    replace HR := hide hr10
                    replace HK := hide (HK.out.trans hk10)
                    clear hr10 hk10
                    obtain ⟨m0, m1, m2⟩ : w10.cell? ⟨M, 0, none⟩ = some (.bool (negB q)) ∧ w10.cell? ⟨M, 1, none⟩ = some (.string (bs (nm q))) ∧ w10.cell? ⟨M, 2, none⟩ = some (.string (dstr q)) := ⟨HXX.out.cell rfl, HXX.out.cell rfl, HXX.out.cell rfl⟩
                    have y4 := HB.out.cell (i := 4) rfl
                    have y5 := HB.out.cell (i := 5) rfl
                    have y6 := HB.out.cell (i := 6) rfl
                    have z4 := HB.out.frozen 4
                    have z5 := HB.out.frozen 5
                    have z6 := HB.out.frozen 6
                    obtain ⟨w11, hw11⟩ : ∃ w11, ((w10.setCell ⟨K, 4, none⟩ (.bool (negB q))).setCell ⟨K, 5, none⟩ (.string (bs (nm q)))).setCell ⟨K, 6, none⟩ (.string (dstr q)) = w11 := ⟨_, rfl⟩
                    have hk11 := (((Kept.refl K w10).setCell 4 (.bool (negB q))).setCell 5 (.string (bs (nm q)))).setCell 6 (.string (dstr q))
                    have hb11 := ((HB.out.set 4 (.bool (negB q))).set 5 (.string (bs (nm q)))).set 6 (.string (dstr q))
                    have hkl := HB.out.lt
                    rw [hw11] at hk11 hb11
                    replace HR := hide (HR.out.low (hk11.below (by omega) (by omega)))
                    replace HB := hide hb11
                    replace HJ := hide (HJ.out.kept hk11 (by omega))
                    replace HK := hide (Kept.out HK.out hk11 (by omega))
                    clear hk11 hb11
                    go_wp2_with fail
                    clear m0 m1 m2 y4 y5 y6 z4 z5 z6 hw11
                    refine (HT2.out _ HR.out).mono ?_
                    rintro e w12 ⟨rfl, hr12, hk12⟩
                    replace HB := hide (HB.out.kept hk12 hKR.symm)
                    replace HJ := hide (HJ.out.kept hk12 (by omega))
                    replace HR := hide hr12
                    replace HK := hide (HK.out.trans hk12)
                    clear hr12 hk12
                    go_wp2_with fail
                    go_meet
                    case rel => exact ⟨⟨none, 0, HB.out, Strs.nil _ _ _, HR.out, HK.out⟩, HJ.out⟩
          · have hbf : (t.text.toList == [98, 101, 102, 111, 114, 101]) = false := by
              have := (beq_iff_eq.1 q1)
              rw [this]; rfl
            clear hrv
            have hkn : knownB t = true := by unfold knownB; rw [k1, k3, before_tl, hbf]; rfl
            have hbd := HBD.out
            unfold rclauseP at hbd
            rw [HT.out, if_pos hkn] at hbd
            clear hkn
            rw [body_class q1] at hbd
            injection hbd with h1 h2
            subst h1; subst h2
            clear hbf
            obtain ⟨g1, f1, _⟩ := HR.out.next
            obtain ⟨w5, hw5⟩ : ∃ w5, V5.setCell ⟨R, 1, none⟩ (.int .i64 ((n : Int) + 1)) = w5 := ⟨_, rfl⟩
            have hkw5 := (Kept.refl R V5).setCell 1 (.int .i64 ((n : Int) + 1))
            have hrw5 := HR.out.step hn1.out
            rw [hw5] at hkw5 hrw5
            replace HR := hide hrw5
            replace HB := hide (HB.out.kept hkw5 hKR.symm)
            replace HJ := hide (HJ.out.kept hkw5 (by omega))
            replace HK := hide (HK.out.trans hkw5)
            replace HE0 := hide (HE0.out.kept hkw5 h0)
            clear hkw5 hrw5
            obtain ⟨w6, hw6⟩ : ∃ w6, w5.setCell ⟨K, 0, none⟩ (.int .i64 1) = w6 := ⟨_, rfl⟩
            have hsw6 := (Kept.refl K w5).setCell 0 (.int .i64 1)
            have hbw6 := HB.out.set 0 (.int .i64 1)
            have hgw6 := HB.out.cell (i := 0) rfl
            have hfw6 := HB.out.frozen 0
            have hklw6 := HB.out.lt
            rw [hw6] at hsw6 hbw6
            replace HR := hide (HR.out.low (hsw6.below (by omega) (by omega)))
            replace HB := hide hbw6
            replace HJ := hide (HJ.out.kept hsw6 (by omega))
            replace HK := hide (Kept.out HK.out hsw6 (by omega))
            replace HE0 := hide (HE0.out.kept hsw6 (by omega))
            clear hsw6 hbw6 hklw6
            go_wp2_with fail
            have hK6 := HB.out.lt
            refine (HCL.out (.ok (n + 1)) K w6 (.int .i64 1) (.string ⟨#[]⟩) (.bool false) (.string ⟨#[]⟩) (.string ⟨#[]⟩) (.int .i64 (t.off : Int)) ⟨#[]⟩ HR.out HB.out (by omega)).mono ?_
            rintro e w7 ⟨A7, c7, rfl, hb7, hS7, hr7, hk7⟩
            replace HJ := hide (HJ.out.two hk7 (by omega) (by omega))
            replace HK := hide (HK.out.two hk7 (by omega))
            replace HR := hide hr7
            replace HB := hide hb7
            clear hr7 hb7 hk7
            go_wp2_with fail
            go_meet
            case rel => exact ⟨⟨A7, c7, HB.out, hS7.mono (fun b hb => by omega), HR.out, HK.out⟩, HJ.out⟩
      · have hrv := HNM.out (by simpa using k1)
        obtain ⟨q1, q2, q3⟩ := resv_four hrv
        have hhit : take ts 1 ⟨#[]⟩ (.ok n) = (t.text, .ok (n + 1)) := by
          have hh : hitT (tk ts n) 1 ⟨#[]⟩ = true := by rw [HT.out]; unfold hitT; rw [k1, tl_mk]; rfl
          simp only [take]; rw [if_pos hh, HT.out]
        clear hrv
        have hkn : knownB t = true := by unfold knownB; rw [k1]; rfl
        have hbd := HBD.out
        unfold rclauseP at hbd
        rw [HT.out, if_pos hkn] at hbd
        clear hkn
        rw [body_before q1 q2 q3] at hbd
        rcases ht1 : take ts 3 sBefore (.ok (n + 1)) with ⟨z1, s1⟩
        rcases ht2 : take ts 1 sNo s1 with ⟨z2, s2⟩
        rw [ht1] at hbd
        simp only [ht2] at hbd
        injection hbd with h1 h2
        subst h1; subst h2
        have HT0 := Lib.hid (fun w h => HTK.out (.ok n) 1 (by decide) ⟨#[]⟩ w h)
        rw [hhit] at HT0
        have HT1 := Lib.hid (fun w h => HTK.out (.ok (n + 1)) 3 (by decide) sBefore w h)
        rw [ht1] at HT1
        have HT2 := Lib.hid (fun w h => HTK.out s1 1 (by decide) sNo w h)
        rw [ht2] at HT2
        unfold TakeR at HT0
        unfold TakeR sNo at HT2
        unfold TakeR sBefore at HT1
        clear ht1 ht2 hhit q1 q2 q3
        obtain ⟨w5, hw5⟩ : ∃ w5, V5.setCell ⟨K, 0, none⟩ (.int .i64 2) = w5 := ⟨_, rfl⟩
        have hsw5 := (Kept.refl K V5).setCell 0 (.int .i64 2)
        have hbw5 := HB.out.set 0 (.int .i64 2)
        have hgw5 := HB.out.cell (i := 0) rfl
        have hfw5 := HB.out.frozen 0
        have hklw5 := HB.out.lt
        rw [hw5] at hsw5 hbw5
        replace HR := hide (HR.out.low (hsw5.below (by omega) (by omega)))
        replace HB := hide hbw5
        replace HJ := hide (HJ.out.kept hsw5 (by omega))
        replace HK := hide (Kept.out HK.out hsw5 (by omega))
        replace HE0 := hide (HE0.out.kept hsw5 (by omega))
        clear hsw5 hbw5 hklw5
        go_wp2_with fail
        refine (HT0.out _ HR.out).mono ?_
        rintro e w6 ⟨rfl, hrw6, hkw6⟩
        replace HB := hide (HB.out.kept hkw6 hKR.symm)
        replace HJ := hide (HJ.out.kept hkw6 (by omega))
        replace HR := hide hrw6
        replace HK := hide (HK.out.trans hkw6)
        replace HE0 := hide (HE0.out.kept hkw6 h0)
        clear hrw6 hkw6
        obtain ⟨w7, hw7⟩ : ∃ w7, w6.setCell ⟨K, 1, none⟩ (.string t.text) = w7 := ⟨_, rfl⟩
        have hsw7 := (Kept.refl K w6).setCell 1 (.string t.text)
        have hbw7 := HB.out.set 1 (.string t.text)
        have hgw7 := HB.out.cell (i := 1) rfl
        have hfw7 := HB.out.frozen 1
        have hklw7 := HB.out.lt
        rw [hw7] at hsw7 hbw7
        replace HR := hide (HR.out.low (hsw7.below (by omega) (by omega)))
        replace HB := hide hbw7
        replace HJ := hide (HJ.out.kept hsw7 (by omega))
        replace HK := hide (Kept.out HK.out hsw7 (by omega))
        replace HE0 := hide (HE0.out.kept hsw7 (by omega))
        clear hsw7 hbw7 hklw7
        go_wp2_with fail
        refine (HT1.out _ HR.out).mono ?_
        rintro e w8 ⟨rfl, hrw8, hkw8⟩
        replace HB := hide (HB.out.kept hkw8 hKR.symm)
        replace HJ := hide (HJ.out.kept hkw8 (by omega))
        replace HR := hide hrw8
        replace HK := hide (HK.out.trans hkw8)
        replace HE0 := hide (HE0.out.kept hkw8 h0)
        clear hrw8 hkw8
        go_wp2_with fail
        refine (HT2.out _ HR.out).mono ?_
        rintro e w9 ⟨rfl, hrw9, hkw9⟩
        replace HB := hide (HB.out.kept hkw9 hKR.symm)
        replace HJ := hide (HJ.out.kept hkw9 (by omega))
        replace HR := hide hrw9
        replace HK := hide (HK.out.trans hkw9)
        replace HE0 := hide (HE0.out.kept hkw9 h0)
        clear hrw9 hkw9
        obtain ⟨w10, hw10⟩ : ∃ w10, w9.setCell ⟨K, 2, none⟩ (.string z2) = w10 := ⟨_, rfl⟩
        have hsw10 := (Kept.refl K w9).setCell 2 (.string z2)
        have hbw10 := HB.out.set 2 (.string z2)
        have hgw10 := HB.out.cell (i := 2) rfl
        have hfw10 := HB.out.frozen 2
        have hklw10 := HB.out.lt
        rw [hw10] at hsw10 hbw10
        replace HR := hide (HR.out.low (hsw10.below (by omega) (by omega)))
        replace HB := hide hbw10
        replace HJ := hide (HJ.out.kept hsw10 (by omega))
        replace HK := hide (Kept.out HK.out hsw10 (by omega))
        replace HE0 := hide (HE0.out.kept hsw10 (by omega))
        clear hsw10 hbw10 hklw10
        go_wp2_with fail
        go_meet
        case rel => exact ⟨⟨none, 0, HB.out, Strs.nil _ _ _, HR.out, HK.out⟩, HJ.out⟩
    case rest =>
      obtain ⟨⟨A8, c8, HB8, hS8, HR8, HK8⟩, HJ8⟩ := hcut
      obtain ⟨y0, y1, y2, y3, y4, y5, y6, y7⟩ := cells8 HB8
      obtain ⟨d0, d1, d2, d3, d4, d5, d6, d7⟩ := cells8 HJ8
      obtain ⟨e0, e1, e2, e3, e4, e5, e6, e7⟩ := frozen8 HJ8
      have HRX := hide HR8
      have HSX := hide hS8
      have HKX := hide HK8
      have HJX := hide HJ8
      clear HB8 HR8 hS8 HK8 HJ8 x0 x1 HR HB HX HJ HK HE0
      go_wp2_with fail
      refine bodyPost_ret (results_cl rfl _ rfl (HJX.out.set8 rfl _ _ _ _ _ _ _ _)) rfl ?_
      have hk8 := kept_set8 (Kept.refl w.heap.size wc) (.int .i64 b'.kind) (.string b'.name) (.string b'.other) (.slice A8 b'.list.length c8) (.bool b'.neg) (.string b'.num) (.string b'.den) (.int .i64 b'.off)
      rw [HBD.out]
      exact ⟨A8, c8, rfl, (HSX.out.kept (by omega) hk8).mono (fun b hb => by omega), HRX.out.low (hk8.below (by omega) (by have := HJX.out.lt; omega)), Kept.out HKX.out hk8 (Nat.le_refl _)⟩
end Go.Proofs.YtnbdckfnohagbaaGreatDoor.PqK
