/- The walk of the program's clause. -/
import Derived.Test.YtnbdckfnohagbaaGreatDoorPqE
namespace Go.Proofs.YtnbdckfnohagbaaGreatDoor.PqF
theorem here : True := trivial
open Go.RowKit Lx Wd RnW PqA PqB PqC PqD PqE RoL RnQ RnR RnP RtA RpC RpF
theorem str_bs (q : Rat) : str (encN q) = bs (nm q) := rfl
theorem str_ds (q : Rat) : str (encD q) = dstr q := rfl
/-- what the first part of a clause leaves -/
def Mid (p : Cl × St) (ts : List Tok) (R : Nat) (A : Option Addr) (c : Nat) (w : World) (K : Nat) (wx : World) : Prop :=
  ∃ A' c', Blk wx K [.int .i64 p.1.kind, .string p.1.name, .string p.1.other, .slice A' p.1.list.length c', .bool p.1.neg, .string p.1.num, .string p.1.den, .int .i64 0] ∧ Strs (K < ·) wx A' c' p.1.list ∧ Rd wx R A c ts p.2 ∧ Kept R w wx
set_option maxHeartbeats 8000000 in
set_option maxRecDepth 100000 in
theorem clause_any (ts : List Tok) (hts : Toks ts) (n : Nat) (full : Bool) (R : Nat) (A : Option Addr) (c : Nat) (w : World) (h : Rd w R A c ts (.ok n)) (hk5 : (tk ts n).kind ≠ 5) (hl : ts.length ≤ 100000) (he : Env w) (h0 : 0 < R) :
    Calls Tryz.prog 22 #[.pointer (some ⟨R, 0, none⟩), .bool full] w (ClP (clauseP ts full n) ts R A c w) := by
  have HTK := Lib.hid (fun s kind hk text w h => take_any ts hts s kind hk text R A c w h hl)
  have HF := Lib.hid (fun s e he w h => fail_any ts s e R A c w h he)
  have HCL := Lib.hid (fun s w h => class_any ts hts s R A c w h hl)
  have HLM := Lib.hid (fun s w h he => limit_any ts hts s R A c w h hl he h0)
  have hRw := h.lt
  have hn1 := hide (hts.more h.next.2.2 hk5)
  have H := hide h
  have HE := hide he
  obtain ⟨V0, hV0, HJ, HBE, hs0⟩ := new8 w (.int .i64 0) (.string ⟨#[]⟩) (.string ⟨#[]⟩) (.slice none 0 0) (.bool false) (.string ⟨#[]⟩) (.string ⟨#[]⟩) (.int .i64 0) 45
  have HR := hide (H.out.below HBE.out)
  have HK := hide ((Kept.refl R w).step HBE.out)
  have HE0 := hide (HE.out.below HBE.out)
  have hs1 : w.heap.size < V0.heap.size := by omega
  clear h hk5 he H HE HBE hs0
  go_enter Tryz.func22, Tryz.ntmps22
  obtain ⟨b, off, hA, hb, hRw, c0, c1, hn, t0, t1, t2⟩ := HR.out.text
  have k0 := at_kin hRw c0
  have k1 := at_kin hRw c1
  have l0 := at_kin hb t0
  have l1 := at_kin hb t1
  have l2 := at_kin hb t2
  have hBW : Hid (Below V0.heap.size V0 ((World.alloc { V0 with drawn := V0.drawn + 1 } (.cells #[.int .i64 (tk ts n).kind, .string (tk ts n).text, .int .i64 ((tk ts n).off : Int)] 66)))) := (Qin.start _ V0).alloc (Nat.le_refl _) _
  have hXW : Hid (Blk (World.alloc { V0 with drawn := V0.drawn + 1 } (.cells #[.int .i64 (tk ts n).kind, .string (tk ts n).text, .int .i64 ((tk ts n).off : Int)] 66)) V0.heap.size [.int .i64 (tk ts n).kind, .string (tk ts n).text, .int .i64 ((tk ts n).off : Int)]) := Blk.new { V0 with drawn := V0.drawn + 1 } [.int .i64 (tk ts n).kind, .string (tk ts n).text, .int .i64 ((tk ts n).off : Int)] _
  have hRlt := hRw
  clear hRw
  subst hA
  clear c0 c1 t0 t1 t2 hb
  go_upto_region 1 with fail
  go_cut [5] (fun v wx => ∃ L, Hid (L = V0.heap.size) ∧ v = .pointer (some ⟨L, 0, none⟩) ∧ Hid (Blk wx L [.int .i64 (tk ts n).kind, .string (tk ts n).text, .int .i64 ((tk ts n).off : Int)]) ∧ Hid (Below V0.heap.size V0 wx))
  case first =>
    go_wp2_with fail
    refine Qmt.wp_region (C := Cls (Below V0.heap.size V0)) (by kernel_rfl) (by kernel_rfl) ?_
    simp only [List.length_cons, List.length_nil]
    refine Qmt.takes [0, 1, 2, 3, 4, 5, 6, 7, 8, 9] 2 _ _ _ (cls (Qin.start _ V0)) (by kernel_rfl) ?_
    simp only [List.filterMap_cons, List.filterMap_nil, List.getElem?_toArray, List.getElem?_cons_zero, List.getElem?_cons_succ]
    change wpQuiet _ _ _ _ [_, _, _, _, _, _, _, _, _, _] _
    repeat (go_big_quiet_step (fail))
    refine wpQuiet_nil ?_
    refine Qmt.fork [10] (cls (Qin.start _ V0)) (by kernel_rfl) (by simp) ⟨?_, trivial⟩
    refine Qmt.by_op rfl (by kernel_rfl) ?_
    go_wp2_with fail
    refine ⟨rfl, ?_⟩
    refine Qmt.fork [11] (cls ((Qin.start _ V0).alloc (Nat.le_refl _) _)) (by kernel_rfl) (by simp) ⟨?_, trivial⟩
    refine Qmt.by_op rfl (by kernel_rfl) ?_
    go_wp2_with fail
    refine ⟨rfl, ?_⟩
    refine Qmt.by_end (cls hBW.out) (by kernel_rfl) ?_
    go_wp2_with fail
    go_meet
    case rel => exact ⟨_, rfl, rfl, hXW, hBW⟩
  case rest =>
    obtain ⟨L, hL, rfl, HX, HBX⟩ := hcut
    have hL' := hL.out
    clear hBW hXW k0 k1 l0 l1 l2 hV0
    have hlx := HX.out.lt
    replace HR := hide (HR.out.below HBX.out)
    replace HJ := hide (HJ.out.below HBX.out)
    replace HK := hide (HK.out.step (HBX.out.mono (by omega)))
    replace HE0 := hide (HE0.out.below HBX.out)
    obtain ⟨t, ht⟩ : ∃ t, tk ts n = t := ⟨_, rfl⟩
    rw [ht] at HX
    have HT := hide ht
    have x0 := HX.out.cell (i := 0) rfl
    have x1 := HX.out.cell (i := 1) rfl
    have x2 := HX.out.cell (i := 2) rfl
    have hJL : w.heap.size < L := by omega
    have hRLt : R < L := by omega
    clear HBX ht hL'
    obtain ⟨wo, rfl⟩ : ∃ wo, wo = wc := ⟨_, rfl⟩
    go_upto_region 2 with fail
    go_cut [6] (fun v wx => v = .bool (knownB t) ∧ wo = wx)
    case first =>
      cases h1 : (t.kind == 1)
      · cases h3 : (t.kind == 3)
        · go_wp2_with fail
          go_meet
          case rel => exact ⟨congrArg Value.bool (by unfold knownB; rw [h1, h3]; rfl), rfl⟩
        · cases hbf : (t.text.toList == [98, 101, 102, 111, 114, 101])
          all_goals
            go_wp2_with fail
            go_meet
            case rel => exact ⟨congrArg Value.bool (by unfold knownB; rw [h1, h3, before_tl, hbf]; rfl), rfl⟩
      · go_wp2_with fail
        go_meet
        case rel => exact ⟨congrArg Value.bool (by unfold knownB; rw [h1]; rfl), rfl⟩
    case rest =>
      obtain ⟨rfl, rfl⟩ := hcut
      have HTT := hide HT.out
      cases hkn : knownB t
      · have hcl := clause_none (full := full) HTT.out hkn
        have HCE := hide hcl
        have HF1 := Lib.hid (fun w h => HF.out (.ok n) 10 (by decide) w h)
        clear hcl hkn
        go_wp2_with fail
        refine (HF1.out _ HR.out).mono ?_
        rintro e w4 ⟨rfl, hr4, hk4, _⟩
        change Rd w4 R (some ⟨b, off, none⟩) c ts (.bad _ (tk ts n).off) at hr4
        rw [HTT.out] at hr4
        replace HR := hide hr4
        replace HJ := hide (HJ.out.kept hk4 (by omega))
        replace HK := hide (HK.out.trans hk4)
        clear hr4 hk4 x0 x1 x2
        obtain ⟨d0, d1, d2, d3, d4, d5, d6, d7⟩ := cells8 HJ.out
        obtain ⟨e0, e1, e2, e3, e4, e5, e6, e7⟩ := frozen8 HJ.out
        go_wp2_with fail
        refine bodyPost_ret (results_cl rfl _ rfl (HJ.out.set8 rfl _ _ _ _ _ _ _ _)) rfl ?_
        have hk8 := kept_set8 (Kept.refl w.heap.size w4) (.int .i64 0) (.string ⟨#[]⟩) (.string ⟨#[]⟩) (.slice none 0 0) (.bool false) (.string ⟨#[]⟩) (.string ⟨#[]⟩) (.int .i64 0)
        rw [HCE.out]
        exact ⟨none, 0, rfl, Strs.nil _ _ _, HR.out.low (hk8.below (by omega) (by have := HJ.out.lt; omega)), Kept.out HK.out hk8 (Nat.le_refl _)⟩
      · cases full
        · have hcl := clause_body HTT.out hkn
          obtain ⟨⟨b', s'⟩, hbd⟩ : ∃ p, body ts t (.ok (n + 1)) = p := ⟨_, rfl⟩
          rw [hbd] at hcl
          have HCE := hide hcl
          have hoff : b'.off = (t.off : Int) := by have := body_off ts t (.ok (n + 1)); rw [hbd] at this; exact this
          have HOFF := hide hoff
          have HBD := hide hbd
          clear hcl hkn hoff hbd x0 x1 x2
          obtain ⟨V5, hV5, HB, HBV, hs5⟩ := new8 wo (.int .i64 0) (.string ⟨#[]⟩) (.string ⟨#[]⟩) (.slice none 0 0) (.bool false) (.string ⟨#[]⟩) (.string ⟨#[]⟩) (.int .i64 0) 45
          obtain ⟨K, hKe⟩ : ∃ K, wo.heap.size = K := ⟨_, rfl⟩
          have hLK : L < K := by omega
          have hKR : R ≠ K := by omega
          rw [hKe] at HB
          replace HR := hide (HR.out.below HBV.out)
          replace HX := hide (HX.out.below HBV.out)
          replace HJ := hide (HJ.out.below HBV.out)
          replace HK := hide (HK.out.trans (Kept.of_below HBV.out))
          replace HE0 := hide (HE0.out.below HBV.out)
          obtain ⟨g1, f1, _⟩ := HR.out.next
          obtain ⟨w6, hw6⟩ : ∃ w6, V5.setCell ⟨R, 1, none⟩ (.int .i64 ((n : Int) + 1)) = w6 := ⟨_, rfl⟩
          have hk6 := (Kept.refl R V5).setCell 1 (.int .i64 ((n : Int) + 1))
          have hr6 := HR.out.step hn1.out
          rw [hw6] at hk6 hr6
          replace HR := hide hr6
          replace HX := hide (HX.out.kept hk6 (by omega))
          replace HB := hide (HB.out.kept hk6 hKR.symm)
          replace HJ := hide (HJ.out.kept hk6 (by omega))
          replace HK := hide (HK.out.trans hk6)
          replace HE0 := hide (HE0.out.kept hk6 h0)
          clear hr6 hk6 HBV hs5
          have x1 := HX.out.cell (i := 1) rfl
          have hK6 := HB.out.lt
          go_upto_block 1 with fail
          clear g1 f1 hw6 hKe hV5
          go_cut [] (fun wx => Hid (Mid (b', s') ts R (some ⟨b, off, none⟩) c w K wx) ∧ Hid (Blk wx L [.int .i64 t.kind, .string t.text, .int .i64 (t.off : Int)]) ∧ Hid (Blk wx w.heap.size [.int .i64 0, .string ⟨#[]⟩, .string ⟨#[]⟩, .slice none 0 0, .bool false, .string ⟨#[]⟩, .string ⟨#[]⟩, .int .i64 0]))
          case first =>
            clear x1
            cases q1 : (t.text.toList == [99, 108, 97, 115, 115])
            · cases q2 : (t.text.toList == [108, 105, 109, 105, 116])
              · cases q3 : (t.text.toList == [115, 117, 98, 111, 114, 100, 105, 110, 97, 116, 101])
                · have hbd := HBD.out
                  rw [body_before q1 q2 q3] at hbd
                  rcases ht1 : take ts 3 sBefore (.ok (n + 1)) with ⟨z1, s1⟩
                  rcases ht2 : take ts 1 sNo s1 with ⟨z2, s2⟩
                  rw [ht1] at hbd
                  simp only [ht2] at hbd
                  injection hbd with h1 h2
                  subst h1; subst h2
                  have HT1 := Lib.hid (fun w h => HTK.out (.ok (n + 1)) 3 (by decide) sBefore w h)
                  rw [ht1] at HT1
                  have HT2 := Lib.hid (fun w h => HTK.out s1 1 (by decide) sNo w h)
                  rw [ht2] at HT2
                  unfold TakeP sNo at HT2
                  unfold TakeP sBefore at HT1
                  clear ht1 ht2
                  go_wp2_with fail
                  refine (HT1.out _ HR.out).mono ?_
                  rintro e w7 ⟨rfl, hr7, hk7⟩
                  have HB7 := hide (HB.out.kept hk7 hKR.symm)
                  have HX7 := hide (HX.out.kept hk7 (by omega))
                  have HJ7 := hide (HJ.out.kept hk7 (by omega))
                  have HR7 := hide hr7
                  have HK7 := hide (HK.out.trans hk7)
                  clear hr7 hk7
                  have y1 := HX7.out.cell (i := 1) rfl
                  have ym := kb_kin (R := R) (B := K) (by omega) (by omega) y1
                  go_wp2_with fail
                  refine Qmu.wp_region (C := Cls (Kb R K w7)) 5 (by kernel_rfl) (by kernel_rfl) (by kernel_rfl) ?_
                  simp only [List.length_cons, List.length_nil]
                  refine Qmu.takes (s := 5) (cls (Kb.drawn R K w7)) [0, 1, 2] 3 _ _ _ (fun _ => cls (Kb.drawn R K w7)) (by decide) (by kernel_rfl) ?_
                  simp only [List.filterMap_cons, List.filterMap_nil, List.getElem?_toArray, List.getElem?_cons_zero, List.getElem?_cons_succ]
                  change wpQuiet _ _ _ _ [_, _, _] _
                  repeat (go_big_quiet_step (fail))
                  refine wpQuiet_nil ?_
                  refine Qmu.fork [3] (fun _ => cls (Kb.drawn R K w7)) (by kernel_rfl) (by simp) ⟨?_, trivial⟩
                  refine Qmu.by_op rfl (by kernel_rfl) ?_
                  go_wp2_with fail
                  refine (HT2.out _ (HR7.out.below (Qin.start _ _))).mono ?_
                  rintro e wB ⟨rfl, hr9, hk9⟩
                  have HKB := hide ((Kb.drawn R K w7).kept hk9 (by show K ≤ w7.heap.size; have := HB7.out.lt; omega))
                  have hk9' := (Kept.drawn R w7).trans hk9
                  have HB9 := hide (HB7.out.kept hk9' hKR.symm)
                  have HX9 := hide (HX7.out.kept hk9' (by omega))
                  have HJ9 := hide (HJ7.out.kept hk9' (by omega))
                  have HR9 := hide hr9
                  have HK9 := hide (HK7.out.trans hk9')
                  clear hr9 hk9 hk9' y1 ym
                  obtain ⟨d0, d1, d2, d3, d4, d5, d6, d7⟩ := cells8 HB9.out
                  obtain ⟨e0, e1, e2, e3, e4, e5, e6, e7⟩ := frozen8 HB9.out
                  go_wp2_with fail
                  refine ⟨rfl, ?_⟩
                  refine Qmu.takes (s := 5) (cls (Kb.drawn R K w7)) [4] 1 _ _ _ (fun _ => cls HKB.out) (by decide) (by kernel_rfl) ?_
                  simp only [List.filterMap_cons, List.filterMap_nil, List.getElem?_toArray, List.getElem?_cons_zero, List.getElem?_cons_succ]
                  change wpQuiet _ _ _ _ [_] _
                  repeat (go_big_quiet_step (fail))
                  refine wpQuiet_nil ?_
                  refine Qmu.fork [5] (fun _ => cls HKB.out) (by kernel_rfl) (by simp) ⟨?_, trivial⟩
                  refine Qmu.by_op rfl (by kernel_rfl) ?_
                  go_wp2_with fail
                  refine ⟨rfl, ?_⟩
                  refine Qmu.by_end (Qmu.past (by kernel_rfl)) (by kernel_rfl) ?_
                  go_wp2_with fail
                  go_meet
                  case rel =>
                    have hk8 := kept_set8 (Kept.refl K wB) (.int .i64 2) (.string t.text) (.string z2) (.slice none 0 0) (.bool false) (.string ⟨#[]⟩) (.string ⟨#[]⟩) (.int .i64 0)
                    exact ⟨⟨none, 0, HB9.out.set8 rfl _ _ _ _ _ _ _ _, Strs.nil _ _ _, HR9.out.low (hk8.below (by omega) (by have := HB9.out.lt; omega)), Kept.out HK9.out hk8 (by omega)⟩, HX9.out.kept hk8 (by omega), HJ9.out.kept hk8 (by omega)⟩
                · have hbd := HBD.out
                  rw [body_sub q1 q2 q3] at hbd
                  rcases ht1 : take ts 1 sNo (.ok (n + 1)) with ⟨z1, s1⟩
                  rw [ht1] at hbd
                  injection hbd with h1 h2
                  subst h1; subst h2
                  have HT1 := Lib.hid (fun w h => HTK.out (.ok (n + 1)) 1 (by decide) sNo w h)
                  rw [ht1] at HT1
                  unfold TakeP sNo at HT1
                  clear ht1
                  go_wp2_with fail
                  refine (HT1.out _ HR.out).mono ?_
                  rintro e w7 ⟨rfl, hr7, hk7⟩
                  have HB7 := hide (HB.out.kept hk7 hKR.symm)
                  have HX7 := hide (HX.out.kept hk7 (by omega))
                  have HJ7 := hide (HJ.out.kept hk7 (by omega))
                  have HR7 := hide hr7
                  have HK7 := hide (HK.out.trans hk7)
                  clear hr7 hk7
                  obtain ⟨d0, d1, d2, d3, d4, d5, d6, d7⟩ := cells8 HB7.out
                  obtain ⟨e0, e1, e2, e3, e4, e5, e6, e7⟩ := frozen8 HB7.out
                  go_wp2_with fail
                  go_meet
                  case rel =>
                    have hk8 := kept_set8 (Kept.refl K w7) (.int .i64 4) (.string z1) (.string ⟨#[]⟩) (.slice none 0 0) (.bool false) (.string ⟨#[]⟩) (.string ⟨#[]⟩) (.int .i64 0)
                    exact ⟨⟨none, 0, HB7.out.set8 rfl _ _ _ _ _ _ _ _, Strs.nil _ _ _, HR7.out.low (hk8.below (by omega) (by have := HB7.out.lt; omega)), Kept.out HK7.out hk8 (by omega)⟩, HX7.out.kept hk8 (by omega), HJ7.out.kept hk8 (by omega)⟩
              · have hbd := HBD.out
                rw [body_limit q1 q2] at hbd
                rcases ht1 : limitP ts (.ok (n + 1)) with ⟨⟨z1, q⟩, s1⟩
                rw [ht1] at hbd
                injection hbd with h1 h2
                subst h1; subst h2
                have HT1 := Lib.hid (fun w h he => HLM.out (.ok (n + 1)) w h he)
                rw [ht1] at HT1
                unfold ClP at HT1
                clear ht1
                go_wp2_with fail
                refine (HT1.out _ HR.out HE0.out).mono ?_
                rintro e w7 ⟨A7, c7, rfl, hS7, hr7, hk7⟩
                have HB7 := hide (HB.out.kept hk7 hKR.symm)
                have HX7 := hide (HX.out.kept hk7 (by omega))
                have HJ7 := hide (HJ.out.kept hk7 (by omega))
                have HR7 := hide hr7
                have HK7 := hide (HK.out.trans hk7)
                clear hr7 hk7
                obtain ⟨d0, d1, d2, d3, d4, d5, d6, d7⟩ := cells8 HB7.out
                obtain ⟨e0, e1, e2, e3, e4, e5, e6, e7⟩ := frozen8 HB7.out
                go_wp2_with fail
                go_meet
                case rel =>
                  have hk8 := kept_set8 (Kept.refl K w7) (.int .i64 3) (.string z1) (.string sNo) (.slice A7 ([] : List ByteArray).length c7) (.bool (negB q)) (.string (str (encN q))) (.string (str (encD q))) (.int .i64 0)
                  exact ⟨⟨A7, c7, HB7.out.set8 rfl _ _ _ _ _ _ _ _, Strs.nil _ _ _, HR7.out.low (hk8.below (by omega) (by have := HB7.out.lt; omega)), Kept.out HK7.out hk8 (by omega)⟩, HX7.out.kept hk8 (by omega), HJ7.out.kept hk8 (by omega)⟩
            · have hbd := HBD.out
              rw [body_class q1] at hbd
              rcases ht1 : classP ts (.ok (n + 1)) with ⟨⟨z1, l1⟩, s1⟩
              rw [ht1] at hbd
              injection hbd with h1 h2
              subst h1; subst h2
              have HT1 := Lib.hid (fun w h => HCL.out (.ok (n + 1)) w h)
              rw [ht1] at HT1
              unfold ClP at HT1
              clear ht1
              go_wp2_with fail
              refine (HT1.out _ HR.out).mono ?_
              rintro e w7 ⟨A7, c7, rfl, hS7, hr7, hk7⟩
              have HB7 := hide (HB.out.kept hk7 hKR.symm)
              have HX7 := hide (HX.out.kept hk7 (by omega))
              have HJ7 := hide (HJ.out.kept hk7 (by omega))
              have HR7 := hide hr7
              have HK7 := hide (HK.out.trans hk7)
              clear hr7 hk7
              obtain ⟨d0, d1, d2, d3, d4, d5, d6, d7⟩ := cells8 HB7.out
              obtain ⟨e0, e1, e2, e3, e4, e5, e6, e7⟩ := frozen8 HB7.out
              go_wp2_with fail
              go_meet
              case rel =>
                have hk8 := kept_set8 (Kept.refl K w7) (.int .i64 1) (.string z1) (.string sNo) (.slice A7 l1.length c7) (.bool false) (.string sNo) (.string sNo) (.int .i64 0)
                exact ⟨⟨A7, c7, HB7.out.set8 rfl _ _ _ _ _ _ _ _, (hS7.kept (by omega) hk8).mono (fun b hb => by omega), HR7.out.low (hk8.below (by omega) (by have := HB7.out.lt; omega)), Kept.out HK7.out hk8 (by omega)⟩, HX7.out.kept hk8 (by omega), HJ7.out.kept hk8 (by omega)⟩
          case rest =>
            obtain ⟨⟨A8, c8, HB8, hS8, HR8, HK8⟩, HX8, HJ8⟩ := hcut
            rcases ht1 : take ts 4 ⟨#[59]⟩ s' with ⟨z9, s9⟩
            have HT1 := Lib.hid (fun w h => HTK.out s' 4 (by decide) ⟨#[59]⟩ w h)
            rw [ht1] at HT1
            unfold TakeP at HT1
            have hce := HCE.out
            simp only [sSemi, ht1] at hce
            have HCF := hide hce
            have hR8 := HR8
            clear ht1 hce HCE
            go_wp2_with fail
            refine (HT1.out _ hR8).mono ?_
            rintro e w9 ⟨rfl, hr9, hk9⟩
            have HB9 := hide (HB8.kept hk9 hKR.symm)
            have HX9 := hide (Blk.kept HX8 hk9 (by omega))
            have HJ9 := hide (Blk.kept HJ8 hk9 (by omega))
            have HR9 := hide hr9
            have HK9 := hide (HK8.trans hk9)
            have HS9 := hide (hS8.kept (by omega) hk9)
            clear hr9 hk9 hR8 HR8 HX8 HJ8 HB8 hS8 HK8
            have x2 := HX9.out.cell (i := 2) rfl
            have c7' := HB9.out.cell (i := 7) rfl
            have f7' := HB9.out.frozen 7
            obtain ⟨w10, hw10⟩ : ∃ w10, w9.setCell ⟨K, 7, none⟩ (.int .i64 (t.off : Int)) = w10 := ⟨_, rfl⟩
            have hk10 := (Kept.refl K w9).setCell 7 (.int .i64 (t.off : Int))
            have hb10 := HB9.out.set 7 (.int .i64 (t.off : Int))
            rw [hw10] at hk10 hb10
            have HB := hide hb10
            replace HJ := hide (HJ9.out.kept hk10 (by omega))
            replace HR := hide (HR9.out.low (hk10.below (by omega) (by have := HB9.out.lt; omega)))
            replace HK := hide (Kept.out HK9.out hk10 (by omega))
            have HS := hide (HS9.out.kept (by omega) hk10)
            clear hk10 hb10
            obtain ⟨y0, y1, y2, y3, y4, y5, y6, y7⟩ := cells8 HB.out
            obtain ⟨d0, d1, d2, d3, d4, d5, d6, d7⟩ := cells8 HJ.out
            obtain ⟨e0, e1, e2, e3, e4, e5, e6, e7⟩ := frozen8 HJ.out
            go_wp2_with fail
            refine bodyPost_ret (results_cl rfl _ rfl (HJ.out.set8 rfl _ _ _ _ _ _ _ _)) rfl ?_
            have hk8 := kept_set8 (Kept.refl w.heap.size w10) (.int .i64 b'.kind) (.string b'.name) (.string b'.other) (.slice A8 b'.list.length c8) (.bool b'.neg) (.string b'.num) (.string b'.den) (.int .i64 (t.off : Int))
            rw [HCF.out]
            exact ⟨A8, c8, by rw [HOFF.out], (HS.out.kept (by omega) hk8).mono (fun b hb => by omega), HR.out.low (hk8.below (by omega) (by have := HJ.out.lt; omega)), Kept.out HK.out hk8 (Nat.le_refl _)⟩
        · have hcl := clause_full HTT.out hkn
          have HCE := hide hcl
          have HF1 := Lib.hid (fun w h => HF.out (.ok n) 2 (by decide) w h)
          clear hcl hkn
          go_wp2_with fail
          refine (HF1.out _ HR.out).mono ?_
          rintro e w4 ⟨rfl, hr4, hk4, _⟩
          change Rd w4 R (some ⟨b, off, none⟩) c ts (.bad _ (tk ts n).off) at hr4
          rw [HTT.out] at hr4
          replace HR := hide hr4
          replace HJ := hide (HJ.out.kept hk4 (by omega))
          replace HK := hide (HK.out.trans hk4)
          clear hr4 hk4 x0 x1 x2
          obtain ⟨d0, d1, d2, d3, d4, d5, d6, d7⟩ := cells8 HJ.out
          obtain ⟨e0, e1, e2, e3, e4, e5, e6, e7⟩ := frozen8 HJ.out
          go_wp2_with fail
          refine bodyPost_ret (results_cl rfl _ rfl (HJ.out.set8 rfl _ _ _ _ _ _ _ _)) rfl ?_
          have hk8 := kept_set8 (Kept.refl w.heap.size w4) (.int .i64 0) (.string ⟨#[]⟩) (.string ⟨#[]⟩) (.slice none 0 0) (.bool false) (.string ⟨#[]⟩) (.string ⟨#[]⟩) (.int .i64 0)
          rw [HCE.out]
          exact ⟨none, 0, rfl, Strs.nil _ _ _, HR.out.low (hk8.below (by omega) (by have := HJ.out.lt; omega)), Kept.out HK.out hk8 (Nat.le_refl _)⟩
end Go.Proofs.YtnbdckfnohagbaaGreatDoor.PqF
