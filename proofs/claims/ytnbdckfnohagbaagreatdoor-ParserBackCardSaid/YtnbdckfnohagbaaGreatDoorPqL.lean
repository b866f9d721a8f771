/- The walk of the reference's Parse. -/
import Derived.Test.YtnbdckfnohagbaaGreatDoorPqK
import Derived.Test.YtnbdckfnohagbaaGreatDoorLxF
namespace Go.Proofs.YtnbdckfnohagbaaGreatDoor.PqL
theorem here : True := trivial
open Go.RowKit Lx Wd RnW PqA PqB PqC PqD PqE PqF PqG PqH PqI PqJ PqK RoL RnQ RnR RnP RtA RpC RpF
theorem answer_bad (ts : List Tok) (f : Nat) (out : List Cl) (e a : Nat) : answer (clauses ts f out (.bad e a)) = ([], a, e) := by rw [clauses_bad]; rfl
theorem ref_step {ts : List Tok} {n : Nat} {full : Bool} {x : Cl} {s1 : St} (hx : rclauseP ts n = (x, s1)) (h : knownB (tk ts n) = true → full = false) (f : Nat) (out : List Cl) :
    answer (clauses ts f (out ++ [(clauseP ts full n).1]) (clauseP ts full n).2) = answer (clauses ts f (out ++ [x]) (take ts 4 ⟨#[59]⟩ s1).2) := by
  unfold rclauseP at hx
  cases hk : knownB (tk ts n)
  · rw [hk, if_neg Bool.false_ne_true] at hx
    injection hx with h1 h2
    subst h2
    rw [clause_none rfl hk]
    simp only [take, answer_bad]
  · have hf := h hk
    subst hf
    rw [hk, if_pos rfl] at hx
    rw [clause_body rfl hk, hx]
    rfl
theorem rclause_le {ts : List Tok} {n : Nat} {x : Cl} {s1 : St} (hx : rclauseP ts n = (x, s1)) {m : Nat} (h : (take ts 4 ⟨#[59]⟩ s1).2 = .ok m) : n < m := by
  unfold rclauseP at hx
  obtain ⟨k, h1, h2⟩ := take_le _ _ _ _ m h
  subst h1
  split at hx
  · have h3 : (body ts (tk ts n) (.ok (n + 1))).2 = .ok k := by rw [hx]
    obtain ⟨l, h4, h5⟩ := body_le _ _ _ k h3
    injection h4 with h4
    omega
  · injection hx with _ h4
    cases h4
set_option maxHeartbeats 8000000 in
set_option maxRecDepth 100000 in
theorem rparse_cl (s : ByteArray) (w : World) (hs : s.size ≤ 8192) (he : Env w) :
    Calls Tryz.prog 11 #[.string s] w (ParseP (parseOf s) w) := by
  have HSP := Lib.hid (LxF.rsplit_any s w hs)
  rw [← lex_small hs] at HSP
  obtain ⟨ha, ⟨hr1, hr2⟩, hgood⟩ := lex_facts hs
  obtain ⟨i0, hi, hz0, hz1, hz2⟩ := info_parts cl_info
  obtain ⟨⟨ts, a, er⟩, hlx⟩ : ∃ p, lex s = p := ⟨_, rfl⟩
  rw [hlx] at HSP ha hr1 hr2 hgood
  dsimp only at ha hr1 hr2 hgood
  obtain ⟨ek, rfl⟩ : ∃ k : Nat, er = (k : Int) := ⟨er.toNat, by omega⟩
  have HE := hide he
  unfold ParseP
  unfold LxD.SplitPost at HSP
  clear he
  by_cases h0 : ek = 0
  · subst h0
    obtain ⟨hts, hlen⟩ := hgood rfl
    have hp := parse_ok hlx
    have HPO := hide hp
    have HTS := hide hts
    have htl : 0 < ts.length := hts.pos
    clear hgood hr1 hr2 ha hlx hp hts
    go_enter Tryz.func11, Tryz.ntmps11
    go_wp2_with fail
    refine HSP.out.mono ?_
    rintro e w1 ⟨v, rfl, hown, hb1⟩
    obtain ⟨A, c, rfl⟩ := LxD.own_slice hown
    obtain ⟨W2, hW2⟩ : ∃ W2, w1.alloc (.cells #[.slice A ts.length c, .int .i64 0, .int .i64 0, .int .i64 0] 64) = W2 := ⟨_, rfl⟩
    have hbl := Blk.new w1 [.slice A ts.length c, .int .i64 0, .int .i64 0, .int .i64 0] 64
    have hb2 : Below w1.heap.size w1 W2 := by rw [← hW2]; exact (Below.refl _ _).alloc (Nat.le_refl _) _
    change Blk (w1.alloc (.cells #[.slice A ts.length c, .int .i64 0, .int .i64 0, .int .i64 0] 64)) w1.heap.size _ at hbl
    rw [hW2] at hbl
    have HR := hide (show Rf W2 w1.heap.size A c ts (.ok 0) from ⟨0, 0, 0, ⟨htl, rfl, rfl, rfl⟩, hbl, toks_own hown htl hb2⟩)
    have HB := hide (hb1.trans (hb2.mono hb1.size))
    have hsz := hb1.size
    clear hbl hb2 hown hb1
    go_wp2_with fail
    obtain ⟨R, hRe⟩ : ∃ R, w1.heap.size = R := ⟨_, rfl⟩
    rw [hRe] at HR hsz ⊢
    have hR0 : 0 < R := by have := HE.out.1; omega
    have hRW := HR.out.lt
    clear hRe hW2 HSP
    go_loopw [9] (fun vo wr => ∃ (f : Nat) (out : List Cl) (sx : St) (xs : List Value) (A' : Option Addr) (m c' : Nat), vo = .slice A' m c' ∧ Hid (out.length = m) ∧ m + f = ts.length + 1 ∧ (∀ n, sx = .ok n → ts.length + 1 ≤ n + f) ∧ Hid (parseT ts = answer (clauses ts f out sx)) ∧ Hid (Rf wr R A c ts sx) ∧ Hid (Below w.heap.size w wr) ∧ Hid (wr.ownsRow (R + 1) 45 8 (.slice A' m c') m xs) ∧ Hid (ClsIn (fun b => R < b ∧ (Value.slice A' m c').ownBlock ≠ some b) wr out xs) ∧ R < wr.heap.size) (fun _ wr => left ts.length R 1 3 wr)
    case atStart => exact ⟨ts.length + 1, [], .ok 0, [], none, 0, 0, rfl, rfl, by omega, fun n _ => by omega, rfl, HR, HB, World.ownsRow_nil _ _ _ _, rfl, hRW⟩
    case round =>
      clear HR HB hRW
      obtain ⟨f, out, sx, xs, A', m, c', rfl, HM, hmf, hfu, HP, HR, HB, HO, HC, hRW⟩ := hrel
      cases sx with
      | bad e1 a1 =>
        have hP := HP.out
        rw [clauses_bad] at hP
        have HQ := hide hP
        obtain ⟨n1, e2, a2, ⟨hn1, rfl, hne, rfl⟩, hBl, _⟩ := HR.out
        have g2 := hBl.cell (i := 2) rfl
        have g3 := hBl.cell (i := 3) rfl
        have hb0 : ((e2 : Int) == 0) = false := by simpa using hne
        have hb1 : ((e2 : Int) != 0) = true := by simpa using hne
        clear hBl hne hP HP hfu
        go_wp2_with fail
        go_quiet (fail)
        go_wp2_with fail
        go_quiet (fail)
        go_wp2_with fail
        go_ret3
        rw [HPO.out, HQ.out]
        exact ⟨none, 0, rfl, ClsAt.nil _ _, by first | exact below_drewN (below_drewN HB.out _) _ | (rename_i nq nq2; exact below_drewN HB.out _)⟩
      | ok n =>
        obtain ⟨b, off, hA, hb, hRw, c0, c1, hn, t0, t1, t2, c3⟩ := HR.out.text
        subst hA
        by_cases h5 : (tk ts n).kind = 5
        · have hP := HP.out
          rw [clauses_end h5] at hP
          have HQ := hide hP
          have hk5 : ((tk ts n).kind != 5) = false := by simpa using h5
          have hwr := hRW
          clear h5 hP HP hfu t1 t2
          go_wp2_with fail
          go_quiet (fail)
          go_wp2_with fail
          go_ret3
          rw [HPO.out, HQ.out]
          have hM := HM.out
          subst hM
          obtain ⟨A9, c9, e9, hcl⟩ := ClsAt.own HO.out HC.out (by unfold maxLen; omega)
          injection e9 with e91 e92 e93
          subst e91; subst e93
          exact ⟨A', c', rfl, hcl.below (below_drewN (Below.refl _ _) nq), below_drewN HB.out nq⟩
        · have hk5 : ((tk ts n).kind != 5) = true := by simpa using h5
          have hf1 := hfu n rfl
          obtain ⟨f, rfl⟩ : ∃ f', f = f' + 1 := ⟨f - 1, by omega⟩
          have hP := HP.out
          rw [clauses_go h5] at hP
          have HP1 := hide hP
          have H5 := hide h5
          have HR0 := hide HR.out
          clear t1 t2 h5 hP HP hfu
          go_wp2_with fail
          go_quiet (fail)
          obtain ⟨w2, hw2⟩ : ∃ w2, wr.drewN nq = w2 := ⟨_, rfl⟩
          replace HR := hide (HR.out.below (below_drewN (Below.refl _ _) nq))
          replace HB := hide (below_drewN HB.out nq)
          replace HO := hide (show (wr.drewN nq).ownsRow (R + 1) 45 8 _ _ _ from HO.out)
          replace HC := hide (HC.out.map (fun A c l h => h.below (below_drewN (Below.refl _ _) nq)))
          have hR2 : R < (wr.drewN nq).heap.size := hRW
          rw [hw2] at HR HB HO HC hR2 ⊢
          clear hw2 c0 c1 c3 t0 hb hRw
          obtain ⟨b, off, hA, hb, hRw, c0, c1, hn, t0, t1, t2, _⟩ := HR.out.text
          have k0 := at_kin hRw c0
          have k1 := at_kin hRw c1
          have l0 := at_kin hb t0
          have l1 := at_kin hb t1
          have l2 := at_kin hb t2
          have hBW : Hid (Below w2.heap.size w2 ((World.alloc { w2 with drawn := w2.drawn + 1 } (.cells #[.int .i64 (tk ts n).kind, .string (tk ts n).text, .int .i64 ((tk ts n).off : Int)] 66)))) := (Qin.start _ w2).alloc (Nat.le_refl _) _
          have hXW : Hid (Blk (World.alloc { w2 with drawn := w2.drawn + 1 } (.cells #[.int .i64 (tk ts n).kind, .string (tk ts n).text, .int .i64 ((tk ts n).off : Int)] 66)) w2.heap.size [.int .i64 (tk ts n).kind, .string (tk ts n).text, .int .i64 ((tk ts n).off : Int)]) := Blk.new { w2 with drawn := w2.drawn + 1 } [.int .i64 (tk ts n).kind, .string (tk ts n).text, .int .i64 ((tk ts n).off : Int)] _
          have hRlt := hRw
          clear hRw
          injection hA with hA
          injection hA with hA4 hA5
          subst hA4; subst hA5
          clear c0 c1 t0 t1 t2 hb
          go_upto_region 7 with fail
          go_cut [10] (fun v wx => ∃ L, Hid (L = w2.heap.size) ∧ v = .pointer (some ⟨L, 0, none⟩) ∧ Hid (Blk wx L [.int .i64 (tk ts n).kind, .string (tk ts n).text, .int .i64 ((tk ts n).off : Int)]) ∧ Hid (Below w2.heap.size w2 wx))
          case first =>
            go_wp2_with fail
            refine Qmt.wp_region (C := Cls (Below w2.heap.size w2)) (by kernel_rfl) (by kernel_rfl) ?_
            simp only [List.length_cons, List.length_nil]
            refine Qmt.takes [0, 1, 2, 3, 4, 5, 6, 7, 8, 9] 2 _ _ _ (cls (Qin.start _ w2)) (by kernel_rfl) ?_
            simp only [List.filterMap_cons, List.filterMap_nil, List.getElem?_toArray, List.getElem?_cons_zero, List.getElem?_cons_succ]
            change wpQuiet _ _ _ _ [_, _, _, _, _, _, _, _, _, _] _
            repeat (go_big_quiet_step (fail))
            refine wpQuiet_nil ?_
            refine Qmt.fork [10] (cls (Qin.start _ w2)) (by kernel_rfl) (by simp) ⟨?_, trivial⟩
            refine Qmt.by_op rfl (by kernel_rfl) ?_
            go_wp2_with fail
            refine ⟨rfl, ?_⟩
            refine Qmt.fork [11] (cls ((Qin.start _ w2).alloc (Nat.le_refl _) _)) (by kernel_rfl) (by simp) ⟨?_, trivial⟩
            refine Qmt.by_op rfl (by kernel_rfl) ?_
            go_wp2_with fail
            refine ⟨rfl, ?_⟩
            refine Qmt.by_end (cls hBW.out) (by kernel_rfl) ?_
            go_wp2_with fail
            go_meet
            case rel => exact ⟨_, rfl, rfl, hXW, hBW⟩
          case rest =>
            obtain ⟨L, hL, rfl, HX, HBX⟩ := hcut
            have hLs := HX.out.lt
            have hL' := hL.out
            clear hBW hXW k0 k1 l0 l1 l2
            replace HR := hide (HR.out.below HBX.out)
            replace HB := hide (HB.out.trans (HBX.out.mono HB.out.size))
            replace HO := hide (own_below HO.out HBX.out)
            replace HC := hide (HC.out.map (fun A c l h => h.below HBX.out))
            have hRc : R < wc.heap.size := by omega
            clear HBX hL'
            have x0 := HX.out.cell (i := 0) rfl
            have x1 := HX.out.cell (i := 1) rfl
            obtain ⟨wo, rfl⟩ : ∃ wo, wo = wc := ⟨_, rfl⟩
            obtain ⟨t, ht⟩ : ∃ t, tk ts n = t := ⟨_, rfl⟩
            rw [ht] at x0 x1
            have HT := hide ht
            clear ht
            go_upto_region 8 with fail
            go_cut [11] (fun v wx => v = .bool (knownB t) ∧ wo = wx)
            case first =>
              cases h1 : (t.kind == 1)
              · cases h3 : (t.kind == 3)
                · go_wp2_with fail
                  go_meet
                  case rel => exact ⟨congrArg Value.bool (by unfold knownB; rw [h1, h3]; rfl), rfl⟩
                · cases hbf : (t.text.toList == [98, 101, 102, 111, 114, 101])
                  all_goals
                    go_wp2_with fail
                    go_meet
                    case rel => exact ⟨congrArg Value.bool (by unfold knownB; rw [h1, h3, before_tl, hbf]; rfl), rfl⟩
              · go_wp2_with fail
                go_meet
                case rel => exact ⟨congrArg Value.bool (by unfold knownB; rw [h1]; rfl), rfl⟩
            case rest =>
              obtain ⟨rfl, rfl⟩ := hcut
              clear x0 x1
              have hstay : (knownB t = true ∧ 64 ≤ m) ∨ (knownB t = true → ¬ 64 ≤ m) := by
                by_cases h : 64 ≤ m
                · cases knownB t
                  · exact .inr (fun e => absurd e Bool.false_ne_true)
                  · exact .inl ⟨rfl, h⟩
                · exact .inr (fun _ => h)
              have HST := hide hstay
              clear hstay
              rcases HST.out with ⟨hkn, h64⟩ | hno
              · have hP : parseT ts = ([], (tk ts n).off, 2) := by
                  have h9 := HP1.out
                  rw [HM.out, decide_eq_true h64, clause_full rfl (by rw [HT.out]; exact hkn), answer_bad] at h9
                  exact h9
                have HQ := hide hP
                have HF := Lib.hid (fun w h => rfail_any ts (.ok n) 2 R (some ⟨b, off, none⟩) c w h (by decide))
                clear hP HST
                go_wp2_with fail
                refine (HF.out _ HR.out).mono ?_
                rintro e w4 ⟨rfl, hr4, hk4⟩
                obtain ⟨n1, e2, a2, ⟨hn1, he2, hne, ha2⟩, hBl, _⟩ := hr4
                subst he2; subst ha2
                have g2 := hBl.cell (i := 2) rfl
                have g3 := hBl.cell (i := 3) rfl
                change w4.cell? ⟨R, 3, none⟩ = some (.int .i64 2) at g3
                have HB4 := hide (HB.out.trans (hk4.below hsz HB.out.size))
                clear hBl hne hk4
                go_wp2_with fail
                go_quiet (fail)
                go_wp2_with fail
                go_ret3
                rw [HPO.out, HQ.out]
                exact ⟨none, 0, rfl, ClsAt.nil _ _, below_drewN HB4.out nq⟩
              · obtain ⟨⟨x, s1⟩, hx⟩ : ∃ p, rclauseP ts n = p := ⟨_, rfl⟩
                have hP : parseT ts = answer (clauses ts f (out ++ [x]) (take ts 4 ⟨#[59]⟩ s1).2) := by
                  have h9 := HP1.out
                  rw [ref_step hx (fun e => by rw [HM.out]; exact decide_eq_false (hno (by rw [← HT.out]; exact e)))] at h9
                  exact h9
                have HQ := hide hP
                have HX2 := hide hx
                have HCL := Lib.hid (fun w h he => rclause_any ts HTS.out n R (some ⟨b, off, none⟩) c w h H5.out (by omega) he hR0)
                rw [hx] at HCL
                unfold ClR at HCL
                rcases htt : take ts 4 ⟨#[59]⟩ s1 with ⟨z9, sz⟩
                have HTK := Lib.hid (fun w h => rtake_any ts HTS.out s1 4 (by decide) ⟨#[59]⟩ R (some ⟨b, off, none⟩) c w h (by omega))
                rw [htt] at HTK HQ
                unfold TakeR at HTK
                have HTT := hide htt
                have hE3 := HE.out.below HB.out
                have HE3 := hide hE3
                obtain ⟨kb, hkb⟩ : ∃ kb, knownB t = kb := ⟨_, rfl⟩
                rw [hkb] at hno ⊢
                clear hP hx htt HST hE3 hkb
                have hfin : kb = false ∨ (kb = true ∧ ¬ 64 ≤ m) := by
                  cases kb
                  · exact .inl rfl
                  · exact .inr ⟨rfl, hno rfl⟩
                clear hno
                rcases hfin with rfl | ⟨rfl, h64⟩
                all_goals
                  go_wp2_with fail
                  refine (HCL.out _ HR.out HE3.out).mono ?_
                  rintro e w4 ⟨A4, c4, rfl, hS4, hr4, hk4⟩
                  have hB4 := HB.out.trans (hk4.below hsz HB.out.size)
                  have hO4 := hk4.own HO.out (by omega)
                  have hC4 := HC.out.map (P' := fun b => R < b ∧ (Value.slice A' m c').ownBlock ≠ some b) (fun A c l h => h.kept (by omega) hk4)
                  have hS4' : Strs (fun b => R < b ∧ (Value.slice A' m c').ownBlock ≠ some b) w4 A4 c4 x.list := hS4.mono (fun b hb => ⟨by omega, fun e => by have := (HO.out.lt b e).2; omega⟩)
                  have hsz4 := hk4.size
                  obtain ⟨V4, hV4⟩ : ∃ V4, w4.alloc (.cells #[.int .i64 x.kind, .string x.name, .string x.other, .slice A4 x.list.length c4, .bool x.neg, .string x.num, .string x.den, .int .i64 x.off] 45) = V4 := ⟨_, rfl⟩
                  have hbV4 : Below w4.heap.size w4 V4 := by rw [← hV4]; exact (Below.refl _ _).alloc (Nat.le_refl _) _
                  have hXb : Blk V4 w4.heap.size (Cl.vals x A4 c4) := by rw [← hV4]; exact Blk.new w4 (Cl.vals x A4 c4) _
                  have HV4 := hide hV4
                  have HBX := hide hXb
                  have HB5 := hide (hB4.trans (hbV4.mono hB4.size))
                  have HO5 := hide (own_below hO4 hbV4)
                  have HC5 := hide (hC4.map (P' := fun b => R < b ∧ (Value.slice A' m c').ownBlock ≠ some b) (fun A c l h => h.below hbV4))
                  have HS5 := hide (hS4'.below hbV4)
                  have HR5 := hide (hr4.below hbV4)
                  have hR5 : R < w4.heap.size := hr4.lt
                  clear hV4 hXb hB4 hO4 hC4 hS4 hS4' hr4 hk4 hbV4 HO HC HR HB
                  go_wp2_with fail
                  rw [HV4.out]
                  clear HV4
                  refine (HTK.out _ HR5.out).mono ?_
                  rintro e w6 ⟨rfl, hr6, hk6⟩
                  have hBX6 := HBX.out.kept hk6 (by omega)
                  have hB6 := HB5.out.trans (hk6.below hsz HB5.out.size)
                  have hO6 := hk6.own HO5.out (by omega)
                  have hC6 := HC5.out.map (P' := fun b => R < b ∧ (Value.slice A' m c').ownBlock ≠ some b) (fun A c l h => h.kept (by omega) hk6)
                  have hS6 := HS5.out.kept (by omega) hk6
                  have hsz6 := hk6.size
                  obtain ⟨y0, y1, y2, y3, y4, y5, y6, y7⟩ := cells8 (show Blk w6 w4.heap.size [.int .i64 x.kind, .string x.name, .string x.other, .slice A4 x.list.length c4, .bool x.neg, .string x.num, .string x.den, .int .i64 x.off] from hBX6)
                  obtain ⟨V, hV⟩ : ∃ V, w6.alloc (.cells #[.int .i64 x.kind, .string x.name, .string x.other, .slice A4 x.list.length c4, .bool x.neg, .string x.num, .string x.den, .int .i64 x.off] 45) = V := ⟨_, rfl⟩
                  have hbV : Below w6.heap.size w6 V := by rw [← hV]; exact (Below.refl _ _).alloc (Nat.le_refl _) _
                  have hrd : Reads V (w6.heap.size + 1) 8 (some ⟨w6.heap.size, 0, none⟩) 1 (Cl.vals x A4 c4) := by rw [← hV]; exact reads_new w6 (Cl.vals x A4 c4) _ rfl
                  have HRD := hide hrd
                  have HOV := hide (own_below hO6 hbV)
                  have HCV := hide ((hC6.map (P' := fun b => R < b ∧ (Value.slice A' m c').ownBlock ≠ some b) (fun A c l h => h.below hbV)).snoc (hS6.below hbV) (c := c4))
                  have HBV := hide (hB6.trans (hbV.mono hB6.size))
                  have HRV := hide (hr6.below hbV)
                  have hVs := hbV.size
                  have hR6 : R < w6.heap.size := hr6.lt
                  clear hB6 hO6 hC6 hS6 hrd hbV hr6 hk6 hBX6 HBX HB5 HO5 HC5 HS5 HR5
                  go_wp2_with (first
                    | (at_builtin
                       refine wpList_append_any _ rfl (.tmp 80) (.tmp 82) 23 rfl (R + 1) 45 i0 _ 8 112 Tryz.underlying23 hi hz0 hz1 hz2 rfl (by decide) _ _ _ rfl HOV.out _ _ 1 1 _ rfl HRD.out (vals_one x A4 c4) ?c3 ?c4 ?c5 ?_
                       case c3 => unfold maxLen; omega
                       case c4 => omega
                       case c5 => omega
                       intro v5 w5 hown5 hg5 hob5))
                  obtain ⟨A5, c5, rfl⟩ := LxD.own_slice hown5
                  have hgb : Below (R + 1) V w5 := (Below.refl _ _).grown hg5 (by omega) (fun g hg => (HOV.out.lt g hg).1)
                  have HR5 := hide (HRV.out.low hgb)
                  have hC5 := HCV.out.map (P' := fun b => R < b ∧ (Value.slice A5 (m + 1) c5).ownBlock ≠ some b) (fun A c l h => Strs.grown (Strs.mono' (Q := fun b => R < b ∧ (Value.slice A' m c').ownBlock ≠ some b ∧ b < V.heap.size) h (fun b hb hp => ⟨hp.1, hp.2, hb⟩)) hg5 (fun b hb => hb.2.1) |>.mono (fun b hb => ⟨hb.1, fun e => by
                    rcases hob5 with h | h
                    · rw [h] at e; exact hb.2.1 e
                    · rw [h] at e; injection e with e; omega⟩))
                  go_roundw
                  case rel => exact ⟨f, out ++ [x], sz, _, A5, m + 1, c5, rfl, by show _ = _; rw [List.length_append, HM.out]; rfl, by omega, fun k hk => (by have := rclause_le HX2.out (m := k) (by rw [HTT.out]; exact hk); omega), HQ.out, HR5, HBV.out.grown hg5 (by omega) (fun g hg => by have := (HOV.out.lt g hg).1; omega), hown5, hC5, by have := hgb.size; omega⟩
                  case measure => exact left_ltf HR0.out HR5.out (fun k hk => rclause_le HX2.out (m := k) (by rw [HTT.out]; exact hk))
  · have hp := parse_err hlx h0
    have hne : ((ek : Int) != 0) = true := by simpa using h0
    have HPO := hide hp
    clear hlx hp h0 hgood
    go_enter Tryz.func11, Tryz.ntmps11
    go_wp2_with fail
    refine HSP.out.mono ?_
    rintro e w1 ⟨v, rfl, hown, hb1⟩
    go_wp2_with fail
    go_ret3
    rw [HPO.out]
    exact ⟨none, 0, rfl, ClsAt.nil _ _, hb1⟩
end Go.Proofs.YtnbdckfnohagbaaGreatDoor.PqL
