/- The walks of the reference's reader of clauses: fail, take, is. -/
import Derived.Test.YtnbdckfnohagbaaGreatDoorPqH
namespace Go.Proofs.YtnbdckfnohagbaaGreatDoor.PqI
theorem here : True := trivial
open Go.RowKit Lx Wd RnW PqA PqB PqC PqD RoL
set_option maxHeartbeats 4000000 in
set_option maxRecDepth 100000 in
theorem rfail_any (ts : List Tok) (s : St) (e : Nat) (R : Nat) (A : Option Addr) (c : Nat) (w : World) (h : Rf w R A c ts s) (he : e ≠ 0) :
    Calls Tryz.prog 24 #[.pointer (some ⟨R, 0, none⟩), .int .i64 (e : Int)] w fun x w' => x = .returned (.tuple #[]) ∧ Rf w' R A c ts (failS ts e s) ∧ Kept R w w' := by
  have H := hide h
  obtain ⟨n, e1, a, hS, hB, hT⟩ := h
  cases s with
  | bad e' a' =>
    obtain ⟨_, rfl, h0, rfl⟩ := hS
    have he0 : ((e1 : Int) == 0) = false := by simpa using h0
    have c3 := hB.cell (i := 3) rfl
    clear hB hT h0
    go_enter Tryz.func24, Tryz.ntmps24
    go_wp2_with fail
    go_end0
    exact ⟨rfl, H.out, Kept.refl _ _⟩
  | ok m =>
    obtain ⟨hn, h1, h2, h3⟩ := hS
    subst h1; subst h2; subst h3
    have c3 := hB.cell (i := 3) rfl
    change w.cell? ⟨R, 3, none⟩ = some (.int .i64 0) at c3
    have f3 := hB.frozen 3
    obtain ⟨w1, hw1⟩ : ∃ w1, w.setCell ⟨R, 3, none⟩ (.int .i64 (e : Int)) = w1 := ⟨_, rfl⟩
    have hB1 := hB.set 3 (.int .i64 (e : Int))
    have hK1 := (Kept.refl R w).setCell 3 (.int .i64 (e : Int))
    rw [hw1] at hB1 hK1
    have hT1 := hT.kept hK1
    obtain ⟨b, off, hA, hb, hR, hTT⟩ := hT1
    obtain ⟨_, _, t2⟩ := hTT n _ (tk_get hn)
    subst hA
    have k0 := at_kin hB1.lt (hB1.cell (i := 0) rfl)
    have k1 := at_kin hB1.lt (hB1.cell (i := 1) rfl)
    have l2 := at_kin hb t2
    have HB1 := hide hB1
    have HK1 := hide hK1
    have HTT := hide hTT
    have H0 := hide he
    clear hB hT hB1 hK1 hTT he H t2
    go_enter Tryz.func24, Tryz.ntmps24
    go_wp2_with fail
    refine Qtl.region (I := Below w1.heap.size w1) 12 (Qin.start _ _) (by kernel_rfl) (by kernel_rfl) ?_
    simp only [List.take_succ_cons, List.take_zero, List.drop_succ_cons, List.drop_zero]
    repeat (go_big_quiet_step (fail))
    refine wpQuiet_nil ?_
    intro v
    clear k0 k1 l2 c3 f3 hw1
    have HB2 := hide (HB1.out.below v.ok)
    have g2 := HB2.out.cell (i := 2) rfl
    have f2 := HB2.out.frozen 2
    go_wp2_with fail
    go_end0
    refine ⟨rfl, ⟨n, e, (tk ts n).off, ⟨hn, rfl, H0.out, rfl⟩, HB2.out.set 2 _, ?_⟩, ?_⟩
    · exact ToksAt.kept (w := w1) ⟨b, off, rfl, hb, hR, HTT.out⟩ ((Kept.of_below v.ok).setCell 2 _)
    · exact HK1.out.trans ((Kept.of_below v.ok).setCell 2 _)
/-- what the reference's take leaves -/
def TakeR (p : ByteArray × St) (ts : List Tok) (R : Nat) (A : Option Addr) (c : Nat) (w : World) (e : Ending) (w' : World) : Prop := e = .returned (.string p.1) ∧ Rf w' R A c ts p.2 ∧ Kept R w w'
set_option maxHeartbeats 4000000 in
set_option maxRecDepth 100000 in
theorem rtake_any (ts : List Tok) (hts : Toks ts) (s : St) (kind : Int) (hk : kind ≠ 5) (text : ByteArray) (R : Nat) (A : Option Addr) (c : Nat) (w : World) (h : Rf w R A c ts s) (hl : ts.length ≤ 100000) :
    Calls Tryz.prog 26 #[.pointer (some ⟨R, 0, none⟩), .int .i64 kind, .string text] w (TakeR (take ts kind text s) ts R A c w) := by
  have H := hide h
  have HF := Lib.hid (fun w h => rfail_any ts s 10 R A c w h (by decide))
  obtain ⟨n, e, a, hS, hB, b, off, rfl, hb, hR, hT⟩ := h
  have hn := hS.1
  obtain ⟨t0, t1, t2⟩ := hT n _ (tk_get hn)
  have hRw := hB.lt
  have c0 := hB.cell (i := 0) rfl
  have c1 := hB.cell (i := 1) rfl
  have c3 := hB.cell (i := 3) rfl
  have k0 := at_kin hRw c0
  have k1 := at_kin hRw c1
  have l0 := at_kin hb t0
  have l1 := at_kin hb t1
  have l2 := at_kin hb t2
  have hBW : Hid (Below w.heap.size w ((World.alloc { w with drawn := w.drawn + 1 } (.cells #[.int .i64 (tk ts n).kind, .string (tk ts n).text, .int .i64 ((tk ts n).off : Int)] 66)))) := (Qin.start _ w).alloc (Nat.le_refl _) _
  unfold TakeR
  clear t0 t1 t2 c0 c1 hT
  cases s with
  | bad e' a' =>
    obtain ⟨_, h1, h0, h3⟩ := hS
    subst h1; subst h3
    have he0 : ((e : Int) != 0) = true := by simpa using h0
    clear hB h0 hn
    go_enter Tryz.func26, Tryz.ntmps26
    go_wp2_with fail
    refine Qmt.wp_region (C := Cls (Below w.heap.size w)) (by kernel_rfl) (by kernel_rfl) ?_
    simp only [List.length_cons, List.length_nil]
    refine Qmt.takes [0, 1, 2, 3, 4, 5, 6, 7, 8, 9] 2 _ _ _ (cls (Qin.start _ w)) (by kernel_rfl) ?_
    simp only [List.filterMap_cons, List.filterMap_nil, List.getElem?_toArray, List.getElem?_cons_zero, List.getElem?_cons_succ]
    change wpQuiet _ _ _ _ [_, _, _, _, _, _, _, _, _, _] _
    repeat (go_big_quiet_step (fail))
    refine wpQuiet_nil ?_
    refine Qmt.fork [10] (cls (Qin.start _ w)) (by kernel_rfl) (by simp) ⟨?_, trivial⟩
    refine Qmt.by_op rfl (by kernel_rfl) ?_
    go_wp2_with fail
    refine ⟨rfl, ?_⟩
    refine Qmt.fork [11] (cls ((Qin.start _ w).alloc (Nat.le_refl _) _)) (by kernel_rfl) (by simp) ⟨?_, trivial⟩
    refine Qmt.by_op rfl (by kernel_rfl) ?_
    go_wp2_with fail
    refine ⟨rfl, ?_⟩
    refine Qmt.by_end (cls hBW.out) (by kernel_rfl) ?_
    go_wp2_with fail
    refine (HF.out _ (H.out.below hBW.out)).mono ?_
    rintro e w2 ⟨rfl, h2, hk2⟩
    go_wp2_with fail
    go_ret
    exact ⟨rfl, h2, (Kept.of_below hBW.out).trans hk2⟩
  | ok m =>
    obtain ⟨_, h1, h2, h3⟩ := hS
    subst h1; subst h2; subst h3
    change w.cell? ⟨R, 3, none⟩ = some (.int .i64 0) at c3
    cases hi : isB ts kind text (.ok n)
    · have HT := hide (take_no hi)
      have HI : Hid (hitT (tk ts n) kind text = false) := hi
      unfold hitT at HI
      have hfl : Hid (failS ts 10 (.ok n) = .bad 10 (tk ts n).off) := rfl
      generalize htk : tk ts n = t at *
      clear hB hn hi
      cases hkk : (t.kind == kind)
      · have hk2 : (t.kind != kind) = true := by simpa using hkk
        go_enter Tryz.func26, Tryz.ntmps26
        go_wp2_with fail
        refine Qmt.wp_region (C := Cls (Below w.heap.size w)) (by kernel_rfl) (by kernel_rfl) ?_
        simp only [List.length_cons, List.length_nil]
        refine Qmt.takes [0, 1, 2, 3, 4, 5, 6, 7, 8, 9] 2 _ _ _ (cls (Qin.start _ w)) (by kernel_rfl) ?_
        simp only [List.filterMap_cons, List.filterMap_nil, List.getElem?_toArray, List.getElem?_cons_zero, List.getElem?_cons_succ]
        change wpQuiet _ _ _ _ [_, _, _, _, _, _, _, _, _, _] _
        repeat (go_big_quiet_step (fail))
        refine wpQuiet_nil ?_
        refine Qmt.fork [10] (cls (Qin.start _ w)) (by kernel_rfl) (by simp) ⟨?_, trivial⟩
        refine Qmt.by_op rfl (by kernel_rfl) ?_
        go_wp2_with fail
        refine ⟨rfl, ?_⟩
        refine Qmt.fork [11] (cls ((Qin.start _ w).alloc (Nat.le_refl _) _)) (by kernel_rfl) (by simp) ⟨?_, trivial⟩
        refine Qmt.by_op rfl (by kernel_rfl) ?_
        go_wp2_with fail
        refine ⟨rfl, ?_⟩
        refine Qmt.by_end (cls hBW.out) (by kernel_rfl) ?_
        go_wp2_with fail
        refine (HF.out _ (H.out.below hBW.out)).mono ?_
        rintro e w2 ⟨rfl, h2, hk2⟩
        go_wp2_with fail
        go_ret
        rw [HT.out]
        exact ⟨rfl, h2, (Kept.of_below hBW.out).trans hk2⟩
      · have hk2 : (t.kind != kind) = false := by simpa using hkk
        rw [hkk] at HI
        by_cases h0 : text.size = 0
        · obtain ⟨e1, e2⟩ := str_em h0
          exfalso
          have := HI.out
          rw [e2] at this
          simp at this
        · obtain ⟨e1, e2⟩ := str_ne (Nat.pos_of_ne_zero h0)
          have hx : (t.text.toList == text.toList) = false := by
            have := HI.out
            rw [e2] at this
            simpa using this
          have hx2 : (t.text.toList != text.toList) = true := by simpa using hx
          clear h0
          go_enter Tryz.func26, Tryz.ntmps26
          go_wp2_with fail
          refine Qmt.wp_region (C := Cls (Below w.heap.size w)) (by kernel_rfl) (by kernel_rfl) ?_
          simp only [List.length_cons, List.length_nil]
          refine Qmt.takes [0, 1, 2, 3, 4, 5, 6, 7, 8, 9] 2 _ _ _ (cls (Qin.start _ w)) (by kernel_rfl) ?_
          simp only [List.filterMap_cons, List.filterMap_nil, List.getElem?_toArray, List.getElem?_cons_zero, List.getElem?_cons_succ]
          change wpQuiet _ _ _ _ [_, _, _, _, _, _, _, _, _, _] _
          repeat (go_big_quiet_step (fail))
          refine wpQuiet_nil ?_
          refine Qmt.fork [10] (cls (Qin.start _ w)) (by kernel_rfl) (by simp) ⟨?_, trivial⟩
          refine Qmt.by_op rfl (by kernel_rfl) ?_
          go_wp2_with fail
          refine ⟨rfl, ?_⟩
          refine Qmt.fork [11] (cls ((Qin.start _ w).alloc (Nat.le_refl _) _)) (by kernel_rfl) (by simp) ⟨?_, trivial⟩
          refine Qmt.by_op rfl (by kernel_rfl) ?_
          go_wp2_with fail
          refine ⟨rfl, ?_⟩
          refine Qmt.by_end (cls hBW.out) (by kernel_rfl) ?_
          go_wp2_with fail
          refine (HF.out _ (H.out.below hBW.out)).mono ?_
          rintro e w2 ⟨rfl, h2, hk2⟩
          go_wp2_with fail
          go_ret
          rw [HT.out]
          exact ⟨rfl, h2, (Kept.of_below hBW.out).trans hk2⟩
    · obtain ⟨n', hnn, hh, ht⟩ := is_ok hi
      injection hnn with hnn
      subst hnn
      have HT := hide ht
      have hm := hts.more hn (by rw [hit_kind hh]; exact hk)
      have HI : Hid (hitT (tk ts n) kind text = true) := hi
      unfold hitT at HI
      have hkk : ((tk ts n).kind == kind) = true := by
        have := HI.out
        rw [Bool.and_eq_true] at this
        exact this.1
      have hk2 : ((tk ts n).kind != kind) = false := by simpa using hkk
      have f1 := hB.frozen 1
      have c1 := hB.cell (i := 1) rfl
      clear hB hi hh ht
      by_cases h0 : text.size = 0
      · obtain ⟨e1, e2⟩ := str_em h0
        clear h0
        go_enter Tryz.func26, Tryz.ntmps26
        go_wp2_with fail
        refine Qmt.wp_region (C := Cls (Below w.heap.size w)) (by kernel_rfl) (by kernel_rfl) ?_
        simp only [List.length_cons, List.length_nil]
        refine Qmt.takes [0, 1, 2, 3, 4, 5, 6, 7, 8, 9] 2 _ _ _ (cls (Qin.start _ w)) (by kernel_rfl) ?_
        simp only [List.filterMap_cons, List.filterMap_nil, List.getElem?_toArray, List.getElem?_cons_zero, List.getElem?_cons_succ]
        change wpQuiet _ _ _ _ [_, _, _, _, _, _, _, _, _, _] _
        repeat (go_big_quiet_step (fail))
        refine wpQuiet_nil ?_
        refine Qmt.fork [10] (cls (Qin.start _ w)) (by kernel_rfl) (by simp) ⟨?_, trivial⟩
        refine Qmt.by_op rfl (by kernel_rfl) ?_
        go_wp2_with fail
        refine ⟨rfl, ?_⟩
        refine Qmt.fork [11] (cls ((Qin.start _ w).alloc (Nat.le_refl _) _)) (by kernel_rfl) (by simp) ⟨?_, trivial⟩
        refine Qmt.by_op rfl (by kernel_rfl) ?_
        go_wp2_with fail
        refine ⟨rfl, ?_⟩
        refine Qmt.by_end (cls hBW.out) (by kernel_rfl) ?_
        go_wp2_with fail
        go_ret
        rw [HT.out]
        exact ⟨rfl, (H.out.step hm).below (((Below.refl _ _).alloc (Nat.le_refl _) _).drew), ((Kept.refl R w).setCell 1 _).trans (Kept.of_below (((Below.refl _ _).alloc (Nat.le_refl _) _).drew))⟩
      · obtain ⟨e1, e2⟩ := str_ne (Nat.pos_of_ne_zero h0)
        have hxe : ((tk ts n).text.toList == text.toList) = true := by
          have := HI.out
          rw [e2, Bool.false_or, Bool.and_eq_true] at this
          exact this.2
        have hx : ((tk ts n).text.toList != text.toList) = false := by
          have := HI.out
          rw [e2, Bool.false_or, Bool.and_eq_true] at this
          simpa using this.2
        clear h0
        go_enter Tryz.func26, Tryz.ntmps26
        go_wp2_with fail
        refine Qmt.wp_region (C := Cls (Below w.heap.size w)) (by kernel_rfl) (by kernel_rfl) ?_
        simp only [List.length_cons, List.length_nil]
        refine Qmt.takes [0, 1, 2, 3, 4, 5, 6, 7, 8, 9] 2 _ _ _ (cls (Qin.start _ w)) (by kernel_rfl) ?_
        simp only [List.filterMap_cons, List.filterMap_nil, List.getElem?_toArray, List.getElem?_cons_zero, List.getElem?_cons_succ]
        change wpQuiet _ _ _ _ [_, _, _, _, _, _, _, _, _, _] _
        repeat (go_big_quiet_step (fail))
        refine wpQuiet_nil ?_
        refine Qmt.fork [10] (cls (Qin.start _ w)) (by kernel_rfl) (by simp) ⟨?_, trivial⟩
        refine Qmt.by_op rfl (by kernel_rfl) ?_
        go_wp2_with fail
        refine ⟨rfl, ?_⟩
        refine Qmt.fork [11] (cls ((Qin.start _ w).alloc (Nat.le_refl _) _)) (by kernel_rfl) (by simp) ⟨?_, trivial⟩
        refine Qmt.by_op rfl (by kernel_rfl) ?_
        go_wp2_with fail
        refine ⟨rfl, ?_⟩
        refine Qmt.by_end (cls hBW.out) (by kernel_rfl) ?_
        go_wp2_with fail
        go_ret
        rw [HT.out]
        exact ⟨rfl, (H.out.step hm).below (((Below.refl _ _).alloc (Nat.le_refl _) _).drew), ((Kept.refl R w).setCell 1 _).trans (Kept.of_below (((Below.refl _ _).alloc (Nat.le_refl _) _).drew))⟩
set_option maxHeartbeats 4000000 in
set_option maxRecDepth 100000 in
theorem ris_any (ts : List Tok) (s : St) (R : Nat) (A : Option Addr) (c : Nat) (w : World) (h : Rf w R A c ts s) :
    Calls Tryz.prog 79 #[.pointer (some ⟨R, 0, none⟩), .string ⟨#[44]⟩] w fun e w' => e = .returned (.bool (isB ts 4 ⟨#[44]⟩ s)) ∧ Below w.heap.size w w' := by
  obtain ⟨n, e, a, hS, hB, b, off, rfl, hb, hR, hT⟩ := h
  have hn := hS.1
  obtain ⟨t0, t1, t2⟩ := hT n _ (tk_get hn)
  have c0 := hB.cell (i := 0) rfl
  have c1 := hB.cell (i := 1) rfl
  have c3 := hB.cell (i := 3) rfl
  cases s with
  | bad e' a' =>
    obtain ⟨_, h1, h0, h3⟩ := hS
    subst h1; subst h3
    have he0 : ((e : Int) == 0) = false := by simpa using h0
    clear hB hT h0 hn
    go_enter Tryz.func79, Tryz.ntmps79
    go_wp2_with fail
    go_quiet (fail)
    go_wp2_with fail
    go_ret
    exact ⟨rfl, below_drewN (Below.refl _ _) _⟩
  | ok m =>
    obtain ⟨_, h1, h2, h3⟩ := hS
    subst h1; subst h2; subst h3
    change w.cell? ⟨R, 3, none⟩ = some (.int .i64 0) at c3
    have HR : Hid (isB ts 4 ⟨#[44]⟩ (.ok n) = hitT (tk ts n) 4 ⟨#[44]⟩) := rfl
    unfold hitT at HR
    rw [tl_mk] at HR
    generalize tk ts n = t at *
    clear hB hT t2
    cases hk : (t.kind == 4)
    · rw [hk] at HR
      go_enter Tryz.func79, Tryz.ntmps79
      go_wp2_with fail
      go_quiet (fail)
      go_wp2_with fail
      go_ret
      exact ⟨ret_bool HR.out.symm, below_drewN (Below.refl _ _) _⟩
    · rw [hk] at HR
      cases hx : (t.text.toList == [44])
      all_goals
        go_enter Tryz.func79, Tryz.ntmps79
        go_wp2_with fail
        go_quiet (fail)
        go_wp2_with fail
        go_ret
        exact ⟨ret_bool (by rw [HR.out, hx]; rfl), below_drewN (Below.refl _ _) _⟩
end Go.Proofs.YtnbdckfnohagbaaGreatDoor.PqI
